/-
  The document's search, plainly: block by block, the last one first, until nothing is added. No condition. Tables of the call's own; the document's empty one: contract. No condition. The least table by the document: contract. No condition. The program's check of an allocation: contract. No condition. Allocations: the example, awake. No condition. AllocHolds: the row. No condition. AllocEach: the row. No condition. AllocMore: the row. No condition. Words as numbers, plainly: bits, and what the operations make of them. No condition. The document's run of blocks, plainly: what an instruction, a block, a function, a program does. No condition. Two runs of blocks whose registers agree where they matter: one instruction, plainly. No condition. Two runs of blocks whose registers agree where they matter: instructions, one by one; a register that does not matter set ahead of a block, plainly. No condition. Blocks' programs that may be, plainly: what their parts are; states stay well. No condition. A function with other registers, one for each place, does the same, plainly. No condition. Allocations: a function with other registers: contract. No condition. Functions with other registers may be, too; a program of such functions does the same. No condition. The document's words: contracts: bits, shifts, what the operations make of two words. No condition. The document's words: what the operations make of two words is what the program makes of them. No condition. The document's run of blocks: an instruction, a function: contracts. No condition. The document's run of blocks: a function, a program: contracts. No condition. AllocTrue: the row. No condition.
-/
import Derived.Test.YtncjbipnkdlkoaaZ2
import Derived.Test.YtncjbipnkdlkoaaUY
set_option linter.unusedVariables false
set_option linter.unusedSimpArgs false
namespace Go.Proofs.Ytncjbipnkdlkoaa
set_option linter.unusedSimpArgs false
set_option linter.unusedVariables false
open Go.V
structure PV where
  I : List (List Bool)
  O : List (List Bool)
  m : Bool
def inOf (f : BF) (I O : List (List Bool)) (b : Nat) : List Bool := aheadL (f.bk b) (newO f I O b)
def stepR (f : BF) (p : PV) (b : Nat) : PV := ⟨p.I.set b (orL (p.I.getD b []) (inOf f p.I p.O b)), p.O.set b (newO f p.I p.O b), p.m || decide (orL (p.I.getD b []) (inOf f p.I p.O b) ≠ p.I.getD b [])⟩
def passR (f : BF) (I O : List (List Bool)) : Nat → PV
  | 0 => ⟨I, O, false⟩
  | c + 1 => stepR f (passR f I O c) (f.n - 1 - c)
structure RInv (f : BF) (I O : List (List Bool)) : Prop where
  sz : SizedP f ⟨I, O⟩
  un : Under f ⟨I, O⟩
section
variable {f : BF}
theorem RInv.olen (hf : Fine f) {I O : List (List Bool)} (h : RInv f I O) {b : Nat} (hb : b < f.n) : (newO f I O b).length = f.r := newO_len (σ := ⟨I, O, []⟩) hf h.sz hb
theorem RInv.alen (hf : Fine f) {I O : List (List Bool)} (h : RInv f I O) {b : Nat} (hb : b < f.n) : (inOf f I O b).length = f.r := by unfold inOf; rw [aheadL_len, h.olen hf hb]
theorem RInv.step (hf : Fine f) {p : PV} (h : RInv f p.I p.O) {b : Nat} (hb : b < f.n) : RInv f (stepR f p b).I (stepR f p b).O := by
  have hbO : b < p.O.length := by rw [show p.O.length = f.n from h.sz.o]; exact hb
  have hil : (p.I.getD b []).length = f.r := h.sz.il hb
  have hs1 := h.sz.setO (b := b) (h.olen hf hb)
  refine ⟨hs1.setI (by rw [orL_len, hil]), under_in hf hs1 (under_out hf h.sz h.un hb) hb fun v hv e => ?_⟩
  rw [gB_or _ _ (by rw [hil]; exact hv), Bool.or_eq_true] at e
  rcases e with e | e
  · exact .inl e
  · refine .inr ?_
    rw [row_set hbO, if_pos rfl]
    exact e
theorem RInv.pass (hf : Fine f) {I O : List (List Bool)} (h : RInv f I O) : ∀ c, c ≤ f.n → RInv f (passR f I O c).I (passR f I O c).O
  | 0, _ => h
  | c + 1, hc => RInv.step hf (RInv.pass hf h c (by omega)) (by omega)
theorem or_self_ge {a b : List Bool} {v : Nat} (hv : v < a.length) (e : orL a b = a) (h : gB b v = true) : gB a v = true := by
  rw [← e, gB_or _ _ hv, h, Bool.or_true]
theorem pass_mono (hf : Fine f) {I O : List (List Bool)} (h : RInv f I O) : ∀ c, c ≤ f.n → unset (passR f I O c).I ≤ unset I ∧ ((passR f I O c).m = true → unset (passR f I O c).I < unset I)
  | 0, _ => ⟨Nat.le_refl _, fun e => by simp [passR] at e⟩
  | c + 1, hc => by
    obtain ⟨h1, h2⟩ := pass_mono hf h c (by omega)
    have hI := h.pass hf c (by omega)
    have hb : f.n - 1 - c < f.n := by omega
    have hu := unset_set (m := (passR f I O c).I) (b := f.n - 1 - c) (l := orL ((passR f I O c).I.getD (f.n - 1 - c) []) (inOf f (passR f I O c).I (passR f I O c).O (f.n - 1 - c)))
      (by rw [show (passR f I O c).I.length = f.n from hI.sz.i]; exact hb) (by rw [orL_len]) fun v e => by rw [gB_or _ _ (gB_le e), e]; rfl
    refine ⟨Nat.le_trans hu.1 h1, fun e => ?_⟩
    have e' : ((passR f I O c).m || decide (orL ((passR f I O c).I.getD (f.n - 1 - c) []) (inOf f (passR f I O c).I (passR f I O c).O (f.n - 1 - c)) ≠ (passR f I O c).I.getD (f.n - 1 - c) [])) = true := e
    rw [Bool.or_eq_true, decide_eq_true_eq] at e'
    rcases e' with e' | e'
    · exact Nat.lt_of_le_of_lt hu.1 (h2 e')
    · exact Nat.lt_of_lt_of_le (hu.2 (fun g => e' g.symm)) h1
theorem pass_still (hf : Fine f) {I O : List (List Bool)} (h : RInv f I O) : ∀ c, c ≤ f.n → (passR f I O c).m = false → (passR f I O c).I = I ∧
    ∀ b < f.n, f.n - c ≤ b → (∀ k ∈ nxt (f.bk b), ∀ v < f.r, gB (I.getD k.toNat []) v = true → gB ((passR f I O c).O.getD b []) v = true) ∧ ∀ v < f.r, gB (aheadL (f.bk b) ((passR f I O c).O.getD b [])) v = true → gB (I.getD b []) v = true
  | 0, _, _ => ⟨rfl, fun b hb h => by omega⟩
  | c + 1, hc, hm => by
    have hm' : ((passR f I O c).m || decide (orL ((passR f I O c).I.getD (f.n - 1 - c) []) (inOf f (passR f I O c).I (passR f I O c).O (f.n - 1 - c)) ≠ (passR f I O c).I.getD (f.n - 1 - c) [])) = false := hm
    rw [Bool.or_eq_false_iff, decide_eq_false_iff_not] at hm'
    obtain ⟨h1, h2⟩ := pass_still hf h c (by omega) hm'.1
    have hI := h.pass hf c (by omega)
    have hsame : orL ((passR f I O c).I.getD (f.n - 1 - c) []) (inOf f (passR f I O c).I (passR f I O c).O (f.n - 1 - c)) = (passR f I O c).I.getD (f.n - 1 - c) [] := Classical.not_not.1 hm'.2
    have hb : f.n - 1 - c < f.n := by omega
    have hOl : f.n - 1 - c < (passR f I O c).O.length := by rw [show (passR f I O c).O.length = f.n from hI.sz.o]; exact hb
    have hIl : f.n - 1 - c < (passR f I O c).I.length := by rw [show (passR f I O c).I.length = f.n from hI.sz.i]; exact hb
    have hset : (passR f I O (c + 1)).I = I := by
      show (passR f I O c).I.set (f.n - 1 - c) _ = I
      rw [hsame, h1]
      rw [h1] at hIl
      have : I.getD (f.n - 1 - c) [] = I[f.n - 1 - c] := by simp [List.getD, List.getElem?_eq_getElem hIl]
      rw [this, List.set_getElem_self]
    refine ⟨hset, fun b hb' hlo => ?_⟩
    have hO : (passR f I O (c + 1)).O.getD b [] = if f.n - 1 - c = b then newO f (passR f I O c).I (passR f I O c).O (f.n - 1 - c) else (passR f I O c).O.getD b [] := row_set hOl
    rw [hO]
    by_cases e : f.n - 1 - c = b
    · subst e
      rw [if_pos rfl]
      refine ⟨fun k hk v hv g => ?_, fun v hv g => ?_⟩
      · refine newO_way (σ := ⟨(passR f I O c).I, (passR f I O c).O, []⟩) hf hI.sz hb hk hv ?_
        rw [h1]; exact g
      · rw [← h1]
        exact or_self_ge (by rw [show ((passR f I O c).I.getD (f.n - 1 - c) []).length = f.r from hI.sz.il hb]; exact hv) hsame g
    · rw [if_neg e]
      exact h2 b hb' (by omega)
theorem pass_least (hf : Fine f) {I O : List (List Bool)} (h : RInv f I O) (hm : (passR f I O f.n).m = false) : Least f ⟨(passR f I O f.n).I, (passR f I O f.n).O⟩ := by
  have hI := h.pass hf f.n (Nat.le_refl _)
  obtain ⟨h1, h2⟩ := pass_still hf h f.n (Nat.le_refl _) hm
  refine ⟨⟨hI.sz, ⟨fun b hb k hk v hv e => ?_, fun b hb v hv e => ?_⟩⟩, hI.un⟩
  · have e' : gB ((passR f I O f.n).I.getD k.toNat []) v = true := e
    rw [h1] at e'
    exact (h2 b hb (by omega)).1 k hk v hv e'
  · show gB ((passR f I O f.n).I.getD b []) v = true
    rw [h1]
    refine (h2 b hb (by omega)).2 v hv ?_
    rw [gB_ahead hf hb ((passR f I O f.n).O.getD b []) (hI.sz.ol hb) hv]
    exact e
theorem begin_r (f : BF) : RInv f (beginS f).I (beginS f).O := ⟨(begin_inv f).sz, (begin_inv f).un⟩
end
end Go.Proofs.Ytncjbipnkdlkoaa
namespace Go.Proofs.Ytncjbipnkdlkoaa
set_option linter.unusedSimpArgs false
set_option linter.unusedVariables false
set_option maxRecDepth 10000
open Go.V
structure MT (n r : Nat) (H : List VObj) (k s : Nat) (g : Nat → Nat × Nat) (m : List (List Bool)) : Prop where
  l : H[k]? = some ⟨s, 64, 1, (List.range n).map fun b => .ref (g b).1 (g b).2 0 r⟩
  r : ∀ b < n, H[(g b).1]? = some ⟨(g b).2, 4, 1, (m.getD b []).map B⟩
  d : ∀ b < n, ∀ c < n, (g b).1 = (g c).1 → b = c
theorem MT.app {n r : Nat} {H : List VObj} {k s : Nat} {g : Nat → Nat × Nat} {m : List (List Bool)} (h : MT n r H k s g m) (R : List VObj) : MT n r (H ++ R) k s g m :=
  ⟨app_old h.l R, fun b hb => app_old (h.r b hb) R, h.d⟩
theorem cellT_row {n r b : Nat} {g : Nat → Nat × Nat} {C : AV → Prop} : cellT ((List.range n).map fun b => AV.ref (g b).1 (g b).2 0 r) b false 1 C .mk = (b < n ∧ C (.ref (g b).1 (g b).2 0 r)) := by
  rw [cellT_map (fun _ => rfl)]
  apply propext
  rw [List.length_range]
  refine ⟨fun ⟨h1, h2⟩ => ⟨h1, ?_⟩, fun ⟨h1, h2⟩ => ⟨h1, ?_⟩⟩
  · rw [range_get h1] at h2; exact h2
  · rw [range_get h1]; exact h2
structure NQ where
  i : Nat
  s : Nat
  T : List VObj
  g : Nat → Nat × Nat
  nx : Nat
theorem none_v (n r : Nat) (hn : n ≤ 500) (hr : r ≤ 4000) (H : List VObj) (nx : Nat) (C : AV → List VObj → Nat → Prop)
    (hC : ∀ s g R nx', MT n r (H ++ R) H.length s g (List.replicate n (List.replicate r false)) → (∀ b < n, H.length < (g b).1) → C (.ref H.length s 0 n) (H ++ R) nx') :
    VCall Try.prog 22 [I n, I r] H nx C := by
  refine VCall.of_body hmix f_scref27_none (by simp) ?_
  have hmx : (200000 : Nat) ≤ maxLen := by decide
  simp only [go_sem,Nat.reduceEqDiff,Nat.reduceAdd,Nat.reduceMul,↓reduceIte,↓dreduceIte,reduceCtorEq,Nat.reduceLeDiff,Nat.reduceLT,Nat.reduceSub,Int.reduceToNat,Int.reduceLE,Int.reduceLT, c_scref27_none, one_imm, one_ref]
  refine VW_loop (fun x : NQ => ⟨[(0, I n), (1, I r), (5, .ref H.length x.s 0 x.i), (6, I x.i)], H ++ ⟨x.s, 64, 1, (List.range x.i).map fun b => .ref (x.g b).1 (x.g b).2 0 r⟩ :: x.T, x.nx⟩)
    (fun x => x.i ≤ n ∧ (∀ b < x.i, H.length < (x.g b).1 ∧ (H ++ ⟨x.s, 64, 1, (List.range x.i).map fun b => .ref (x.g b).1 (x.g b).2 0 r⟩ :: x.T)[(x.g b).1]? = some ⟨(x.g b).2, 4, 1, (List.replicate r false).map B⟩) ∧
      ∀ b < x.i, ∀ c < x.i, (x.g b).1 = (x.g c).1 → b = c) (fun x => n - x.i) ⟨0, nx, [], fun _ => (0, 0), nx + 1⟩
    (Wk.virt 64 1 (by decide) (by simp [get_cons]) ⟨H, by simp, rfl, fun j ob' ho => ⟨ob', ho, rfl, rfl, rfl, rfl, fun _ => rfl, fun i x y hx hy => .inl (by rw [hx] at hy; exact Option.some.inj hy)⟩⟩ rfl)
    ⟨by simp, by simp, by simp⟩ ?_
  rintro ⟨i, s, T, g, nx⟩ ⟨hi, hg, hd⟩
  simp only at hi hg hd
  by_cases hlt : i < n
  · simp only [go_sem,Nat.reduceEqDiff,Nat.reduceAdd,Nat.reduceMul,↓reduceIte,↓dreduceIte,reduceCtorEq,Nat.reduceLeDiff,Nat.reduceLT,Nat.reduceSub,Int.reduceToNat,Int.reduceLE,Int.reduceLT, one_imm, one_ref, rep_B, eq_true (show (i : Int) < n by omega), app_get, app_get0, app_set0, List.append_assoc, List.length_append]
    repeat ((with_reducible refine And.intro ?_ ?_); · first | omega | exact ⟨rfl, rfl, rfl⟩)
    rw [i64_in (by omega) (by omega)]
    have hle : ((List.range i).map fun b => AV.ref (g b).1 (g b).2 0 r).length = i := by simp
    refine ⟨⟨i + 1, nx + 1 + 1, T ++ [⟨nx, 4, 1, (List.replicate r false).map B⟩, ⟨nx + 1, 64, 1, [.ref (H.length + (T.length + 1)) nx 0 r]⟩], fun b => if b = i then (H.length + (T.length + 1), nx) else g b, nx + 1 + 1 + 1⟩, ⟨by simp only; omega, fun b hb => ?_, fun b hb c hc e => ?_⟩, by simp only; omega, Wk.mk (by simp [get_cons]) ⟨[], ?_⟩ (Nat.le_refl _)⟩
    · simp only at hb ⊢
      by_cases e : b = i
      · subst e
        rw [if_pos rfl]
        refine ⟨by omega, ?_⟩
        simp only [app_get, List.getElem?_cons_succ, app_get0, List.getElem?_cons_zero]
      · rw [if_neg e]
        have hb' := hg b (by omega)
        refine ⟨hb'.1, ?_⟩
        have h2 := hb'.2
        obtain ⟨j, hj⟩ : ∃ j, (g b).1 = H.length + (j + 1) := ⟨(g b).1 - H.length - 1, by have := hb'.1; omega⟩
        rw [hj, app_get, List.getElem?_cons_succ] at h2 ⊢
        exact app_old h2 _
    · simp only at hb hc e
      by_cases e1 : b = i
      · by_cases e2 : c = i
        · rw [e1, e2]
        · rw [if_pos e1, if_neg e2] at e
          obtain ⟨h1, h2⟩ := hg c (by omega)
          have := (List.getElem?_eq_some_iff.1 h2).1
          simp at this; omega
      · by_cases e2 : c = i
        · rw [if_neg e1, if_pos e2] at e
          obtain ⟨h1, h2⟩ := hg b (by omega)
          have := (List.getElem?_eq_some_iff.1 h2).1
          simp at this; omega
        · rw [if_neg e1, if_neg e2] at e
          exact hd b (by omega) c (by omega) e
    · rw [List.append_nil]
      have key : ((List.range i).map fun b => AV.ref (g b).1 (g b).2 0 r).take i ++ [AV.ref (H.length + (T.length + 1)) nx 0 r] =
          (List.range (i + 1)).map fun b => AV.ref (if b = i then (H.length + (T.length + 1), nx) else g b).1 (if b = i then (H.length + (T.length + 1), nx) else g b).2 0 r := by
        rw [List.take_of_length_le (by rw [hle]; omega), List.range_succ, List.map_append]
        congr 1
        · refine List.map_congr_left fun b hb => ?_
          have : b ≠ i := by have := List.mem_range.1 hb; omega
          rw [if_neg this]
        · simp
      exact congrArg (fun c => H ++ VObj.mk (nx + 1 + 1) 64 1 c :: (T ++ [⟨nx, 4, 1, (List.replicate r false).map B⟩, ⟨nx + 1, 64, 1, [.ref (H.length + (T.length + 1)) nx 0 r]⟩])) key
  · obtain rfl : i = n := by omega
    simp only [go_sem,Nat.reduceEqDiff,Nat.reduceAdd,Nat.reduceMul,↓reduceIte,↓dreduceIte,reduceCtorEq,Nat.reduceLeDiff,Nat.reduceLT,Nat.reduceSub,Int.reduceToNat,Int.reduceLE,Int.reduceLT, eq_false (show ¬ (i : Int) < i by omega)]
    refine hC s g _ nx ⟨by rw [app_get0]; rfl, fun b hb => ?_, hd⟩ fun b hb => (hg b hb).1
    rw [(hg b hb).2, List.getD, List.getElem?_replicate, if_pos hb]
    rfl
end Go.Proofs.Ytncjbipnkdlkoaa
namespace Go.Proofs.Ytncjbipnkdlkoaa
set_option linter.unusedSimpArgs false
set_option linter.unusedVariables false
set_option maxRecDepth 10000
open Go.V
def orP (x y : List Bool) (k : Nat) : List Bool := (List.range x.length).map fun i => if i < k then gB x i || gB y i else gB x i
theorem orP_len (x y : List Bool) (k : Nat) : (orP x y k).length = x.length := by simp [orP]
theorem gB_orP (x y : List Bool) (k : Nat) {i : Nat} (hi : i < x.length) : gB (orP x y k) i = if i < k then gB x i || gB y i else gB x i := by
  unfold orP; rw [gB, List.getD]; simp [hi]
theorem orP_zero (x y : List Bool) : orP x y 0 = x := gB_ext (orP_len _ _ _) fun v hv => by
  rw [orP_len] at hv; rw [gB_orP _ _ _ hv, if_neg (by omega)]
theorem orP_all (x y : List Bool) {k : Nat} (hk : x.length ≤ k) : orP x y k = orL x y := gB_ext (by rw [orP_len, orL_len]) fun v hv => by
  rw [orP_len] at hv; rw [gB_orP _ _ _ hv, if_pos (by omega), gB_or _ _ hv]
theorem orP_set (x y : List Bool) {k : Nat} (hk : k < x.length) {w : Bool} (hw : w = (gB x k || gB y k)) : (orP x y k).set k w = orP x y (k + 1) := gB_ext (by simp [orP]) fun v hv => by
  have hv' : v < x.length := by simpa [orP] using hv
  rw [gB_set _ _ _ _ (by rw [orP_len]; exact hv'), gB_orP _ _ _ hv', gB_orP _ _ _ hv']
  by_cases e : k = v
  · subst e; rw [if_pos rfl, if_pos (by omega)]; exact hw
  · rw [if_neg e]
    by_cases h : v < k
    · rw [if_pos h, if_pos (by omega)]
    · rw [if_neg h, if_neg (by omega)]
theorem orP_skip (x y : List Bool) {k : Nat} (hk : k < x.length) (hw : gB x k = (gB x k || gB y k)) : orP x y k = orP x y (k + 1) := by
  rw [← orP_set x y hk hw]
  exact gB_ext (by simp) fun v hv => by
    have hv' : v < x.length := by rw [orP_len] at hv; exact hv
    rw [gB_set _ _ _ _ hv]
    by_cases e : k = v
    · subst e; rw [if_pos rfl, gB_orP _ _ _ hv', if_neg (by omega)]
    · rw [if_neg e]
def moreP (x a : List Bool) (k : Nat) : Bool := (List.range k).any fun i => gB a i && !gB x i
theorem moreP_step (x a : List Bool) (k : Nat) : moreP x a (k + 1) = (moreP x a k || (gB a k && !gB x k)) := by
  unfold moreP; rw [List.range_succ, List.any_append]; simp
theorem moreP_all (x a : List Bool) : moreP x a x.length = decide (orL x a ≠ x) := by
  rw [Bool.eq_iff_iff, decide_eq_true_iff]
  unfold moreP
  rw [List.any_eq_true]
  constructor
  · rintro ⟨i, hi, h⟩ e
    have hi := List.mem_range.1 hi
    have h3 := gB_or x a hi
    rw [e] at h3
    rw [Bool.and_eq_true, Bool.not_eq_true'] at h
    rw [h.1, h.2] at h3
    cases h3
  · intro h
    refine Classical.byContradiction fun hn => h (gB_ext (orL_len _ _) fun v hv => ?_)
    rw [orL_len] at hv
    rw [gB_or _ _ hv]
    cases h1 : gB x v
    · cases h2 : gB a v
      · rfl
      · exact absurd ⟨v, List.mem_range.2 hv, by rw [h1, h2]; rfl⟩ hn
    · rfl
structure RK where
  kl : Nat
  sl : Nat
  k1 : Nat
  s1 : Nat
  k2 : Nat
  s2 : Nat
  g1 : Nat → Nat × Nat
  g2 : Nat → Nat × Nat
structure RS (f : BF) (H : List VObj) (q : RK) (I O : List (List Bool)) : Prop where
  fb : H[0]? = some ⟨0, 24, 1, bfL f⟩
  rl : H[1]? = some ⟨1, 29, 1, [nilv, nilv]⟩
  lv : H[q.kl]? = some ⟨q.sl, 29, 1, [.ref q.k1 q.s1 0 f.n, .ref q.k2 q.s2 0 f.n]⟩
  mi : MT f.n f.r H q.k1 q.s1 q.g1 I
  mo : MT f.n f.r H q.k2 q.s2 q.g2 O
  dio : ∀ b < f.n, ∀ c < f.n, (q.g1 b).1 ≠ (q.g2 c).1
section
variable {f : BF} {H : List VObj} {q : RK} {I O : List (List Bool)}
theorem RS.app (h : RS f H q I O) (R : List VObj) : RS f (H ++ R) q I O := ⟨app_old h.fb R, app_old h.rl R, app_old h.lv R, h.mi.app R, h.mo.app R, h.dio⟩
theorem RS.setO (h : RS f H q I O) (hl : O.length = f.n) {b : Nat} (hb : b < f.n) (l : List Bool) : RS f (H.set (q.g2 b).1 ⟨(q.g2 b).2, 4, 1, l.map B⟩) q I (O.set b l) := by
  have k : KeepT [4] H (H.set (q.g2 b).1 ⟨(q.g2 b).2, 4, 1, l.map B⟩) := KeepT.set (h.mo.r b hb) (by simp)
  have hO : b < O.length := by omega
  refine ⟨k _ _ h.fb (by simp), k _ _ h.rl (by simp), k _ _ h.lv (by simp), ⟨k _ _ h.mi.l (by simp), fun c hc => ?_, h.mi.d⟩, ⟨k _ _ h.mo.l (by simp), fun c hc => ?_, h.mo.d⟩, h.dio⟩
  · rw [set_ne (fun e => h.dio c hc b hb e.symm)]; exact h.mi.r c hc
  · rw [row_set hO]
    by_cases e : b = c
    · subst e; rw [if_pos rfl]; exact set_get (h.mo.r b hb)
    · rw [if_neg e, set_ne (fun g => e (h.mo.d b hb c hc g))]; exact h.mo.r c hc
theorem RS.setI (h : RS f H q I O) (hl : I.length = f.n) {b : Nat} (hb : b < f.n) (l : List Bool) : RS f (H.set (q.g1 b).1 ⟨(q.g1 b).2, 4, 1, l.map B⟩) q (I.set b l) O := by
  have k : KeepT [4] H (H.set (q.g1 b).1 ⟨(q.g1 b).2, 4, 1, l.map B⟩) := KeepT.set (h.mi.r b hb) (by simp)
  have hI : b < I.length := by omega
  refine ⟨k _ _ h.fb (by simp), k _ _ h.rl (by simp), k _ _ h.lv (by simp), ⟨k _ _ h.mi.l (by simp), fun c hc => ?_, h.mi.d⟩, ⟨k _ _ h.mo.l (by simp), fun c hc => ?_, h.mo.d⟩, h.dio⟩
  · rw [row_set hI]
    by_cases e : b = c
    · subst e; rw [if_pos rfl]; exact set_get (h.mi.r b hb)
    · rw [if_neg e, set_ne (fun g => e (h.mi.d b hb c hc g))]; exact h.mi.r c hc
  · rw [set_ne (fun e => h.dio b hb c hc e)]; exact h.mo.r c hc
end
theorem MT.keep {n r : Nat} {H H' : List VObj} {k s : Nat} {g : Nat → Nat × Nat} {m : List (List Bool)} {ts : List Nat} (h : MT n r H k s g m) (kp : KeepT ts H H') (h1 : 64 ∉ ts) (h2 : 4 ∉ ts) : MT n r H' k s g m :=
  ⟨kp _ _ h.l h1, fun b hb => kp _ _ (h.r b hb) h2, h.d⟩
theorem MT.frz {n r : Nat} {H : List VObj} {k s nx : Nat} {g : Nat → Nat × Nat} {m : List (List Bool)} (h : MT n r H k s g m) (hm : m.length = n) (hr : ∀ l ∈ m, l.length = r) : Frz 0 H nx (.ref k s 0 n) (rowsA m) := by
  refine frz_whole (Nat.zero_le _) h.l (by simp [hm]) (by simp [hm]) (by simp [AV.one]) fun i x y hx hy => ?_
  have hi : i < n := by have := (List.getElem?_eq_some_iff.1 hx).1; simpa using this
  simp only [List.getElem?_map, List.getElem?_range hi, Option.map_some, Option.some.injEq] at hx
  rw [List.getElem?_map, List.getElem?_eq_getElem (show i < m.length by omega), Option.map_some, Option.some.injEq] at hy
  subst hx; subst hy
  have e : m.getD i [] = m[i] := by simp [List.getD, List.getElem?_eq_getElem (show i < m.length by omega)]
  have ho := h.r i hi
  rw [e] at ho
  exact frz_bools (Nat.zero_le _) ho (hr _ (List.getElem_mem _)).symm
structure MQ where
  H : List VObj
  I : List (List Bool)
  O : List (List Bool)
  m : Bool
  nx : Nat
structure CMQ where
  c : Nat
  H : List VObj
  nx : Nat
def _root_.Go.V.VC.tl : VC → VC
  | .seq _ y => y
  | x => x
theorem rof_tail (f : BF) (hf : Fine f) (L : LD) (hL : Least f L) (env : List (Nat × AV)) (H : List VObj) (nx : Nat) (q : RK) (he1 : get env 1 = .ptr 0 0 0) (he2 : get env 2 = .ptr 1 1 0) (he3 : get env 3 = I f.n) (he4 : get env 4 = .ptr q.kl q.sl 0)
    (hRS : RS f H q (beginS f).I (beginS f).O) : VW Try.prog c_scref27_Of.tl.tl.tl (retQ Try.prog [VR.cell 2 true 2] fun r H nx => ∃ y, Frz 0 H nx r y ∧ y = liveA L) ⟨env, H, nx⟩ := by
  have hr0 := hf.r0
  have hr4 : f.r ≤ 4000 := by have := hf.r1; unfold BF.r; omega
  have hregs : f.regs = (f.r : Int) := by unfold BF.r; omega
  have hn5 : f.n ≤ 500 := hf.b1
  have hlen : (f.bks.length : Int) = f.n := rfl
  have hfb := hRS.fb
  simp only [go_sem,Nat.reduceEqDiff,Nat.reduceAdd,Nat.reduceMul,↓reduceIte,↓dreduceIte,reduceCtorEq,Nat.reduceLeDiff,Nat.reduceLT,Nat.reduceSub,Int.reduceToNat,Int.reduceLE,Int.reduceLT, c_scref27_Of, VC.tl, he1, he2, he3, he4, hfb]
  refine VCall.of_contract (refnext_c f hf.b1) (SleL.pure rfl) fun x hx => ?_
  subst hx
  simp only [go_sem,Nat.reduceEqDiff,Nat.reduceAdd,Nat.reduceMul,↓reduceIte,↓dreduceIte,reduceCtorEq,Nat.reduceLeDiff,Nat.reduceLT,Nat.reduceSub,Int.reduceToNat,Int.reduceLE,Int.reduceLT]
  refine VW_loop (fun x : MQ => ⟨[(1, .ptr 0 0 0), (2, .ptr 1 1 0), (3, I f.n), (4, .ptr q.kl q.sl 0), (5, nextA f), (6, B x.m)], x.H, x.nx⟩) (fun x => RS f x.H q x.I x.O ∧ RInv f x.I x.O ∧ (x.m = false → Least f ⟨x.I, x.O⟩)) (fun x => if x.m then unset x.I + 1 else 0)
    ⟨H, (beginS f).I, (beginS f).O, true, nx⟩ (Wk.mk (by simp [get_cons, he1, he2, he3, he4]) ⟨[], by simp⟩ (Nat.le_refl _)) ⟨hRS, begin_r f, fun e => by cases e⟩ ?_
  clear hRS hfb
  rintro ⟨H, I0, O0, m, nx⟩ ⟨hRS, hRI, hm⟩
  simp only at hRS hRI hm
  cases m
  · have hLL : (⟨I0, O0⟩ : LD) = L := (hm rfl).unique hL
    subst hLL
    have hlv := hRS.lv
    have hrl := hRS.rl
    have l1 := lt_of hrl
    have kp : KeepT [29] H (H.set 1 ⟨1, 29, 1, [.ref q.k1 q.s1 0 f.n, .ref q.k2 q.s2 0 f.n]⟩) := KeepT.set hrl (by simp)
    simp only [go_sem,Nat.reduceEqDiff,Nat.reduceAdd,Nat.reduceMul,↓reduceIte,↓dreduceIte,reduceCtorEq,Nat.reduceLeDiff,Nat.reduceLT,Nat.reduceSub,Int.reduceToNat,Int.reduceLE,Int.reduceLT, hlv, hrl, List.getElem?_set, l1]
    repeat ((with_reducible refine And.intro ?_ ?_); · omega)
    refine ⟨_, Frz.agg (ys := [rowsA I0, rowsA O0]) ?_, rfl⟩
    exact ⟨_, _, rfl, (hRS.mi.keep kp (by simp) (by simp)).frz hRI.sz.i hRI.sz.ir, _, _, rfl, (hRS.mo.keep kp (by simp) (by simp)).frz hRI.sz.o hRI.sz.or, rfl⟩
  · simp only [go_sem,Nat.reduceEqDiff,Nat.reduceAdd,Nat.reduceMul,↓reduceIte,↓dreduceIte,reduceCtorEq,Nat.reduceLeDiff,Nat.reduceLT,Nat.reduceSub,Int.reduceToNat,Int.reduceLE,Int.reduceLT]
    rw [i64_in (by omega) (by omega)]
    refine VW_loop (fun x : CMQ => ⟨[(1, .ptr 0 0 0), (2, .ptr 1 1 0), (3, I f.n), (4, .ptr q.kl q.sl 0), (5, nextA f), (6, B (passR f I0 O0 x.c).m), (7, I ((f.n : Int) - 1 - x.c))], x.H, x.nx⟩) (fun x => x.c ≤ f.n ∧ RS f x.H q (passR f I0 O0 x.c).I (passR f I0 O0 x.c).O) (fun x => f.n - x.c)
      ⟨0, H, nx⟩ (Wk.mk (by simp [get_cons, passR]) ⟨[], by simp⟩ (Nat.le_refl _)) ⟨by simp, hRS⟩ ?_
    clear hRS
    rintro ⟨c, H, nx⟩ ⟨hc, hRS⟩
    simp only at hc hRS
    by_cases hlt : c < f.n
    · have hP := hRI.pass hf c (by omega)
      have e1 : ((f.n : Int) - 1 - c).toNat = f.n - 1 - c := by omega
      obtain ⟨b, hbe⟩ : ∃ b, b = f.n - 1 - c := ⟨_, rfl⟩
      have hb : b < f.n := by omega
      have hbn : b < f.bks.length := hb
      have hbk : f.bks.getD b default = f.bk b := rfl
      have hbi : (f.n : Int) - 1 - c = b := by omega
      have hnext : passR f I0 O0 (c + 1) = stepR f (passR f I0 O0 c) b := by rw [hbe]; rfl
      rw [hbi]
      generalize passR f I0 O0 c = p at hRS hP hnext ⊢
      have hil : (p.I.getD b []).length = f.r := hP.sz.il hb
      have hol : (p.O.getD b []).length = f.r := hP.sz.ol hb
      have hfb := hRS.fb
      have hlv := hRS.lv
      have hmil := hRS.mi.l
      have hmol := hRS.mo.l
      have hob := hRS.mo.r b hb
      have f1 := ty_ne hob hfb (by simp)
      have f2 := ty_ne hob hlv (by simp)
      have f3 := ty_ne hob hmil (by simp)
      have f4 := ty_ne hob hmol (by simp)
      have l1 := lt_of hob
      have hnl := nxt_len (f.bk b)
      have hto := hf.to _ (BF.mem hb)
      have hlen2 : (f.bks.map fun b => ints (nxt b)).length = f.n := by simp [BF.n]
      simp only [go_sem,Nat.reduceEqDiff,Nat.reduceAdd,Nat.reduceMul,↓reduceIte,↓dreduceIte,reduceCtorEq,Nat.reduceLeDiff,Nat.reduceLT,Nat.reduceSub,Int.reduceToNat,Int.reduceLE,Int.reduceLT, eq_true (show (0 : Int) ≤ (b : Int) by omega)]
      refine VW_loop (fun j : Nat => ⟨[(1, .ptr 0 0 0), (2, .ptr 1 1 0), (3, I f.n), (4, .ptr q.kl q.sl 0), (5, nextA f), (6, B p.m), (7, I b), (8, I j)], H.set (q.g2 b).1 ⟨(q.g2 b).2, 4, 1, (gath p.I (p.O.getD b []) ((nxt (f.bk b)).take j)).map B⟩, nx⟩) (fun j => j ≤ (nxt (f.bk b)).length) (fun j => (nxt (f.bk b)).length - j) 0
        (Wk.mk (by simp [get_cons]) ⟨[], by rw [List.append_nil]; exact (set_of_get hob).symm⟩ (Nat.le_refl _)) (by omega) ?_
      intro j hj
      by_cases hl2 : j < (nxt (f.bk b)).length
      · have hk := hto _ (mem_getD hl2)
        have hgt := gath_take p.I (p.O.getD b []) _ hl2
        have hgl := gath_len p.I ((nxt (f.bk b)).take j) (p.O.getD b [])
        generalize hkk : (nxt (f.bk b)).getD j default = k at hk hgt ⊢
        have hkn : k.toNat < f.n := by unfold BF.n; omega
        have hik := hRS.mi.r k.toNat hkn
        have hkl : (p.I.getD k.toNat []).length = f.r := hP.sz.il hkn
        have f5 : ((q.g2 b).1 = (q.g1 k.toNat).1) = False := eq_false fun e => hRS.dio _ hkn b hb e.symm
        generalize hx : gath p.I (p.O.getD b []) ((nxt (f.bk b)).take j) = x at hgt hgl ⊢
        rw [hol] at hgl
        have hgt' : gath p.I (p.O.getD b []) ((nxt (f.bk b)).take (j + 1)) = orL x (p.I.getD k.toNat []) := hgt
        generalize hy : p.I.getD k.toNat [] = y at hik hkl hgt'
        simp only [go_sem,Nat.reduceEqDiff,Nat.reduceAdd,Nat.reduceMul,↓reduceIte,↓dreduceIte,reduceCtorEq,Nat.reduceLeDiff,Nat.reduceLT,Nat.reduceSub,Int.reduceToNat,Int.reduceLE,Int.reduceLT, one_imm, one_ref, hbk, hkk, List.length_map, eq_true (show (j : Int) < (nxt (f.bk b)).length by omega)]
        repeat ((with_reducible refine And.intro ?_ ?_); · omega)
        refine VW_loop (fun v : Nat => ⟨[(1, .ptr 0 0 0), (2, .ptr 1 1 0), (3, I f.n), (4, .ptr q.kl q.sl 0), (5, nextA f), (6, B p.m), (7, I b), (8, I j), (9, I v)], H.set (q.g2 b).1 ⟨(q.g2 b).2, 4, 1, (orP x y v).map B⟩, nx⟩) (fun v => v ≤ f.r) (fun v => f.r - v) 0
          (Wk.mk (by simp [get_cons]) ⟨[], by rw [orP_zero, List.append_nil]⟩ (Nat.le_refl _)) (by omega) ?_
        intro v hv
        by_cases hl3 : v < f.r
        · have hgx : gB (orP x y v) v = gB x v := by rw [gB_orP _ _ _ (by omega), if_neg (by omega)]
          cases h5 : gB x v
          · have hst : (orP x y v).set v (gB y v) = orP x y (v + 1) := orP_set x y (by omega) (by rw [h5]; rfl)
            simp only [go_sem,Nat.reduceEqDiff,Nat.reduceAdd,Nat.reduceMul,↓reduceIte,↓dreduceIte,reduceCtorEq,Nat.reduceLeDiff,Nat.reduceLT,Nat.reduceSub,Int.reduceToNat,Int.reduceLE,Int.reduceLT, hfb, hlv, hmil, hmol, hik, one_imm, one_ref, cellT_row, hbk, hkk, hregs, List.length_map, eq_true (show (v : Int) < f.r by omega), List.getElem?_set, f1, f2, f3, f4, f5, l1, gB_getD, hgx, h5, set_B, hst, orP_len, List.set_set]
            repeat ((with_reducible refine And.intro ?_ ?_); · omega)
            rw [i64_in (by omega) (by omega)]
            exact ⟨v + 1, by omega, by omega, Wk.mk (by simp [get_cons]) ⟨[], by simp⟩ (Nat.le_refl _)⟩
          · have hst : (orP x y v).set v true = orP x y (v + 1) := orP_set x y (by omega) (by rw [h5]; rfl)
            simp only [go_sem,Nat.reduceEqDiff,Nat.reduceAdd,Nat.reduceMul,↓reduceIte,↓dreduceIte,reduceCtorEq,Nat.reduceLeDiff,Nat.reduceLT,Nat.reduceSub,Int.reduceToNat,Int.reduceLE,Int.reduceLT, hfb, hlv, hmil, hmol, hik, one_imm, one_ref, cellT_row, hbk, hkk, hregs, List.length_map, eq_true (show (v : Int) < f.r by omega), List.getElem?_set, f1, f2, f3, f4, f5, l1, gB_getD, hgx, h5, set_B, hst, orP_len, List.set_set]
            repeat ((with_reducible refine And.intro ?_ ?_); · omega)
            rw [i64_in (by omega) (by omega)]
            exact ⟨v + 1, by omega, by omega, Wk.mk (by simp [get_cons]) ⟨[], by simp⟩ (Nat.le_refl _)⟩
        · obtain rfl : v = f.r := by omega
          simp only [go_sem,Nat.reduceEqDiff,Nat.reduceAdd,Nat.reduceMul,↓reduceIte,↓dreduceIte,reduceCtorEq,Nat.reduceLeDiff,Nat.reduceLT,Nat.reduceSub,Int.reduceToNat,Int.reduceLE,Int.reduceLT, hfb, one_imm, one_ref, hregs, List.getElem?_set, f1, eq_false (show ¬ (f.r : Int) < f.r by omega)]
          rw [i64_in (by omega) (by omega)]
          refine ⟨j + 1, by omega, by omega, Wk.mk (by simp [get_cons]) ⟨[], ?_⟩ (Nat.le_refl _)⟩
          rw [List.append_nil, hgt', orP_all x y (by omega)]
      · obtain rfl : j = (nxt (f.bk b)).length := by omega
        rw [List.take_length, show gath p.I (p.O.getD b []) (nxt (f.bk b)) = newO f p.I p.O b from rfl]
        have hob1 := set_get (x := ⟨(q.g2 b).2, 4, 1, (newO f p.I p.O b).map B⟩) hob
        have hRS1 := hRS.setO hP.sz.o hb (newO f p.I p.O b)
        have holn := hP.olen hf hb
        have haln := hP.alen hf hb
        generalize H.set (q.g2 b).1 ⟨(q.g2 b).2, 4, 1, (newO f p.I p.O b).map B⟩ = H1 at hob1 hRS1 ⊢
        have hfb1 := hRS1.fb
        have hlv1 := hRS1.lv
        have hmol1 := hRS1.mo.l
        have hrg := hf.regs hb (l := newO f p.I p.O b) holn
        have hln := hf.len _ (BF.mem hb)
        simp only [go_sem,Nat.reduceEqDiff,Nat.reduceAdd,Nat.reduceMul,↓reduceIte,↓dreduceIte,reduceCtorEq,Nat.reduceLeDiff,Nat.reduceLT,Nat.reduceSub,Int.reduceToNat,Int.reduceLE,Int.reduceLT, hfb1, hlv1, hmol1, one_imm, one_ref, hbk, cellT_row, List.length_map, eq_false (show ¬ ((nxt (f.bk b)).length : Int) < (nxt (f.bk b)).length by omega)]
        repeat ((with_reducible refine And.intro ?_ ?_); · omega)
        refine rahead_v (f.bk b) (newO f p.I p.O b) _ _ _ (by omega) (by omega) hrg.2 hrg.1 (fun R nx' => frz_bools (Nat.zero_le _) (app_old hob1 R) (by rw [holn])) _ fun R nx2 => ?_
        rw [show aheadL (f.bk b) (newO f p.I p.O b) = inOf f p.I p.O b from rfl]
        have hRS2 := hRS1.app R
        generalize H1 ++ R = H2 at hRS2 ⊢
        clear hob1 hRS1 hfb1 hlv1 hmol1
        have hib2 := hRS2.mi.r b hb
        have hfb2 := hRS2.fb
        have hlv2 := hRS2.lv
        have hmil2 := hRS2.mi.l
        have g1 := ty_ne hib2 hfb2 (by simp)
        have g2 := ty_ne hib2 hlv2 (by simp)
        have g3 := ty_ne hib2 hmil2 (by simp)
        have l2 := lt_of hib2
        have hRS3 := hRS2.setI hP.sz.i hb (orL (p.I.getD b []) (inOf f p.I p.O b))
        have hfin : stepR f p b = ⟨p.I.set b (orL (p.I.getD b []) (inOf f p.I p.O b)), p.O.set b (newO f p.I p.O b), p.m || moreP (p.I.getD b []) (inOf f p.I p.O b) f.r⟩ := by
          unfold stepR; rw [← hil, moreP_all]
        generalize p.I.getD b [] = x at hib2 hil hRS3 hfin
        generalize inOf f p.I p.O b = y at haln hRS3 hfin ⊢
        simp only [go_sem,Nat.reduceEqDiff,Nat.reduceAdd,Nat.reduceMul,↓reduceIte,↓dreduceIte,reduceCtorEq,Nat.reduceLeDiff,Nat.reduceLT,Nat.reduceSub,Int.reduceToNat,Int.reduceLE,Int.reduceLT, one_imm, one_ref]
        refine VW_loop (fun v : Nat => ⟨[(1, .ptr 0 0 0), (2, .ptr 1 1 0), (3, I f.n), (4, .ptr q.kl q.sl 0), (5, nextA f), (6, B (p.m || moreP x y v)), (7, I b), (10, bools y), (11, I v)], H2.set (q.g1 b).1 ⟨(q.g1 b).2, 4, 1, (orP x y v).map B⟩, nx2⟩) (fun v => v ≤ f.r) (fun v => f.r - v) 0
          (Wk.mk (by simp [get_cons, moreP]) ⟨[], by rw [orP_zero, List.append_nil]; exact (set_of_get hib2).symm⟩ (Nat.le_refl _)) (by omega) ?_
        intro v hv
        by_cases hl3 : v < f.r
        · have hgx : gB (orP x y v) v = gB x v := by rw [gB_orP _ _ _ (by omega), if_neg (by omega)]
          have hms := moreP_step x y v
          cases h5 : gB y v
          · have hsk := orP_skip x y (k := v) (by omega) (by rw [h5, Bool.or_false])
            rw [h5] at hms
            simp only [go_sem,Nat.reduceEqDiff,Nat.reduceAdd,Nat.reduceMul,↓reduceIte,↓dreduceIte,reduceCtorEq,Nat.reduceLeDiff,Nat.reduceLT,Nat.reduceSub,Int.reduceToNat,Int.reduceLE,Int.reduceLT, hfb2, one_imm, one_ref, hregs, List.length_map, eq_true (show (v : Int) < f.r by omega), List.getElem?_set, g1, g2, g3, l2, gB_getD, h5]
            repeat ((with_reducible refine And.intro ?_ ?_); · omega)
            rw [i64_in (by omega) (by omega)]
            refine ⟨v + 1, by omega, by omega, Wk.mk (by simp [get_cons, hms]) ⟨[], by simp [hsk]⟩ (Nat.le_refl _)⟩
          · cases h6 : gB x v
            · have hst : (orP x y v).set v true = orP x y (v + 1) := orP_set x y (by omega) (by rw [h5]; simp)
              rw [h5, h6] at hms
              simp only [go_sem,Nat.reduceEqDiff,Nat.reduceAdd,Nat.reduceMul,↓reduceIte,↓dreduceIte,reduceCtorEq,Nat.reduceLeDiff,Nat.reduceLT,Nat.reduceSub,Int.reduceToNat,Int.reduceLE,Int.reduceLT, hfb2, hlv2, hmil2, one_imm, one_ref, cellT_row, hregs, List.length_map, eq_true (show (v : Int) < f.r by omega), List.getElem?_set, g1, g2, g3, l2, gB_getD, h5, hgx, h6, set_B, hst, orP_len, List.set_set]
              repeat ((with_reducible refine And.intro ?_ ?_); · omega)
              rw [i64_in (by omega) (by omega)]
              refine ⟨v + 1, by omega, by omega, Wk.mk (by simp [get_cons, hms]) ⟨[], by simp⟩ (Nat.le_refl _)⟩
            · have hsk := orP_skip x y (k := v) (by omega) (by rw [h6, Bool.true_or])
              rw [h5, h6] at hms
              simp only [go_sem,Nat.reduceEqDiff,Nat.reduceAdd,Nat.reduceMul,↓reduceIte,↓dreduceIte,reduceCtorEq,Nat.reduceLeDiff,Nat.reduceLT,Nat.reduceSub,Int.reduceToNat,Int.reduceLE,Int.reduceLT, hfb2, hlv2, hmil2, one_imm, one_ref, cellT_row, hregs, List.length_map, eq_true (show (v : Int) < f.r by omega), List.getElem?_set, g1, g2, g3, l2, gB_getD, h5, hgx, h6, orP_len]
              repeat ((with_reducible refine And.intro ?_ ?_); · omega)
              rw [i64_in (by omega) (by omega)]
              refine ⟨v + 1, by omega, by omega, Wk.mk (by simp [get_cons, hms]) ⟨[], by simp [hsk]⟩ (Nat.le_refl _)⟩
        · obtain rfl : v = f.r := by omega
          simp only [go_sem,Nat.reduceEqDiff,Nat.reduceAdd,Nat.reduceMul,↓reduceIte,↓dreduceIte,reduceCtorEq,Nat.reduceLeDiff,Nat.reduceLT,Nat.reduceSub,Int.reduceToNat,Int.reduceLE,Int.reduceLT, hfb2, one_imm, one_ref, hregs, List.getElem?_set, g1, eq_false (show ¬ (f.r : Int) < f.r by omega)]
          rw [i64_in (by omega) (by omega), orP_all x y (by omega)]
          refine ⟨⟨c + 1, _, nx2⟩, ⟨by simp only; omega, ?_⟩, by simp only; omega, Wk.mk (by simp [get_cons, hnext, hfin]; omega) ⟨[], by rw [List.append_nil]⟩ (Nat.le_refl _)⟩
          simp only [hnext, hfin]
          exact hRS3
    · obtain rfl : c = f.n := by omega
      simp only [go_sem,Nat.reduceEqDiff,Nat.reduceAdd,Nat.reduceMul,↓reduceIte,↓dreduceIte,reduceCtorEq,Nat.reduceLeDiff,Nat.reduceLT,Nat.reduceSub,Int.reduceToNat,Int.reduceLE,Int.reduceLT, eq_false (show ¬ (0 : Int) ≤ (f.n : Int) - 1 - f.n by omega)]
      have hpm := pass_mono hf hRI f.n (Nat.le_refl _)
      refine ⟨⟨H, (passR f I0 O0 f.n).I, (passR f I0 O0 f.n).O, (passR f I0 O0 f.n).m, nx⟩, ⟨hRS, hRI.pass hf f.n (Nat.le_refl _), fun e => pass_least hf hRI e⟩, ?_, Wk.mk (by simp [get_cons]) ⟨[], by simp⟩ (Nat.le_refl _)⟩
      simp only
      split
      · rename_i e; have := hpm.2 e; omega
      · omega
def Kept (H H' : List VObj) : Prop := ∀ (i : Nat) (ob : VObj), H[i]? = some ob → H'[i]? = some ob
theorem Kept.stab {H H' : List VObj} (h : Kept H H') : Stab (fun _ => True) 1 H H' := fun id ob _ ho => ⟨ob, h id ob ho, rfl, rfl⟩
theorem Kept.app (H R : List VObj) : Kept H (H ++ R) := fun _ _ h => app_old h R
theorem Kept.trans {A B C : List VObj} (h : Kept A B) (k : Kept B C) : Kept A C := fun i ob ho => k i ob (h i ob ho)
theorem MT.kept {n r : Nat} {H H' : List VObj} {k s : Nat} {g : Nat → Nat × Nat} {m : List (List Bool)} (h : MT n r H k s g m) (kp : Kept H H') : MT n r H' k s g m := ⟨kp _ _ h.l, fun b hb => kp _ _ (h.r b hb), h.d⟩
theorem MT.lt {n r : Nat} {H : List VObj} {k s : Nat} {g : Nat → Nat × Nat} {m : List (List Bool)} (h : MT n r H k s g m) {b : Nat} (hb : b < n) : (g b).1 < H.length := (List.getElem?_eq_some_iff.1 (h.r b hb)).1
theorem MT.lv {n r : Nat} {H : List VObj} {k s kl : Nat} {g : Nat → Nat × Nat} {m : List (List Bool)} {o o' : VObj} (h : MT n r H k s g m) (ho : H[kl]? = some o) (ht : o.ty = 29) : MT n r (H.set kl o') k s g m :=
  h.keep (ts := [29]) (KeepT.set ho (by rw [ht]; simp)) (by simp) (by simp)
theorem rof_c (f : BF) (hf : Fine f) (L : LD) (hL : Least f L) : Contract Try.prog 10 [bfA f] (fun x => x = liveA L) := by
  refine Contract.of_call (VCall.of_body hmix f_scref27_Of (by simp) ?_)
  have hr0 := hf.r0
  have hr4 : f.r ≤ 4000 := by have := hf.r1; unfold BF.r; omega
  have hregs : f.regs = (f.r : Int) := by unfold BF.r; omega
  have hn5 : f.n ≤ 500 := hf.b1
  have hlen : (f.bks.length : Int) = f.n := rfl
  have hv1 : ∀ (H : List VObj) (nx : Nat) (C : AV → List VObj → Nat → Prop), (∀ s g H' nx', MT f.n f.r H' H.length s g (beginS f).I → (∀ b < f.n, H.length < (g b).1) → Kept H H' → C (.ref H.length s 0 f.n) H' nx') →
      VCall Try.prog 22 [I f.bks.length, I f.regs] H nx C := fun H nx C hC => by
    rw [hregs, hlen]
    exact none_v f.n f.r hn5 hr4 H nx C fun s g R nx' h1 h2 => hC s g _ nx' h1 h2 (Kept.app _ _)
  have hc : c_scref27_Of = VC.seq _ (VC.seq _ (VC.seq _ c_scref27_Of.tl.tl.tl)) := rfl
  have htail := rof_tail f hf L hL
  obtain ⟨D, hD⟩ : ∃ D, D = c_scref27_Of.tl.tl.tl := ⟨_, rfl⟩
  rw [← hD] at htail
  rw [hc, ← hD]
  simp only [go_sem,Nat.reduceEqDiff,Nat.reduceAdd,Nat.reduceMul,↓reduceIte,↓dreduceIte,reduceCtorEq,Nat.reduceLeDiff,Nat.reduceLT,Nat.reduceSub,Int.reduceToNat,Int.reduceLE,Int.reduceLT, one_imm, one_ref, List.length_map]
  repeat' (with_reducible apply And.intro)
  all_goals
    refine hv1 _ _ _ ?_
    intro s1 g1 H1 nx1 m1 p1 kp1
    refine ⟨kp1.stab, ?_⟩
    have a0 := kp1 0 _ rfl
    have a1 := kp1 1 _ rfl
    have c0 := app_old a0
    have z1 : 2 ≤ H1.length := by have := (List.getElem?_eq_some_iff.1 m1.l).1; (try simp at this); omega
    simp only [go_sem,Nat.reduceEqDiff,Nat.reduceAdd,Nat.reduceMul,↓reduceIte,↓dreduceIte,reduceCtorEq,Nat.reduceLeDiff,Nat.reduceLT,Nat.reduceSub,Int.reduceToNat,Int.reduceLE,Int.reduceLT, one_imm, one_ref, a0, c0]
    repeat' (with_reducible apply And.intro)
    all_goals
      refine hv1 _ _ _ ?_
      intro s2 g2 H2 nx2 m2 p2 kp2
      refine ⟨kp2.stab, ?_⟩
      have kp12 : Kept H1 H2 := by first | exact kp2 | exact (Kept.app _ _).trans kp2
      have hdio : ∀ b < f.n, ∀ c < f.n, (g1 b).1 ≠ (g2 c).1 := fun b hb c hc => by
        have h1 := m1.lt hb
        have h2 := p2 c hc
        try simp only [List.length_append] at h2
        omega
      have z2 : 2 ≤ H2.length := by have := (List.getElem?_eq_some_iff.1 m2.l).1; (try simp at this); omega
      have b0 := kp12 _ _ a0
      have b1 := kp12 _ _ a1
      have mm1 := m1.kept kp12
      first
      | (have b2 := kp12 _ _ (kp1 2 _ rfl)
         simp only [go_sem,Nat.reduceEqDiff,Nat.reduceAdd,Nat.reduceMul,↓reduceIte,↓dreduceIte,reduceCtorEq,Nat.reduceLeDiff,Nat.reduceLT,Nat.reduceSub,Int.reduceToNat,Int.reduceLE,Int.reduceLT, one_imm, one_ref, b2]
         repeat' (with_reducible apply And.intro)
         all_goals first | omega | (refine htail _ _ _ ⟨2, 2, 3, s1, H1.length, s2, g1, g2⟩ ?_ ?_ ?_ ?_ ?_ <;> first | rfl | exact ⟨by rw [set_ne (by omega)]; exact b0, by rw [set_ne (by omega)]; exact b1, set_get b2, mm1.lv b2 rfl, m2.lv b2 rfl, hdio⟩))
      | (simp only [go_sem,Nat.reduceEqDiff,Nat.reduceAdd,Nat.reduceMul,↓reduceIte,↓dreduceIte,reduceCtorEq,Nat.reduceLeDiff,Nat.reduceLT,Nat.reduceSub,Int.reduceToNat,Int.reduceLE,Int.reduceLT, one_imm, one_ref, app_get0, app_set0]
         repeat' (with_reducible apply And.intro)
         all_goals first | omega | (refine htail _ _ _ ⟨H2.length, nx2, 2, s1, H1.length, s2, g1, g2⟩ ?_ ?_ ?_ ?_ ?_ <;> first | rfl | exact ⟨app_old b0 _, app_old b1 _, by rw [app_get0]; rfl, mm1.app _, m2.app _, hdio⟩))
      | (have b2 := kp2 H1.length _ (by rw [app_get0]; rfl)
         have q1 : 1 < H1.length := (List.getElem?_eq_some_iff.1 a1).1
         rw [List.length_append] at m2 ⊢
         simp only [go_sem,Nat.reduceEqDiff,Nat.reduceAdd,Nat.reduceMul,↓reduceIte,↓dreduceIte,reduceCtorEq,Nat.reduceLeDiff,Nat.reduceLT,Nat.reduceSub,Int.reduceToNat,Int.reduceLE,Int.reduceLT, one_imm, one_ref, b2]
         repeat' (with_reducible apply And.intro)
         all_goals first | omega | (refine htail _ _ _ ⟨H1.length, nx1, 2, s1, H1.length + 1, s2, g1, g2⟩ ?_ ?_ ?_ ?_ ?_ <;> first | rfl | exact ⟨by rw [set_ne (by omega)]; exact b0, by rw [set_ne (by omega)]; exact b1, set_get b2, mm1.lv b2 rfl, m2.lv b2 rfl, hdio⟩))
end Go.Proofs.Ytncjbipnkdlkoaa
namespace Go.Proofs.Ytncjbipnkdlkoaa
set_option linter.unusedSimpArgs false
set_option linter.unusedVariables false
set_option maxRecDepth 10000
open Go.V
theorem head_mapC' {ks : List Int} {s : Nat} {r : Loop} : ((mapC ks s).head? = some (AV.lp r)) = False := eq_false (head_mapC ks s r)
theorem mapC_half {ks : List Int} {s : Nat} : (mapC ks s).length / 2 = ks.length := by rw [mapC_len]; omega
theorem mapOK_C {ks : List Int} {s : Nat} : mapOK .i64 (mapC ks s) = True := eq_true (mapOK_mapC ks s)
theorem upd0 {p : Int} {ks : List Int} (h : p ∉ ks) : updA (.int .i64 p) (I (ks.length : Nat)) (mapC ks 0) = mapC (ks ++ [p]) 0 := by
  have := upd_mapC (p := p) ks 0 h
  rw [Nat.zero_add] at this; exact this
def idsF (pl : List Int) (k : Nat) : List Int := (List.range pl.length).map fun v => if v < k then (idN pl v : Int) else 0
theorem idsF_len (pl : List Int) (k : Nat) : (idsF pl k).length = pl.length := by simp [idsF]
theorem idsF_zero (pl : List Int) : idsF pl 0 = List.replicate pl.length 0 := List.ext_getElem (by simp [idsF]) fun i h1 h2 => by simp [idsF]
theorem idsF_all (pl : List Int) : idsF pl pl.length = idsL pl := List.ext_getElem (by simp [idsF]) fun i h1 h2 => by
  have : i < pl.length := by simpa [idsF] using h1
  simp [idsF, idsL, this]
theorem idsF_set (pl : List Int) (k : Nat) : (idsF pl k).set k (idN pl k : Int) = idsF pl (k + 1) := List.ext_getElem (by simp [idsF]) fun i h1 h2 => by
  rw [List.getElem_set]
  simp only [idsF, List.getElem_map, List.getElem_range]
  by_cases h : k = i
  · subst h; simp
  · rw [if_neg h]
    by_cases h3 : i < k
    · rw [if_pos h3, if_pos (by omega)]
    · rw [if_neg h3, if_neg (by omega)]
def takB (pl : List Int) (row : List Bool) (v : Nat) : List Bool := (List.range (seenK pl).length).map fun c => decide (∃ u < v, gB row u = true ∧ idN pl u = c)
theorem takB_len (pl : List Int) (row : List Bool) (v : Nat) : (takB pl row v).length = (seenK pl).length := by simp [takB]
theorem takB_get (pl : List Int) (row : List Bool) (v : Nat) {c : Nat} (hc : c < (seenK pl).length) : gB (takB pl row v) c = decide (∃ u < v, gB row u = true ∧ idN pl u = c) := by
  unfold takB
  rw [gB, List.getD, List.getElem?_map, List.getElem?_range hc]; rfl
theorem takB_zero (pl : List Int) (row : List Bool) : takB pl row 0 = List.replicate (seenK pl).length false := gB_ext (by simp [takB]) fun c hc => by
  rw [takB_len] at hc
  rw [takB_get _ _ _ hc, gB_rep]; simp
theorem takB_skip (pl : List Int) (row : List Bool) {v : Nat} (h : gB row v = false) : takB pl row v = takB pl row (v + 1) := gB_ext (by simp [takB]) fun c hc => by
  rw [takB_len] at hc
  rw [takB_get _ _ _ hc, takB_get _ _ _ hc]
  congr 1
  apply propext
  refine ⟨fun ⟨u, h1, h2⟩ => ⟨u, by omega, h2⟩, fun ⟨u, h1, h2⟩ => ⟨u, ?_, h2⟩⟩
  by_cases e : u = v
  · subst e; rw [h] at h2; exact absurd h2.1 (by decide)
  · omega
theorem takB_set (pl : List Int) (row : List Bool) {v : Nat} (h : gB row v = true) : (takB pl row v).set (idN pl v) true = takB pl row (v + 1) := gB_ext (by simp [takB]) fun c hc => by
  rw [List.length_set, takB_len] at hc
  rw [gB_set _ _ _ _ (by rw [takB_len]; exact hc), takB_get _ _ _ hc, takB_get _ _ _ hc]
  by_cases e : idN pl v = c
  · rw [if_pos e]; symm; exact decide_eq_true ⟨v, by omega, h, e⟩
  · rw [if_neg e]
    congr 1
    apply propext
    refine ⟨fun ⟨u, h1, h2⟩ => ⟨u, by omega, h2⟩, fun ⟨u, h1, h2⟩ => ⟨u, ?_, h2⟩⟩
    by_cases e2 : u = v
    · subst e2; exact absurd h2.2 e
    · omega
theorem cntL_none (pl : List Int) (r : Nat) : cntL' pl (List.replicate r false) = List.replicate (seenK pl).length 0 := List.ext_getElem (by simp [cntL']) fun i h1 h2 => by
  simp only [cntL', List.getElem_map, List.getElem_range, List.getElem_replicate, (cntK_none pl r i).1]; rfl
theorem five_of {H : List VObj} {a b c d e : VObj} (h0 : H[0]? = some a) (h1 : H[1]? = some b) (h2 : H[2]? = some c) (h3 : H[3]? = some d) (h4 : H[4]? = some e) : ∃ tl, H = [a, b, c, d, e] ++ tl := by
  match H, h0, h1, h2, h3, h4 with
  | a' :: b' :: c' :: d' :: e' :: tl, h0, h1, h2, h3, h4 =>
    simp at h0 h1 h2 h3 h4
    exact ⟨tl, by subst h0 h1 h2 h3 h4; rfl⟩
set_option maxHeartbeats 2000000 in
theorem acheck_c (f : BF) (L : LD) (pl : List Int) (n : Int) (hf : Fine f) (hL : LOK L) (hl : pl.length ≤ 140737488355328) : Contract Try.prog 14 [bfA f, liveA L, alA pl, I n] (fun r => r = B (allocB f L pl n)) := by
  refine Contract.of_call (VCall.of_body hmix f_alloc_Check (by simp) ?_)
  have hnn : f.bks.length = f.n := rfl
  have hn5 := hf.b1
  rw [hnn] at hn5
  have hr4 := hf.r1
  have hr0 := hf.r0
  have hmx : (2000000 : Nat) ≤ maxLen := by decide
  have hpos : 0 < f.n := List.length_pos_iff.2 hf.b0
  have hregs : (f.r : Int) = f.regs := by unfold BF.r; omega
  simp only [go_sem,Nat.reduceEqDiff,Nat.reduceAdd,Nat.reduceMul,↓reduceIte,↓dreduceIte,reduceCtorEq,Nat.reduceLeDiff,Nat.reduceLT,Nat.reduceSub,Int.reduceToNat,Int.reduceLE,Int.reduceLT, one_imm, one_ref, List.length_map, c_alloc_Check]
  refine VCall.of_contract (check_c f L hf hL) (SleL.pure rfl) fun x hx => ?_
  subst hx
  cases hc : checkB f L
  · simp only [go_sem,Nat.reduceEqDiff,Nat.reduceAdd,Nat.reduceMul,↓reduceIte,↓dreduceIte,reduceCtorEq,Nat.reduceLeDiff,Nat.reduceLT,Nat.reduceSub,Int.reduceToNat,Int.reduceLE,Int.reduceLT, one_imm, one_ref, List.length_map]
    exact ⟨_, Frz.pure rfl, by simp [allocB, hc]⟩
  have hcl := (checkB_iff hf L).1 hc
  have hli : L.inn.length = f.n := hcl.sz.i
  have hi0 : (L.inn.getD 0 default).length = f.r := hcl.sz.il hpos
  by_cases hpl : (pl.length : Int) = f.regs
  case neg =>
    simp only [go_sem,Nat.reduceEqDiff,Nat.reduceAdd,Nat.reduceMul,↓reduceIte,↓dreduceIte,reduceCtorEq,Nat.reduceLeDiff,Nat.reduceLT,Nat.reduceSub,Int.reduceToNat,Int.reduceLE,Int.reduceLT, one_imm, one_ref, List.length_map, eq_false hpl]
    exact ⟨_, Frz.pure rfl, by simp [allocB, placesB, hpl]⟩
  have hplr : pl.length = f.r := by omega
  have hz1 : (List.replicate f.r [AV.val (.int .i64 0)]).flatten = (idsF pl 0).map I := by rw [idsF_zero, flat_rep, hplr]; simp
  simp only [go_sem,Nat.reduceEqDiff,Nat.reduceAdd,Nat.reduceMul,↓reduceIte,↓dreduceIte,reduceCtorEq,Nat.reduceLeDiff,Nat.reduceLT,Nat.reduceSub,Int.reduceToNat,Int.reduceLE,Int.reduceLT, one_imm, one_ref, List.length_map, hpl, ← hregs, hz1]
  repeat ((with_reducible refine And.intro ?_ ?_); · first | omega | (simp; omega))
  refine VW_loop (fun k : Nat => ⟨[(3, I n), (4, .ptr 0 0 0), (5, .ptr 1 1 0), (6, .ptr 2 2 0), (9, .mref 3 3), (10, .ref 4 4 0 f.r), (38, ints pl), (39, I pl.length), (40, I k)], [⟨0, 24, 1, bfL f⟩, ⟨1, 29, 1, [rowsA L.inn, rowsA L.out]⟩, ⟨2, 33, 1, [ints pl]⟩, ⟨3, 0, 0, mapC (seenK (pl.take k)) 0⟩, ⟨4, 3, 1, (idsF pl k).map I⟩], 5⟩)
    (fun k => k ≤ pl.length ∧ (pl.take k).all (okP n) = true) (fun k => pl.length - k) 0 (Wk.mk (by simp [get_cons, hplr]) ⟨[], by simp [seenK, mapC]; exact hregs⟩ (Nat.le_refl _)) ⟨Nat.zero_le _, rfl⟩ ?_
  rintro k ⟨hk, hq⟩
  by_cases hlt : k < pl.length
  · have hgo : okP n (pl.getD k default) = true → (pl.take (k + 1)).all (okP n) = true := fun e => all_step hlt hq e
    have hno : okP n (pl.getD k default) = false → allocB f L pl n = false := fun e => by
      unfold allocB placesB; rw [all_stop hlt e]; simp
    have hst := seenK_take pl hlt
    have hio := idN_old pl hlt
    have hin := idN_new pl hlt
    have hsl := seenK_len (pl.take k)
    rw [List.length_take] at hsl
    have his := idsF_set pl k
    have hil := idsF_len pl k
    generalize hp : pl.getD k default = p at hgo hno hst hio hin
    have hiff := okP_iff (n := n) (p := p)
    have hlk := eq_true (show (k : Int) < (pl.length : Int) by omega)
    by_cases h1 : 1 ≤ p
    · by_cases h2 : p ≤ n
      · have hgo' := hgo (hiff.2 (by omega))
        by_cases hm : p ∈ seenK (pl.take k)
        · rw [if_pos hm] at hst
          have hio' := hio hm
          simp only [go_sem,Nat.reduceEqDiff,Nat.reduceAdd,Nat.reduceMul,↓reduceIte,↓dreduceIte,reduceCtorEq,Nat.reduceLeDiff,Nat.reduceLT,Nat.reduceSub,Int.reduceToNat,Int.reduceLE,Int.reduceLT, one_imm, one_ref, List.length_map, hlk, hp, lookT_mapC, Option.isSome_some, eq_true hm, hio', Nat.zero_add, set_map, his, eq_true h1, eq_true h2]
          repeat ((with_reducible refine And.intro ?_ ?_); · first | omega | (simp; omega))
          rw [i64_in (n := (k : Int) + 1) (by omega) (by omega)]
          exact ⟨k + 1, ⟨by omega, hgo'⟩, by omega, Wk.mk (by simp [get_cons]) ⟨[], by simp [hst]⟩ (Nat.le_refl _)⟩
        · rw [if_neg hm] at hst
          have hin' := hin hm
          simp only [go_sem,Nat.reduceEqDiff,Nat.reduceAdd,Nat.reduceMul,↓reduceIte,↓dreduceIte,reduceCtorEq,Nat.reduceLeDiff,Nat.reduceLT,Nat.reduceSub,Int.reduceToNat,Int.reduceLE,Int.reduceLT, one_imm, one_ref, List.length_map, hlk, hp, lookT_mapC, Option.isSome_none, eq_false hm, head_mapC', mapC_half, mapOK_C, upd0 hm, hin', set_map, his, eq_true h1, eq_true h2]
          repeat ((with_reducible refine And.intro ?_ ?_); · first | omega | (simp; omega))
          rw [← hin', upd0 hm, hin']
          rw [i64_in (n := (k : Int) + 1) (by omega) (by omega)]
          exact ⟨k + 1, ⟨by omega, hgo'⟩, by omega, Wk.mk (by simp [get_cons]) ⟨[], by simp [hst]⟩ (Nat.le_refl _)⟩
      · simp only [go_sem,Nat.reduceEqDiff,Nat.reduceAdd,Nat.reduceMul,↓reduceIte,↓dreduceIte,reduceCtorEq,Nat.reduceLeDiff,Nat.reduceLT,Nat.reduceSub,Int.reduceToNat,Int.reduceLE,Int.reduceLT, one_imm, one_ref, List.length_map, hlk, hp, eq_true h1, eq_false h2, eq_true (show (-4000 : Int) ≤ p by omega), eq_false (show ¬ p ≤ -1 by omega)]
        repeat ((with_reducible refine And.intro ?_ ?_); · first | omega | (simp; omega))
        refine ⟨_, Frz.pure rfl, ?_⟩
        rw [hno (by cases e : okP n p with | false => rfl | true => have := hiff.1 e; omega)]
    · by_cases h3 : -4000 ≤ p
      · by_cases h4 : p ≤ -1
        · have hgo' := hgo (hiff.2 (by omega))
          by_cases hm : p ∈ seenK (pl.take k)
          · rw [if_pos hm] at hst
            have hio' := hio hm
            simp only [go_sem,Nat.reduceEqDiff,Nat.reduceAdd,Nat.reduceMul,↓reduceIte,↓dreduceIte,reduceCtorEq,Nat.reduceLeDiff,Nat.reduceLT,Nat.reduceSub,Int.reduceToNat,Int.reduceLE,Int.reduceLT, one_imm, one_ref, List.length_map, hlk, hp, lookT_mapC, Option.isSome_some, eq_true hm, hio', Nat.zero_add, set_map, his, eq_false h1, eq_true h3, eq_true h4]
            repeat ((with_reducible refine And.intro ?_ ?_); · first | omega | (simp; omega))
            rw [i64_in (n := (k : Int) + 1) (by omega) (by omega)]
            exact ⟨k + 1, ⟨by omega, hgo'⟩, by omega, Wk.mk (by simp [get_cons]) ⟨[], by simp [hst]⟩ (Nat.le_refl _)⟩
          · rw [if_neg hm] at hst
            have hin' := hin hm
            simp only [go_sem,Nat.reduceEqDiff,Nat.reduceAdd,Nat.reduceMul,↓reduceIte,↓dreduceIte,reduceCtorEq,Nat.reduceLeDiff,Nat.reduceLT,Nat.reduceSub,Int.reduceToNat,Int.reduceLE,Int.reduceLT, one_imm, one_ref, List.length_map, hlk, hp, lookT_mapC, Option.isSome_none, eq_false hm, head_mapC', mapC_half, mapOK_C, upd0 hm, hin', set_map, his, eq_false h1, eq_true h3, eq_true h4]
            repeat ((with_reducible refine And.intro ?_ ?_); · first | omega | (simp; omega))
            rw [← hin', upd0 hm, hin']
            rw [i64_in (n := (k : Int) + 1) (by omega) (by omega)]
            exact ⟨k + 1, ⟨by omega, hgo'⟩, by omega, Wk.mk (by simp [get_cons]) ⟨[], by simp [hst]⟩ (Nat.le_refl _)⟩
        · simp only [go_sem,Nat.reduceEqDiff,Nat.reduceAdd,Nat.reduceMul,↓reduceIte,↓dreduceIte,reduceCtorEq,Nat.reduceLeDiff,Nat.reduceLT,Nat.reduceSub,Int.reduceToNat,Int.reduceLE,Int.reduceLT, one_imm, one_ref, List.length_map, hlk, hp, eq_false h1, eq_true h3, eq_false h4]
          repeat ((with_reducible refine And.intro ?_ ?_); · first | omega | (simp; omega))
          refine ⟨_, Frz.pure rfl, ?_⟩
          rw [hno (by cases e : okP n p with | false => rfl | true => have := hiff.1 e; omega)]
      · simp only [go_sem,Nat.reduceEqDiff,Nat.reduceAdd,Nat.reduceMul,↓reduceIte,↓dreduceIte,reduceCtorEq,Nat.reduceLeDiff,Nat.reduceLT,Nat.reduceSub,Int.reduceToNat,Int.reduceLE,Int.reduceLT, one_imm, one_ref, List.length_map, hlk, hp, eq_false h1, eq_false h3]
        repeat ((with_reducible refine And.intro ?_ ?_); · first | omega | (simp; omega))
        refine ⟨_, Frz.pure rfl, ?_⟩
        rw [hno (by cases e : okP n p with | false => rfl | true => have := hiff.1 e; omega)]
  have hok : pl.all (okP n) = true := all_end (by omega) hq
  obtain rfl : k = pl.length := by omega
  have hpb : placesB pl f.regs n = true := by unfold placesB; rw [hok, decide_eq_true hpl]; rfl
  obtain ⟨row, hrow⟩ : ∃ row, L.inn.getD 0 default = row := ⟨_, rfl⟩
  rw [hrow] at hi0
  have hz2 : (List.replicate (seenK pl).length [AV.val (.bool false)]).flatten = (takB pl row 0).map B := by rw [takB_zero, rep_B]
  have hsk := seenK_len pl
  rw [List.take_of_length_le (Nat.le_refl _), idsF_all]
  simp only [go_sem,Nat.reduceEqDiff,Nat.reduceAdd,Nat.reduceMul,↓reduceIte,↓dreduceIte,reduceCtorEq,Nat.reduceLeDiff,Nat.reduceLT,Nat.reduceSub,Int.reduceToNat,Int.reduceLE,Int.reduceLT, one_imm, one_ref, List.length_map, eq_false (show ¬ (pl.length : Int) < (pl.length : Int) by omega), head_mapC', mapC_half, hz2, hrow]
  repeat ((with_reducible refine And.intro ?_ ?_); · first | omega | (simp; omega))
  refine VW_loop (fun v : Nat => ⟨[(4, .ptr 0 0 0), (5, .ptr 1 1 0), (6, .ptr 2 2 0), (9, .mref 3 3), (10, .ref 4 4 0 f.r), (15, .ref 5 5 0 (seenK pl).length), (86, bools row), (87, I row.length), (88, I v)], [⟨0, 24, 1, bfL f⟩, ⟨1, 29, 1, [rowsA L.inn, rowsA L.out]⟩, ⟨2, 33, 1, [ints pl]⟩, ⟨3, 0, 0, mapC (seenK pl) 0⟩, ⟨4, 3, 1, (idsL pl).map I⟩, ⟨5, 4, 1, (takB pl row v).map B⟩], 6⟩)
    (fun v => v ≤ row.length ∧ apI pl row v) (fun v => row.length - v) 0 (Wk.mk (by simp [get_cons]) ⟨[], by simp⟩ (Nat.le_refl _)) ⟨Nat.zero_le _, fun j hj => by omega⟩ ?_
  rintro v ⟨hv, hap⟩
  by_cases hlv : v < row.length
  · have e0 : row.getD v default = gB row v := rfl
    have hvl := eq_true (show (v : Int) < (row.length : Int) by omega)
    cases hg : gB row v
    · simp only [go_sem,Nat.reduceEqDiff,Nat.reduceAdd,Nat.reduceMul,↓reduceIte,↓dreduceIte,reduceCtorEq,Nat.reduceLeDiff,Nat.reduceLT,Nat.reduceSub,Int.reduceToNat,Int.reduceLE,Int.reduceLT, one_imm, one_ref, List.length_map, hvl, e0, hg]
      repeat ((with_reducible refine And.intro ?_ ?_); · first | omega | (simp; omega))
      rw [i64_in (n := (v : Int) + 1) (by omega) (by omega)]
      refine ⟨v + 1, ⟨by omega, fun j hj i hi a b => ?_⟩, by omega, Wk.mk (by simp [get_cons]) ⟨[], by rw [takB_skip pl row hg]; simp⟩ (Nat.le_refl _)⟩
      by_cases e : j = v
      · subst e; rw [hg] at a; cases a
      · exact hap j (by omega) i hi a b
    · have hid := idN_lt pl (show v < pl.length by omega)
      have hidg := idsL_get pl (show v < pl.length by omega)
      have htl := takB_len pl row v
      have htg := takB_get pl row v hid
      have e2 : (takB pl row v).getD (idN pl v) default = gB (takB pl row v) (idN pl v) := rfl
      cases ht : gB (takB pl row v) (idN pl v)
      · simp only [go_sem,Nat.reduceEqDiff,Nat.reduceAdd,Nat.reduceMul,↓reduceIte,↓dreduceIte,reduceCtorEq,Nat.reduceLeDiff,Nat.reduceLT,Nat.reduceSub,Int.reduceToNat,Int.reduceLE,Int.reduceLT, one_imm, one_ref, List.length_map, hvl, e0, hg, hidg, e2, ht, htl, set_B, takB_set pl row hg]
        repeat ((with_reducible refine And.intro ?_ ?_); · first | omega | (simp; omega))
        rw [i64_in (n := (v : Int) + 1) (by omega) (by omega)]
        refine ⟨v + 1, ⟨by omega, fun j hj i hi a b => ?_⟩, by omega, Wk.mk (by simp [get_cons]) ⟨[], by simp⟩ (Nat.le_refl _)⟩
        by_cases e : j = v
        · subst e
          rw [ht] at htg
          intro e3
          exact of_decide_eq_false htg.symm ⟨i, hi, b, ((idN_eq pl (by omega) (by omega)).2 e3).symm⟩
        · exact hap j (by omega) i hi a b
      · simp only [go_sem,Nat.reduceEqDiff,Nat.reduceAdd,Nat.reduceMul,↓reduceIte,↓dreduceIte,reduceCtorEq,Nat.reduceLeDiff,Nat.reduceLT,Nat.reduceSub,Int.reduceToNat,Int.reduceLE,Int.reduceLT, one_imm, one_ref, List.length_map, hvl, e0, hg, hidg, e2, ht, htl]
        repeat ((with_reducible refine And.intro ?_ ?_); · first | omega | (simp; omega))
        refine ⟨_, Frz.pure rfl, ?_⟩
        rw [ht] at htg
        obtain ⟨u, hu1, hu2, hu3⟩ := of_decide_eq_true htg.symm
        have hapf : apartB pl row = false := decide_eq_false fun e => e v hlv u hu1 hg hu2 ((idN_eq pl (by omega) (by omega)).1 hu3.symm)
        have : allocB f L pl n = false := by
          unfold allocB
          rw [hrow, hapf]; simp
        rw [this]
  have hapb : apartB pl row = true := decide_eq_true fun j hj => hap j (by omega)
  simp only [go_sem,Nat.reduceEqDiff,Nat.reduceAdd,Nat.reduceMul,↓reduceIte,↓dreduceIte,reduceCtorEq,Nat.reduceLeDiff,Nat.reduceLT,Nat.reduceSub,Int.reduceToNat,Int.reduceLE,Int.reduceLT, one_imm, one_ref, List.length_map, hnn, eq_false (show ¬ (v : Int) < (row.length : Int) by omega)]
  refine VW_loop (fun x : WQ => ⟨[(4, .ptr 0 0 0), (5, .ptr 1 1 0), (6, .ptr 2 2 0), (9, .mref 3 3), (10, .ref 4 4 0 f.r), (110, bksA f.bks), (111, I f.n), (112, I x.k)], [⟨0, 24, 1, bfL f⟩, ⟨1, 29, 1, [rowsA L.inn, rowsA L.out]⟩, ⟨2, 33, 1, [ints pl]⟩, ⟨3, 0, 0, mapC (seenK pl) 0⟩, ⟨4, 3, 1, (idsL pl).map I⟩], x.nx⟩)
    (fun x => x.k ≤ f.n ∧ blkAll f L pl x.k) (fun x => f.n - x.k) ⟨0, [], 6⟩ (Wk.mk (by simp [get_cons]) ⟨[⟨5, 4, 1, (takB pl row v).map B⟩], by simp⟩ (Nat.le_refl _)) ⟨Nat.zero_le _, fun i hi => absurd hi (Nat.not_lt_zero i)⟩ ?_
  rintro ⟨b, H0, nx⟩ ⟨hb, hp2⟩
  simp only at hb hp2
  by_cases hbl : b < f.n
  · have hbk : f.bks.getD b default = f.bk b := rfl
    have hob : b < L.out.length := by rw [hcl.sz.o]; exact hbl
    have hlo : (L.out.getD b default).length = f.r := hcl.sz.ol hbl
    have hrg := hf.regs hbl hlo
    have hlen := hf.len _ (BF.mem hbl)
    have hz3 : (List.replicate f.r [AV.val (.bool false)]).flatten = (List.replicate pl.length false).map B := by rw [rep_B, hplr]
    have hz4 : (List.replicate (seenK pl).length [AV.val (.int .i64 0)]).flatten = (cntL' pl (List.replicate pl.length false)).map I := by rw [cntL_none, flat_rep]; simp
    have hg0 : cntG pl (List.replicate pl.length false) = 0 := (cntK_none pl pl.length 0).2
    have hp4 : pl.length ≤ 4000 := by omega
    have hol2 : (L.out.getD b default).length = pl.length := by omega
    have hlen2 : (f.bk b).ins.length ≤ 1000000 := by omega
    have hrv : (f.bk b).e = 2 → 0 ≤ (f.bk b).v ∧ (f.bk b).v < pl.length := by rw [← hol2]; exact hrg.2
    have hrt2 : ∀ t ∈ (f.bk b).ins, RegT t pl.length := by rw [← hol2]; exact hrg.1
    have hblk : blkAB f L pl b = blkK (f.bk b) (L.out.getD b default) pl := rfl
    simp only [go_sem,Nat.reduceEqDiff,Nat.reduceAdd,Nat.reduceMul,↓reduceIte,↓dreduceIte,reduceCtorEq,Nat.reduceLeDiff,Nat.reduceLT,Nat.reduceSub,Int.reduceToNat,Int.reduceLE,Int.reduceLT, one_imm, one_ref, List.length_map, hbk, ← hregs, head_mapC', mapC_half, hz3, hz4, eq_true (show (b : Int) < (f.n : Int) by omega)]
    repeat' (with_reducible apply And.intro)
    all_goals first | omega | skip
    all_goals
      rw [← hplr]
      first
      | refine wblock_v (pl := pl) (q := ⟨6, nx + 1, 7, nx + 1 + 1, 8, nx + 1 + 1 + 1, 4, 4⟩) (f.bk b) (L.out.getD b default) hp4 hol2 hlen2 hrv hrt2 _ _ ⟨by rw [hg0]; rfl, rfl, rfl, rfl, by simp⟩ _ fun H' nx' kp => ?_
      | refine wblock_v (pl := pl) (q := ⟨6, nx + 1, 8, nx + 1 + 1 + 1, 7, nx + 1 + 1, 4, 4⟩) (f.bk b) (L.out.getD b default) hp4 hol2 hlen2 hrv hrt2 _ _ ⟨by rw [hg0]; rfl, rfl, rfl, rfl, by simp⟩ _ fun H' nx' kp => ?_
      | refine wblock_v (pl := pl) (q := ⟨7, nx + 1 + 1, 6, nx + 1, 8, nx + 1 + 1 + 1, 4, 4⟩) (f.bk b) (L.out.getD b default) hp4 hol2 hlen2 hrv hrt2 _ _ ⟨by rw [hg0]; rfl, rfl, rfl, rfl, by simp⟩ _ fun H' nx' kp => ?_
      | refine wblock_v (pl := pl) (q := ⟨8, nx + 1 + 1 + 1, 6, nx + 1, 7, nx + 1 + 1, 4, 4⟩) (f.bk b) (L.out.getD b default) hp4 hol2 hlen2 hrv hrt2 _ _ ⟨by rw [hg0]; rfl, rfl, rfl, rfl, by simp⟩ _ fun H' nx' kp => ?_
      | refine wblock_v (pl := pl) (q := ⟨7, nx + 1 + 1, 8, nx + 1 + 1 + 1, 6, nx + 1, 4, 4⟩) (f.bk b) (L.out.getD b default) hp4 hol2 hlen2 hrv hrt2 _ _ ⟨by rw [hg0]; rfl, rfl, rfl, rfl, by simp⟩ _ fun H' nx' kp => ?_
      | refine wblock_v (pl := pl) (q := ⟨8, nx + 1 + 1 + 1, 7, nx + 1 + 1, 6, nx + 1, 4, 4⟩) (f.bk b) (L.out.getD b default) hp4 hol2 hlen2 hrv hrt2 _ _ ⟨by rw [hg0]; rfl, rfl, rfl, rfl, by simp⟩ _ fun H' nx' kp => ?_
      obtain ⟨tl, rfl⟩ := five_of (kp 0 _ rfl (by simp) (by simp) (by simp)) (kp 1 _ rfl (by simp) (by simp) (by simp)) (kp 2 _ rfl (by simp) (by simp) (by simp)) (kp 3 _ rfl (by simp) (by simp) (by simp)) (kp 4 _ rfl (by simp) (by simp) (by simp))
      cases hB : blkK (f.bk b) (L.out.getD b default) pl
      · simp only [go_sem,Nat.reduceEqDiff,Nat.reduceAdd,Nat.reduceMul,↓reduceIte,↓dreduceIte,reduceCtorEq,Nat.reduceLeDiff,Nat.reduceLT,Nat.reduceSub,Int.reduceToNat,Int.reduceLE,Int.reduceLT, one_imm, one_ref, List.length_map]
        refine ⟨_, Frz.pure rfl, ?_⟩
        have : allocB f L pl n = false := by
          unfold allocB
          rw [List.all_eq_false.2 ⟨b, List.mem_range.2 hbl, by rw [hblk, hB]; decide⟩]; simp
        rw [this]
      · simp only [go_sem,Nat.reduceEqDiff,Nat.reduceAdd,Nat.reduceMul,↓reduceIte,↓dreduceIte,reduceCtorEq,Nat.reduceLeDiff,Nat.reduceLT,Nat.reduceSub,Int.reduceToNat,Int.reduceLE,Int.reduceLT, one_imm, one_ref, List.length_map]
        rw [i64_in (by omega) (by omega)]
        refine ⟨⟨b + 1, [], nx'⟩, ⟨by simp only; omega, fun j hj => ?_⟩, by simp only; omega, Wk.mk (by simp [get_cons]) ⟨tl, by simp⟩ (Nat.le_refl _)⟩
        simp only at hj
        by_cases e : j = b
        · rw [e, hblk]; exact hB
        · exact hp2 j (by omega)
  · simp only [go_sem,Nat.reduceEqDiff,Nat.reduceAdd,Nat.reduceMul,↓reduceIte,↓dreduceIte,reduceCtorEq,Nat.reduceLeDiff,Nat.reduceLT,Nat.reduceSub,Int.reduceToNat,Int.reduceLE,Int.reduceLT, one_imm, one_ref, List.length_map, eq_false (show ¬ (b : Int) < (f.n : Int) by omega)]
    refine ⟨_, Frz.pure rfl, ?_⟩
    have : allocB f L pl n = true := by
      unfold allocB
      rw [hc, hpb, hrow, hapb, List.all_eq_true.2 fun i hi => hp2 i (by have := List.mem_range.1 hi; omega)]; rfl
    rw [this]
end Go.Proofs.Ytncjbipnkdlkoaa
namespace Go.Proofs.Ytncjbipnkdlkoaa
set_option linter.unusedSimpArgs false
set_option linter.unusedVariables false
set_option maxRecDepth 10000
open Go.V
def exA : BF := ⟨2, [⟨[⟨1, 0, 0, 0, 0, 0, 0, 1⟩, ⟨1, 1, 0, 0, 0, 0, 0, 2⟩, ⟨9, 0, 0, 0, 0, 0, 0, 0⟩, ⟨9, 0, 1, 0, 0, 0, 0, 0⟩], 3, 0, 0, 0⟩]⟩
def exK : LD := ⟨[[false, false]], [[false, false]]⟩
theorem exA_fine : Fine exA := (small28_fine (by decide)).1
theorem exA_least : Least exA exK := by
  refine ⟨(checkB_iff exA_fine exK).1 (by decide), fun I O h b hb v hv => ?_⟩
  have hb' : b = 0 := by have : exA.n = 1 := rfl; omega
  have hv' : v = 0 ∨ v = 1 := by have : exA.r = 2 := rfl; omega
  subst hb'
  rcases hv' with rfl | rfl <;> exact ⟨fun e => absurd e (by decide), fun e => absurd e (by decide)⟩
theorem vals_true' {b : Bool} : ∀ r, r = B b → (∃ u, r = .val u) ∨ ∃ us : List Value, r = .agg (us.map .val) := fun r h => .inl ⟨_, h⟩
theorem vals_int {n : Int} : ∀ r, r = I n → (∃ u, r = .val u) ∨ ∃ us : List Value, r = .agg (us.map .val) := fun r h => .inl ⟨_, h⟩
set_option maxHeartbeats 4000000 in
theorem awake_c : Contract Try.prog 9 [] (fun r => r = B true) := by
  have hq := f_sclaw28_awake
  unfold compF compFp at hq
  refine Contract.of_call (VCall.of_bodyS (pt := false) (pf := false) hmix hq (by simp) ?_)
  have hok : LOK exK := ⟨by decide, by decide, by decide, by decide⟩
  simp only [go_sem,Nat.reduceEqDiff,Nat.reduceAdd,Nat.reduceMul,↓reduceIte,↓dreduceIte,reduceCtorEq,Nat.reduceLeDiff,Nat.reduceLT,Nat.reduceSub,Int.reduceToNat,Int.reduceLE,Int.reduceLT, c_sclaw28_awake, VWs_seq, VWs_ret, VWs_ops, VWs_cond]
  refine ⟨⟨[(0, B false)], [], 0⟩, Wk.mk (by simp [get_cons]) ⟨[], by simp⟩ (Nat.le_refl _), ?_⟩
  simp only [go_sem,Nat.reduceEqDiff,Nat.reduceAdd,Nat.reduceMul,↓reduceIte,↓dreduceIte,reduceCtorEq,Nat.reduceLeDiff,Nat.reduceLT,Nat.reduceSub,Int.reduceToNat,Int.reduceLE,Int.reduceLT, VWs_seq, VWs_ret, VWs_ops, VWs_cond, one_imm, one_ref]
  refine ⟨⟨[(1, .ip (.agg (bkL (exA.bks.getD 0 default)))), (0, B false)], [], 2⟩, give_all fun p hp => ?_, ?_⟩
  · simp only [List.mem_cons, List.not_mem_nil, or_false] at hp
    rcases hp with rfl | rfl
    · right
      refine Frz.ptr (id := 1) (Nat.zero_le _) rfl rfl (by decide) ⟨_, _, rfl, frz_ins (exA.bks.getD 0 default).ins rfl rfl rfl rfl rfl, FrzL.pure rfl⟩
    · left; rfl
  simp only [go_sem,Nat.reduceEqDiff,Nat.reduceAdd,Nat.reduceMul,↓reduceIte,↓dreduceIte,reduceCtorEq,Nat.reduceLeDiff,Nat.reduceLT,Nat.reduceSub,Int.reduceToNat,Int.reduceLE,Int.reduceLT, VWs_seq, VWs_ret, VWs_ops, VWs_cond, one_imm, one_ref]
  refine ⟨⟨[(2, .ip (.agg (bfL exA))), (0, B false)], [], _⟩, give_all fun p hp => ?_, ?_⟩
  · simp only [List.mem_cons, List.not_mem_nil, or_false] at hp
    rcases hp with rfl | rfl
    · right
      refine Frz.ptr (id := 1) (Nat.zero_le _) rfl rfl (by decide) ⟨_, _, rfl, Frz.pure rfl, _, _, rfl, frz_bks exA.bks [inA (exA.bks.getD 0 default).ins] rfl ?_ rfl rfl rfl rfl rfl, rfl⟩
      intro i hi
      have : i = 0 := by have : exA.bks.length = 1 := rfl; omega
      subst this
      exact Frz.pure rfl
    · left; rfl
  simp only [go_sem,Nat.reduceEqDiff,Nat.reduceAdd,Nat.reduceMul,↓reduceIte,↓dreduceIte,reduceCtorEq,Nat.reduceLeDiff,Nat.reduceLT,Nat.reduceSub,Int.reduceToNat,Int.reduceLE,Int.reduceLT, VWs_seq, VWs_ret, VWs_ops, VWs_cond, one_imm, one_ref]
  refine VCall.of_contract (rof_c exA exA_fine exK exA_least) (SleL.pure rfl) fun x hx => ?_
  subst hx
  simp only [go_sem,Nat.reduceEqDiff,Nat.reduceAdd,Nat.reduceMul,↓reduceIte,↓dreduceIte,reduceCtorEq,Nat.reduceLeDiff,Nat.reduceLT,Nat.reduceSub,Int.reduceToNat,Int.reduceLE,Int.reduceLT, VWs_seq, VWs_ret, VWs_ops, VWs_cond, one_imm, one_ref]
  refine ⟨⟨[(2, .ip (.agg (bfL exA))), (3, .ip (liveA exK)), (0, B false)], [], _⟩, give_all fun p hp => ?_, ?_⟩
  · simp only [List.mem_cons, List.not_mem_nil, or_false] at hp
    rcases hp with rfl | rfl | rfl
    · left; rfl
    · right
      exact Frz.ptr (id := 0) (Nat.zero_le _) rfl rfl (by decide) (FrzL.pure rfl)
    · left; rfl
  simp only [go_sem,Nat.reduceEqDiff,Nat.reduceAdd,Nat.reduceMul,↓reduceIte,↓dreduceIte,reduceCtorEq,Nat.reduceLeDiff,Nat.reduceLT,Nat.reduceSub,Int.reduceToNat,Int.reduceLE,Int.reduceLT, VWs_seq, VWs_ret, VWs_ops, VWs_cond, one_imm, one_ref]
  refine VCall.of_contract (of28_c exA exK 2 exA_fine exA_least.cl (by decide) (by decide)) (SleL.pure rfl) fun x hx => ?_
  obtain ⟨pl, rfl, hP⟩ := hx
  have hb := (allocB_iff exA_fine exK pl 2).2 hP
  have hpl : pl.length ≤ 140737488355328 := by rw [hP.len]; decide
  simp only [go_sem,Nat.reduceEqDiff,Nat.reduceAdd,Nat.reduceMul,↓reduceIte,↓dreduceIte,reduceCtorEq,Nat.reduceLeDiff,Nat.reduceLT,Nat.reduceSub,Int.reduceToNat,Int.reduceLE,Int.reduceLT, VWs_seq, VWs_ret, VWs_ops, VWs_cond, one_imm, one_ref]
  refine ⟨⟨[(2, .ip (.agg (bfL exA))), (3, .ip (liveA exK)), (4, .ip (alA pl)), (0, B false)], [], _⟩, give_all fun p hp => ?_, ?_⟩
  · simp only [List.mem_cons, List.not_mem_nil, or_false] at hp
    rcases hp with rfl | rfl | rfl | rfl
    · left; rfl
    · left; rfl
    · right
      exact Frz.ptr (id := 0) (Nat.zero_le _) rfl rfl (Nat.succ_ne_zero 0) (FrzL.pure rfl)
    · left; rfl
  simp only [go_sem,Nat.reduceEqDiff,Nat.reduceAdd,Nat.reduceMul,↓reduceIte,↓dreduceIte,reduceCtorEq,Nat.reduceLeDiff,Nat.reduceLT,Nat.reduceSub,Int.reduceToNat,Int.reduceLE,Int.reduceLT, VWs_seq, VWs_ret, VWs_ops, VWs_cond, one_imm, one_ref]
  refine VCall.of_contract (rcheck28_c exA exK pl 2 exA_fine hok hpl) (SleL.pure rfl) fun x hx => ?_
  rw [hb] at hx
  subst hx
  simp only [go_sem,Nat.reduceEqDiff,Nat.reduceAdd,Nat.reduceMul,↓reduceIte,↓dreduceIte,reduceCtorEq,Nat.reduceLeDiff,Nat.reduceLT,Nat.reduceSub,Int.reduceToNat,Int.reduceLE,Int.reduceLT, VWs_seq, VWs_ret, VWs_ops, VWs_cond, one_imm, one_ref]
  refine VCall.of_contract (acheck_c exA exK pl 2 exA_fine hok hpl) (SleL.pure rfl) fun x hx => ?_
  rw [hb] at hx
  subst hx
  simp only [go_sem,Nat.reduceEqDiff,Nat.reduceAdd,Nat.reduceMul,↓reduceIte,↓dreduceIte,reduceCtorEq,Nat.reduceLeDiff,Nat.reduceLT,Nat.reduceSub,Int.reduceToNat,Int.reduceLE,Int.reduceLT, VWs_seq, VWs_ret, VWs_ops, VWs_cond, one_imm, one_ref]
  refine VCall.of_contractN ((acheck_c exA exK [1, 1] 2 exA_fine hok (by decide)).vals fun r h => vals_true' r h) ?_ fun x hx => ?_
  · exact ⟨_, _, rfl, Frz.pure rfl, _, _, rfl, Frz.pure rfl, _, _, rfl, Frz.agg ⟨_, _, rfl, frz_ints (l := [1, 1]) (Nat.zero_le _) rfl rfl, rfl⟩, _, _, rfl, Frz.pure rfl, rfl⟩
  replace hx : x = B false := hx
  subst hx
  simp only [go_sem,Nat.reduceEqDiff,Nat.reduceAdd,Nat.reduceMul,↓reduceIte,↓dreduceIte,reduceCtorEq,Nat.reduceLeDiff,Nat.reduceLT,Nat.reduceSub,Int.reduceToNat,Int.reduceLE,Int.reduceLT, VWs_seq, VWs_ret, VWs_ops, VWs_cond, one_imm, one_ref]
  refine VCall.of_contractN ((acheck_c exA exK [2, -5] 2 exA_fine hok (by decide)).vals fun r h => vals_true' r h) ?_ fun x hx => ?_
  · exact ⟨_, _, rfl, Frz.pure rfl, _, _, rfl, Frz.pure rfl, _, _, rfl, Frz.agg ⟨_, _, rfl, frz_ints (l := [2, -5]) (Nat.zero_le _) rfl rfl, rfl⟩, _, _, rfl, Frz.pure rfl, rfl⟩
  replace hx : x = B true := hx
  subst hx
  simp only [go_sem,Nat.reduceEqDiff,Nat.reduceAdd,Nat.reduceMul,↓reduceIte,↓dreduceIte,reduceCtorEq,Nat.reduceLeDiff,Nat.reduceLT,Nat.reduceSub,Int.reduceToNat,Int.reduceLE,Int.reduceLT, VWs_seq, VWs_ret, VWs_ops, VWs_cond, one_imm, one_ref]
  refine VCall.of_contractN ((awords_c [2, -5] (by decide)).vals fun r h => vals_int r h) ?_ fun x hx => ?_
  · exact ⟨_, _, rfl, Frz.agg ⟨_, _, rfl, frz_ints (l := [2, -5]) (Nat.zero_le _) rfl rfl, rfl⟩, rfl⟩
  replace hx : x = I 5 := hx
  subst hx
  simp only [go_sem,Nat.reduceEqDiff,Nat.reduceAdd,Nat.reduceMul,↓reduceIte,↓dreduceIte,reduceCtorEq,Nat.reduceLeDiff,Nat.reduceLT,Nat.reduceSub,Int.reduceToNat,Int.reduceLE,Int.reduceLT, VWs_seq, VWs_ret, VWs_ops, VWs_cond, one_imm, one_ref]
  refine ⟨⟨[(0, B true)], [], _⟩, Wk.mk (by simp [get_cons]) ⟨_, (List.nil_append _).symm⟩ (Nat.le_refl _), ?_⟩
  simp only [go_sem,Nat.reduceEqDiff,Nat.reduceAdd,Nat.reduceMul,↓reduceIte,↓dreduceIte,reduceCtorEq,Nat.reduceLeDiff,Nat.reduceLT,Nat.reduceSub,Int.reduceToNat,Int.reduceLE,Int.reduceLT, VWs_seq, VWs_ret, VWs_ops, VWs_cond, one_imm, one_ref]
  exact ⟨_, Frz.pure rfl, rfl⟩
end Go.Proofs.Ytncjbipnkdlkoaa
namespace Go.Proofs.Ytncjbipnkdlkoaa
set_option linter.unusedSimpArgs false
set_option linter.unusedVariables false
set_option maxRecDepth 10000
open Go.V Go.ChangeShapes Go.WideShapes Go.ChangeAt Go.RowKit
theorem awakeE {H : List VObj} {nx : Nat} {A : Nat → Prop} {C : AV → List VObj → Nat → Prop} (h : C (B true) H nx) : ECallT Try.prog A 9 [] H nx C .mk :=
  ECall.of awake_c (SleL.pure rfl) ⟨_, fun _ => Iff.rfl⟩ fun x hx => by subst hx; exact h
theorem SizedP.ok {f : BF} (hf : Fine f) {L : LD} (h : SizedP f L) : LOK L := by
  have h1 := hf.b1
  have h2 := hf.r1
  have h3 := hf.r0
  have hn : f.n = f.bks.length := rfl
  have hr : f.r ≤ 4000 := by unfold BF.r; omega
  have a1 := h.i
  have a2 := h.o
  exact ⟨by omega, by omega, fun l hl => by have := h.ir l hl; omega, fun l hl => by have := h.or l hl; omega⟩
end Go.Proofs.Ytncjbipnkdlkoaa
namespace Go.Proofs.Ytncjbipnkdlkoaa
set_option linter.unusedSimpArgs false
set_option linter.unusedVariables false
set_option maxRecDepth 10000
open Go.V Go.ChangeShapes Go.WideShapes Go.ChangeAt Go.RowKit
end Go.Proofs.Ytncjbipnkdlkoaa
namespace Go.Proofs.Ytncjbipnkdlkoaa
set_option linter.unusedSimpArgs false
set_option linter.unusedVariables false
set_option maxRecDepth 10000
open Go.V Go.ChangeShapes Go.WideShapes Go.ChangeAt Go.RowKit
abbrev askA (f : BF) (L : LD) (pl : List Int) (n : Int) : AV := .agg [I f.regs, bksA f.bks, rowsA L.inn, rowsA L.out, ints pl, I n]
abbrev alSh : Sh := .sl 1 8 (.int .i64)
abbrev askSh : Sh := .agg [.int .i64, .sl 5 56 bkSh, rowsSh, rowsSh, alSh, .int .i64]
theorem ask_of {x : AV} (h : Sh.fit askSh x) : ∃ (f : BF) (L : LD) (pl : List Int) (n : Int), x = askA f L pl n ∧ BfOk f ∧ LOK L ∧ pl.length ≤ 140737488351232 ∧ (∀ p ∈ pl, Int64 p) ∧ Int64 n := by
  simp only [askSh, Sh.fit.eq_5, Sh.fitL] at h
  obtain ⟨ys, rfl, a, _, rfl, ha, b, _, rfl, hb, c, _, rfl, hc, d, _, rfl, hd, e, _, rfl, he, g, _, rfl, hg, rfl⟩ := h
  obtain ⟨r, rfl, k1⟩ := fit_int ha
  simp only [Sh.fit.eq_4] at hb
  obtain ⟨xs, rfl, _, h1, h2⟩ := hb
  obtain ⟨l, rfl, h3⟩ := maps_of (f := bkA) (p := BkOk) (fun y hy => bk_of hy) xs h2
  obtain ⟨i, rfl, g1, g2⟩ := rows_of hc
  obtain ⟨o, rfl, g3, g4⟩ := rows_of hd
  obtain ⟨pl, rfl, g5, g6⟩ := fit_ints he
  obtain ⟨n, rfl, g7⟩ := fit_int hg
  exact ⟨⟨r, l⟩, ⟨i, o⟩, pl, n, rfl, ⟨k1, by simp [reachBytes] at h1 ⊢; omega, h3⟩, ⟨g1, g3, g2, g4⟩, by omega, g6, g7⟩
end Go.Proofs.Ytncjbipnkdlkoaa
namespace Go.Proofs.Ytncjbipnkdlkoaa
set_option linter.unusedSimpArgs false
set_option linter.unusedVariables false
open Go.V
def In32 (n : Int) : Prop := 0 ≤ n ∧ n < 4294967296
theorem w32_in {n : Int} (h : In32 n) : IntKind.u32.wrap n = n := by
  rw [IntKind.wrap_u32]; have := h.1; have := h.2; omega
theorem w32_ok (n : Int) : In32 (IntKind.u32.wrap n) := by
  rw [IntKind.wrap_u32]; constructor <;> omega
def bitsN (x n : Nat) : List Int := (List.range n).map fun i => ((x / 2 ^ i % 2 : Nat) : Int)
theorem bitsN_length (x n : Nat) : (bitsN x n).length = n := by simp [bitsN]
theorem bitsN_get {x n i : Nat} (h : i < n) : (bitsN x n).getD i default = ((x / 2 ^ i % 2 : Nat) : Int) := by simp [bitsN, List.getD, h]
theorem bitsN_succ (x n : Nat) : bitsN x (n + 1) = bitsN x n ++ [((x / 2 ^ n % 2 : Nat) : Int)] := by simp [bitsN, List.range_succ]
theorem bitsN_cons (x n : Nat) : bitsN x (n + 1) = ((x % 2 : Nat) : Int) :: bitsN (x / 2) n := by
  simp only [bitsN, List.range_succ_eq_map, List.map_cons, List.map_map, Nat.pow_zero, Nat.div_one]
  congr 1
  refine List.map_congr_left fun i _ => ?_
  simp only [Function.comp, Nat.pow_succ, Nat.div_div_eq_div_mul]
  rw [Nat.mul_comm]
def numN : List Int → Nat
  | [] => 0
  | b :: l => b.toNat + 2 * numN l
theorem numN_bits : ∀ (n x : Nat), numN (bitsN x n) = x % 2 ^ n
  | 0, x => by simp [bitsN, numN, Nat.mod_one]
  | n + 1, x => by
    rw [bitsN_cons, numN, numN_bits n, Int.toNat_natCast, Nat.pow_succ, Nat.mul_comm (2 ^ n) 2, Nat.mod_mul]
theorem bit_and (x y i : Nat) : (x &&& y) / 2 ^ i % 2 = if x / 2 ^ i % 2 + y / 2 ^ i % 2 = 2 then 1 else 0 := by
  have h := Nat.testBit_and x y i
  simp only [Nat.testBit_eq_decide_div_mod_eq] at h
  have h1 := Nat.mod_two_eq_zero_or_one (x / 2 ^ i)
  have h2 := Nat.mod_two_eq_zero_or_one (y / 2 ^ i)
  have h3 := Nat.mod_two_eq_zero_or_one ((x &&& y) / 2 ^ i)
  rcases h1 with h1 | h1 <;> rcases h2 with h2 | h2 <;> rcases h3 with h3 | h3 <;> simp_all
theorem bit_or (x y i : Nat) : (x ||| y) / 2 ^ i % 2 = if x / 2 ^ i % 2 + y / 2 ^ i % 2 = 0 then 0 else 1 := by
  have h := Nat.testBit_or x y i
  simp only [Nat.testBit_eq_decide_div_mod_eq] at h
  have h1 := Nat.mod_two_eq_zero_or_one (x / 2 ^ i)
  have h2 := Nat.mod_two_eq_zero_or_one (y / 2 ^ i)
  have h3 := Nat.mod_two_eq_zero_or_one ((x ||| y) / 2 ^ i)
  rcases h1 with h1 | h1 <;> rcases h2 with h2 | h2 <;> rcases h3 with h3 | h3 <;> simp_all
theorem bit_xor (x y i : Nat) : (x ^^^ y) / 2 ^ i % 2 = if x / 2 ^ i % 2 + y / 2 ^ i % 2 = 1 then 1 else 0 := by
  have h := Nat.testBit_xor x y i
  simp only [Nat.testBit_eq_decide_div_mod_eq] at h
  have h1 := Nat.mod_two_eq_zero_or_one (x / 2 ^ i)
  have h2 := Nat.mod_two_eq_zero_or_one (y / 2 ^ i)
  have h3 := Nat.mod_two_eq_zero_or_one ((x ^^^ y) / 2 ^ i)
  rcases h1 with h1 | h1 <;> rcases h2 with h2 | h2 <;> rcases h3 with h3 | h3 <;> simp_all
theorem bv32 {a : Int} (h : In32 a) : (BitVec.ofInt IntKind.u32.bits a).toNat = a.toNat := by
  show (BitVec.ofInt 32 a).toNat = a.toNat
  rw [BitVec.toNat_ofInt]
  obtain ⟨h1, h2⟩ := h
  omega
theorem andW_eq {a b : Int} (ha : In32 a) (hb : In32 b) : andW a b = ((a.toNat &&& b.toNat : Nat) : Int) := by
  unfold andW
  rw [BitVec.toNat_and, bv32 ha, bv32 hb]
  refine w32_in ⟨by omega, ?_⟩
  have := Nat.and_lt_two_pow (n := 32) a.toNat (y := b.toNat) (by have := hb.2; have := hb.1; omega)
  omega
theorem orW_eq {a b : Int} (ha : In32 a) (hb : In32 b) : orW a b = ((a.toNat ||| b.toNat : Nat) : Int) := by
  unfold orW
  rw [BitVec.toNat_or, bv32 ha, bv32 hb]
  refine w32_in ⟨by omega, ?_⟩
  have := Nat.or_lt_two_pow (n := 32) (x := a.toNat) (y := b.toNat) (by have := ha.2; have := ha.1; omega) (by have := hb.2; have := hb.1; omega)
  omega
theorem xorW_eq {a b : Int} (ha : In32 a) (hb : In32 b) : xorW a b = ((a.toNat ^^^ b.toNat : Nat) : Int) := by
  unfold xorW
  rw [BitVec.toNat_xor, bv32 ha, bv32 hb]
  refine w32_in ⟨by omega, ?_⟩
  have := Nat.xor_lt_two_pow (n := 32) (x := a.toNat) (y := b.toNat) (by have := ha.2; have := ha.1; omega) (by have := hb.2; have := hb.1; omega)
  omega
theorem shrW_eq {a : Int} (ha : In32 a) (k : Nat) (hk : k ≤ 32) : shrW a k = ((a.toNat / 2 ^ k : Nat) : Int) := by
  unfold shrW
  rw [Int.toNat_natCast, Nat.min_eq_left (by show k ≤ 32; exact hk), Int.fdiv_eq_ediv_of_nonneg _ (by exact Int.le_of_lt (Int.pow_pos (by decide)))]
  have := ha.1
  conv => lhs; rw [show a = ((a.toNat : Nat) : Int) by omega]
  simp
theorem both_bits {op a b : Int} (ha : In32 a) (hb : In32 b) (ho : op = 9 ∨ op = 10 ∨ op = 11) : (applyW op a b).2 = 0 ∧ In32 (applyW op a b).1 ∧ ∀ i, (applyW op a b).1.toNat / 2 ^ i % 2 = if (a.toNat / 2 ^ i % 2 + b.toNat / 2 ^ i % 2 = 2 ∧ op ≠ 11) ∨ (a.toNat / 2 ^ i % 2 + b.toNat / 2 ^ i % 2 = 1 ∧ op ≠ 9) then 1 else 0 := by
  rcases ho with rfl | rfl | rfl
  · refine ⟨rfl, w32_ok _, fun i => ?_⟩
    show (andW a b).toNat / _ % 2 = _
    rw [andW_eq ha hb, Int.toNat_natCast, bit_and]; simp
  · refine ⟨rfl, w32_ok _, fun i => ?_⟩
    show (orW a b).toNat / _ % 2 = _
    rw [orW_eq ha hb, Int.toNat_natCast, bit_or]
    have h1 := Nat.mod_two_eq_zero_or_one (a.toNat / 2 ^ i)
    have h2 := Nat.mod_two_eq_zero_or_one (b.toNat / 2 ^ i)
    rcases h1 with h1 | h1 <;> rcases h2 with h2 | h2 <;> simp [h1, h2]
  · refine ⟨rfl, w32_ok _, fun i => ?_⟩
    show (xorW a b).toNat / _ % 2 = _
    rw [xorW_eq ha hb, Int.toNat_natCast, bit_xor]; simp
end Go.Proofs.Ytncjbipnkdlkoaa
namespace Go.Proofs.Ytncjbipnkdlkoaa
set_option linter.unusedSimpArgs false
set_option linter.unusedVariables false
open Go.V
structure Bst where
  ws : List Int
  out : List UInt8
  rd : Nat
  st : Nat
  en : Int
deriving Inhabited
def byteB (r : Int) : UInt8 := UInt8.ofNat (IntKind.u8.wrap r).toNat
theorem byteB_eq (r : Int) : ((byteB r).toNat : Int) = IntKind.u8.wrap r := by
  unfold byteB
  rw [IntKind.wrap_u8]
  simp only [UInt8.toNat_ofNat']
  omega
def gR (rg : List Int) (i : Int) : Int := rg.getD i.toNat default
def sR (rg : List Int) (i x : Int) : List Int := rg.set i.toNat x
def opF (call : Nat → Bst → Bst) (inp : ByteArray) (t : Tac) (rg : List Int) (σ : Bst) : List Int × Bst :=
  if t.op = 1 then (sR rg t.d t.n, σ)
  else if t.op = 2 then (sR rg t.d (gR rg t.a), σ)
  else if t.op = 3 then (if (applyW t.k (gR rg t.a) (gR rg t.b)).2 = 0 then (sR rg t.d (applyW t.k (gR rg t.a) (gR rg t.b)).1, σ) else (rg, { σ with en := 2 }))
  else if t.op = 4 then (sR rg t.d (gR σ.ws t.base), σ)
  else if t.op = 5 then (rg, { σ with ws := sR σ.ws t.base (gR rg t.a) })
  else if t.op = 6 then (if gR rg t.a < t.size then (sR rg t.d (gR σ.ws (t.base + gR rg t.a)), σ) else (rg, { σ with en := 3 }))
  else if t.op = 7 then (if gR rg t.a < t.size then (rg, { σ with ws := sR σ.ws (t.base + gR rg t.a) (gR rg t.b) }) else (rg, { σ with en := 3 }))
  else if t.op = 8 then (if σ.rd < inp.size then (sR rg t.d (byteAt inp σ.rd), { σ with rd := σ.rd + 1 }) else (sR rg t.d 256, σ))
  else if t.op = 9 then (if 65536 ≤ σ.out.length then (rg, { σ with en := 4 }) else (rg, { σ with out := σ.out ++ [byteB (gR rg t.a)] }))
  else if t.op = 10 then (rg, call t.base.toNat σ)
  else (rg, σ)
def insF (call : Nat → Bst → Bst) (inp : ByteArray) (fuel : Nat) : List Tac → List Int → Bst → List Int × Bst
  | [], rg, σ => (rg, σ)
  | t :: l, rg, σ =>
    if fuel ≤ σ.st then (rg, { σ with en := 5 })
    else if (opF call inp t rg { σ with st := σ.st + 1 }).2.en = 0 then insF call inp fuel l (opF call inp t rg { σ with st := σ.st + 1 }).1 (opF call inp t rg { σ with st := σ.st + 1 }).2
    else opF call inp t rg { σ with st := σ.st + 1 }
def goB (k : Bk) (rg : List Int) : Int := if k.e = 2 ∧ gR rg k.v = 0 then k.el else k.to
def blkF (call : Nat → Bst → Bst) (inp : ByteArray) (fuel : Nat) (f : BF) : Nat → Nat → List Int → Bst → Bst
  | 0, _, _, σ => σ
  | g + 1, i, rg, σ =>
    if (insF call inp fuel (f.bks.getD i default).ins rg σ).2.en = 0 then
      (if fuel ≤ (insF call inp fuel (f.bks.getD i default).ins rg σ).2.st then { (insF call inp fuel (f.bks.getD i default).ins rg σ).2 with en := 5 }
      else if (f.bks.getD i default).e = 3 then { (insF call inp fuel (f.bks.getD i default).ins rg σ).2 with st := (insF call inp fuel (f.bks.getD i default).ins rg σ).2.st + 1 }
      else blkF call inp fuel f g (goB (f.bks.getD i default) (insF call inp fuel (f.bks.getD i default).ins rg σ).1).toNat (insF call inp fuel (f.bks.getD i default).ins rg σ).1
        { (insF call inp fuel (f.bks.getD i default).ins rg σ).2 with st := (insF call inp fuel (f.bks.getD i default).ins rg σ).2.st + 1 })
    else (insF call inp fuel (f.bks.getD i default).ins rg σ).2
theorem insF_cons (call : Nat → Bst → Bst) (inp : ByteArray) (fuel : Nat) (t : Tac) (l : List Tac) (rg : List Int) (σ : Bst) : insF call inp fuel (t :: l) rg σ = (if fuel ≤ σ.st then (rg, { σ with en := 5 })
    else if (opF call inp t rg { σ with st := σ.st + 1 }).2.en = 0 then insF call inp fuel l (opF call inp t rg { σ with st := σ.st + 1 }).1 (opF call inp t rg { σ with st := σ.st + 1 }).2
    else opF call inp t rg { σ with st := σ.st + 1 }) := rfl
theorem blkF_succ (call : Nat → Bst → Bst) (inp : ByteArray) (fuel : Nat) (f : BF) (g i : Nat) (rg : List Int) (σ : Bst) : blkF call inp fuel f (g + 1) i rg σ =
    (if (insF call inp fuel (f.bks.getD i default).ins rg σ).2.en = 0 then
      (if fuel ≤ (insF call inp fuel (f.bks.getD i default).ins rg σ).2.st then { (insF call inp fuel (f.bks.getD i default).ins rg σ).2 with en := 5 }
      else if (f.bks.getD i default).e = 3 then { (insF call inp fuel (f.bks.getD i default).ins rg σ).2 with st := (insF call inp fuel (f.bks.getD i default).ins rg σ).2.st + 1 }
      else blkF call inp fuel f g (goB (f.bks.getD i default) (insF call inp fuel (f.bks.getD i default).ins rg σ).1).toNat (insF call inp fuel (f.bks.getD i default).ins rg σ).1
        { (insF call inp fuel (f.bks.getD i default).ins rg σ).2 with st := (insF call inp fuel (f.bks.getD i default).ins rg σ).2.st + 1 })
    else (insF call inp fuel (f.bks.getD i default).ins rg σ).2) := rfl
def funF (fs : List BF) (inp : ByteArray) (fuel : Nat) : Nat → Nat → Bst → Bst
  | 0, _, σ => σ
  | k + 1, i, σ => blkF (funF fs inp fuel k) inp fuel (fs.getD i default) (fuel + 1) 0 (List.replicate (fs.getD i default).regs.toNat 0) σ
structure BRes where
  en : Int
  out : List UInt8
  st : Nat
deriving Inhabited, DecidableEq
def begB (b : BP) : Bst := ⟨List.replicate b.words.toNat 0, [], 0, 0, 0⟩
def finB (b : BP) (inp : ByteArray) (fuel : Nat) : Bst := funF b.funcs inp fuel b.funcs.length (b.funcs.length - 1) (begB b)
def resB (b : BP) (inp : ByteArray) (fuel : Nat) : BRes := ⟨if (finB b inp fuel).en = 0 then 1 else (finB b inp fuel).en, (finB b inp fuel).out, (finB b inp fuel).st⟩
structure WfB (inp : ByteArray) (fuel : Nat) (n : Nat) (σ : Bst) : Prop where
  n : σ.ws.length = n
  w : ∀ x ∈ σ.ws, In32 x
  o : σ.out.length ≤ 65536
  r : σ.rd ≤ inp.size
  s : σ.st ≤ fuel
structure WfR (m : Nat) (rg : List Int) : Prop where
  n : rg.length = m
  w : ∀ x ∈ rg, In32 x
theorem gR_in {m : Nat} {rg : List Int} (h : WfR m rg) {i : Int} (hi : 0 ≤ i ∧ i < m) : In32 (gR rg i) := h.w _ (mem_getD (by rw [h.n]; omega))
theorem sR_wf {m : Nat} {rg : List Int} (h : WfR m rg) (i : Int) {x : Int} (hx : In32 x) : WfR m (sR rg i x) :=
  ⟨by unfold sR; rw [List.length_set]; exact h.n, fun y hy => by
    rcases List.mem_or_eq_of_mem_set hy with h1 | h1
    · exact h.w y h1
    · rw [h1]; exact hx⟩
theorem sR_in {ws : List Int} (h : ∀ x ∈ ws, In32 x) (i : Int) {x : Int} (hx : In32 x) : ∀ y ∈ sR ws i x, In32 y := fun y hy => by
  rcases List.mem_or_eq_of_mem_set hy with h1 | h1
  · exact h y h1
  · rw [h1]; exact hx
theorem sR_len (ws : List Int) (i x : Int) : (sR ws i x).length = ws.length := by simp [sR]
theorem byteAt_32 (s : ByteArray) (k : Nat) : In32 (byteAt s k) ∧ byteAt s k ≤ 255 := by
  have := (s.data.toList.getD k 0).toNat_lt
  unfold byteAt
  exact ⟨⟨by omega, by omega⟩, by omega⟩
theorem w32_32 (n : Int) : In32 (w32 n) := w32_ok n
theorem applyW_in {op a b : Int} (ha : In32 a) (hb : In32 b) : In32 (applyW op a b).1 := by
  obtain ⟨a1, a2⟩ := ha
  obtain ⟨b1, b2⟩ := hb
  have z : In32 0 := ⟨by omega, by omega⟩
  have o : In32 1 := ⟨by omega, by omega⟩
  unfold applyW
  by_cases h4 : op = 4
  · rw [if_pos h4]
    exact w32_32 _
  rw [if_neg h4]
  by_cases h5 : op = 5
  · rw [if_pos h5]
    exact w32_32 _
  rw [if_neg h5]
  by_cases h6 : op = 6
  · rw [if_pos h6]
    exact w32_32 _
  rw [if_neg h6]
  by_cases h7 : op = 7
  · rw [if_pos h7]
    by_cases hb : b = 0
    · rw [if_pos hb]; exact z
    · rw [if_neg hb]; exact w32_32 _
  rw [if_neg h7]
  by_cases h8 : op = 8
  · rw [if_pos h8]
    by_cases hb : b = 0
    · rw [if_pos hb]; exact z
    · rw [if_neg hb]
      exact ⟨Int.tmod_nonneg _ a1, by have := Int.tmod_lt_of_pos a (show 0 < b by omega); show a.tmod b < _; omega⟩
  rw [if_neg h8]
  by_cases h9 : op = 9
  · rw [if_pos h9]
    exact w32_32 _
  rw [if_neg h9]
  by_cases h10 : op = 10
  · rw [if_pos h10]
    exact w32_32 _
  rw [if_neg h10]
  by_cases h11 : op = 11
  · rw [if_pos h11]
    exact w32_32 _
  rw [if_neg h11]
  by_cases h12 : op = 12
  · rw [if_pos h12]
    show In32 (if 31 < b then 0 else shlW a b)
    by_cases hb : 31 < b
    · rw [if_pos hb]; exact z
    · rw [if_neg hb]; exact w32_32 _
  rw [if_neg h12]
  by_cases h13 : op = 13
  · rw [if_pos h13]
    show In32 (if 31 < b then 0 else shrW a b)
    by_cases hb : 31 < b
    · rw [if_pos hb]; exact z
    · rw [if_neg hb]
      unfold shrW
      have hp : (0 : Int) < 2 ^ (min b.toNat IntKind.u32.bits) := Int.pow_pos (by decide)
      rw [Int.fdiv_eq_ediv_of_nonneg _ (Int.le_of_lt hp)]
      exact ⟨Int.ediv_nonneg a1 (Int.le_of_lt hp), by have := Int.ediv_le_self (2 ^ (min b.toNat IntKind.u32.bits)) a1; omega⟩
  rw [if_neg h13]
  by_cases h14 : op = 14
  · rw [if_pos h14]
    show In32 (if a < b then 1 else 0)
    by_cases hb : a < b
    · rw [if_pos hb]; exact o
    · rw [if_neg hb]; exact z
  rw [if_neg h14]
  by_cases h15 : op = 15
  · rw [if_pos h15]
    show In32 (if a = b then 1 else 0)
    by_cases hb : a = b
    · rw [if_pos hb]; exact o
    · rw [if_neg hb]; exact z
  rw [if_neg h15]
  exact z
def CallP (inp : ByteArray) (fuel n k : Nat) (call : Nat → Bst → Bst) : Prop := ∀ i < k, ∀ σ, WfB inp fuel n σ → σ.en = 0 → WfB inp fuel n (call i σ) ∧ σ.st ≤ (call i σ).st
theorem opF_wf {call : Nat → Bst → Bst} {inp : ByteArray} {fuel n k m : Nat} {t : Tac} {rg : List Int} {σ : Bst} (hc : CallP inp fuel n k call) (ht : FitsT t k m n) (hn : In32 t.n) (hr : WfR m rg) (hw : WfB inp fuel n σ) (h0 : σ.en = 0) :
    WfR m (opF call inp t rg σ).1 ∧ WfB inp fuel n (opF call inp t rg σ).2 ∧ σ.st ≤ (opF call inp t rg σ).2.st := by
  obtain ⟨op, d, a, b, kk, base, size, nn⟩ := t
  obtain ⟨h1, h2, h3, h4, h5, h6, h7, h8⟩ := ht
  simp only at h1 h2 h3 h4 h5 h6 h7 hn
  obtain ⟨q1, q2, q3, q4, q5⟩ := hw
  have hop : op = 1 ∨ op = 2 ∨ op = 3 ∨ op = 4 ∨ op = 5 ∨ op = 6 ∨ op = 7 ∨ op = 8 ∨ op = 9 ∨ op = 10 := by omega
  rcases hop with rfl | rfl | rfl | rfl | rfl | rfl | rfl | rfl | rfl | rfl
  all_goals simp only [usesL, SetsT, restT, Int.reduceEq, or_false, or_true, false_or, true_or, or_self, if_true, if_false, List.mem_cons, List.not_mem_nil, forall_eq_or_imp, forall_eq, false_implies, implies_true, and_true] at h3 h4 h8
  all_goals simp only [opF, Int.reduceEq, if_true, if_false]
  · exact ⟨sR_wf hr _ hn, ⟨q1, q2, q3, q4, q5⟩, Nat.le_refl _⟩
  · exact ⟨sR_wf hr _ (gR_in hr h4), ⟨q1, q2, q3, q4, q5⟩, Nat.le_refl _⟩
  · split
    · exact ⟨sR_wf hr _ (applyW_in (gR_in hr h4.1) (gR_in hr h4.2)), ⟨q1, q2, q3, q4, q5⟩, Nat.le_refl _⟩
    · exact ⟨hr, ⟨q1, q2, q3, q4, q5⟩, Nat.le_refl _⟩
  · exact ⟨sR_wf hr _ (q2 _ (mem_getD (by omega))), ⟨q1, q2, q3, q4, q5⟩, Nat.le_refl _⟩
  · exact ⟨hr, ⟨(sR_len _ _ _).trans q1, sR_in q2 _ (gR_in hr h4), q3, q4, q5⟩, Nat.le_refl _⟩
  · have := gR_in hr h4
    have g1 := this.1
    split
    · exact ⟨sR_wf hr _ (q2 _ (mem_getD (by omega))), ⟨q1, q2, q3, q4, q5⟩, Nat.le_refl _⟩
    · exact ⟨hr, ⟨q1, q2, q3, q4, q5⟩, Nat.le_refl _⟩
  · split
    · exact ⟨hr, ⟨(sR_len _ _ _).trans q1, sR_in q2 _ (gR_in hr h4.2), q3, q4, q5⟩, Nat.le_refl _⟩
    · exact ⟨hr, ⟨q1, q2, q3, q4, q5⟩, Nat.le_refl _⟩
  · split
    · exact ⟨sR_wf hr _ (byteAt_32 _ _).1, ⟨q1, q2, q3, by show σ.rd + 1 ≤ _; omega, q5⟩, Nat.le_refl _⟩
    · exact ⟨sR_wf hr _ ⟨by omega, by omega⟩, ⟨q1, q2, q3, q4, q5⟩, Nat.le_refl _⟩
  · split
    · exact ⟨hr, ⟨q1, q2, q3, q4, q5⟩, Nat.le_refl _⟩
    · exact ⟨hr, ⟨q1, q2, by simp only [List.length_append, List.length_cons, List.length_nil]; omega, q4, q5⟩, Nat.le_refl _⟩
  · obtain ⟨g1, g2⟩ := hc base.toNat (by omega) σ ⟨q1, q2, q3, q4, q5⟩ h0
    exact ⟨hr, g1, g2⟩
theorem insF_wf {call : Nat → Bst → Bst} {inp : ByteArray} {fuel n k m : Nat} (hc : CallP inp fuel n k call) : ∀ (l : List Tac) (rg : List Int) (σ : Bst), (∀ t ∈ l, FitsT t k m n ∧ In32 t.n) → WfR m rg → WfB inp fuel n σ → σ.en = 0 →
    WfR m (insF call inp fuel l rg σ).1 ∧ WfB inp fuel n (insF call inp fuel l rg σ).2 ∧ σ.st ≤ (insF call inp fuel l rg σ).2.st
  | [], rg, σ, _, hr, hw, _ => ⟨hr, hw, Nat.le_refl _⟩
  | t :: l, rg, σ, ht, hr, hw, h0 => by
    have h1 := ht t (by simp)
    rw [insF_cons]
    by_cases hf : fuel ≤ σ.st
    · rw [if_pos hf]
      exact ⟨hr, ⟨hw.n, hw.w, hw.o, hw.r, hw.s⟩, Nat.le_refl _⟩
    · rw [if_neg hf]
      obtain ⟨a1, a2, a3⟩ := opF_wf hc h1.1 h1.2 hr (σ := { σ with st := σ.st + 1 }) ⟨hw.n, hw.w, hw.o, hw.r, by show σ.st + 1 ≤ fuel; omega⟩ h0
      replace a3 : σ.st + 1 ≤ _ := a3
      split
      · rename_i h2
        obtain ⟨b1, b2, b3⟩ := insF_wf hc l _ _ (fun t ht' => ht t (by simp [ht'])) a1 a2 h2
        exact ⟨b1, b2, by omega⟩
      · exact ⟨a1, a2, by omega⟩
end Go.Proofs.Ytncjbipnkdlkoaa
namespace Go.Proofs.Ytncjbipnkdlkoaa
set_option linter.unusedSimpArgs false
set_option linter.unusedVariables false
open Go.V
structure Eqv (σ τ : Bst) : Prop where
  ws : σ.ws = τ.ws
  out : σ.out = τ.out
  rd : σ.rd = τ.rd
  en : σ.en = τ.en
theorem Eqv.refl (σ : Bst) : Eqv σ σ := ⟨rfl, rfl, rfl, rfl⟩
theorem Eqv.stp {σ τ : Bst} (h : Eqv σ τ) (a b : Nat) : Eqv { σ with st := a } { τ with st := b } := ⟨h.ws, h.out, h.rd, h.en⟩
theorem Eqv.end_ {σ τ : Bst} (h : Eqv σ τ) (e : Int) : Eqv { σ with en := e } { τ with en := e } := ⟨h.ws, h.out, h.rd, rfl⟩
def renT (to : Nat → Nat) (t : Tac) : Tac :=
  { t with d := if SetsT t then (to t.d.toNat : Int) else t.d, a := if (usesL t).length = 0 then t.a else (to t.a.toNat : Int), b := if (usesL t).length = 2 then (to t.b.toNat : Int) else t.b }
def Agr (to : Nat → Nat) (m : Nat) (M : Nat → Bool) (rg rg' : List Int) : Prop := ∀ u < m, M u = true → rg.getD u default = rg'.getD (to u) default
theorem getD_set (l : List Int) (i j : Nat) (x : Int) (hj : j < l.length) : (l.set i x).getD j default = if i = j then x else l.getD j default := by
  simp only [List.getD]
  rw [List.getElem?_set]
  by_cases h : i = j
  · subst h; simp [hj]
  · rw [if_neg h, if_neg h]
theorem op_sim {call call' : Nat → Bst → Bst} {inp : ByteArray} {t : Tac} {rg rg' : List Int} {σ τ : Bst} {to : Nat → Nat} {m m' : Nat} {M : Nat → Bool} (ht : RegT t m) (hop : 1 ≤ t.op ∧ t.op ≤ 10) (hr : rg.length = m) (hr' : rg'.length = m')
    (hto : ∀ u < m, to u < m') (he : Eqv σ τ) (hc : t.op = 10 → Eqv (call t.base.toNat σ) (call' t.base.toNat τ)) (hd : SetsT t → ∀ u < m, M u = true → u ≠ t.d.toNat → to u ≠ to t.d.toNat) (ha : Agr to m (fun u => bk1 t u (M u)) rg rg') :
    ((opF call inp t rg σ).2.en = 0 → Agr to m M (opF call inp t rg σ).1 (opF call' inp (renT to t) rg' τ).1) ∧ Eqv (opF call inp t rg σ).2 (opF call' inp (renT to t) rg' τ).2 := by
  -- what is read is the same
  have hu : ∀ u ∈ usesL t, gR rg u = gR rg' ((to u.toNat : Nat) : Int) := fun u h => by
    have h1 := ht.1 u h
    have := ha u.toNat (by omega) (by show (if ((u.toNat : Nat) : Int) ∈ usesL t then true else _) = true; rw [if_pos (by rw [Int.toNat_of_nonneg h1.1]; exact h)])
    unfold gR
    rw [Int.toNat_natCast]; exact this
  -- what isn't set stays
  have hst : ∀ u < m, M u = true → (SetsT t → u ≠ t.d.toNat) → rg.getD u default = rg'.getD (to u) default := fun u h1 h2 h3 => by
    refine ha u h1 ?_
    show (if (u : Int) ∈ usesL t then true else if setsL t = (u : Int) then false else M u) = true
    by_cases e : (u : Int) ∈ usesL t
    · rw [if_pos e]
    · rw [if_neg e, if_neg, h2]
      intro e2
      unfold setsL at e2
      by_cases hs : SetsT t
      · rw [if_pos hs] at e2
        have := h3 hs
        omega
      · rw [if_neg hs] at e2; omega
  -- what is set
  have hse : SetsT t → ∀ x : Int, Agr to m M (sR rg t.d x) (sR rg' ((to t.d.toNat : Nat) : Int) x) := fun hs x u h1 h2 => by
    have hd1 := ht.2 hs
    unfold sR
    rw [Int.toNat_natCast, getD_set _ _ _ _ (by omega), getD_set _ _ _ _ (by rw [hr']; exact hto u h1)]
    by_cases e : t.d.toNat = u
    · subst e; rw [if_pos rfl, if_pos rfl]
    · rw [if_neg e, if_neg (fun e2 => hd hs u h1 h2 (fun e3 => e e3.symm) e2.symm)]
      exact hst u h1 h2 (fun _ e3 => e e3.symm)
  have hno : ¬ SetsT t → Agr to m M rg rg' := fun hs u h1 h2 => hst u h1 h2 fun h => absurd h hs
  obtain ⟨op, d, a, b, kk, base, size, nn⟩ := t
  obtain ⟨ws, out, rd, st, en⟩ := σ
  obtain ⟨ws', out', rd', st', en'⟩ := τ
  obtain ⟨e1, e2, e3, e4⟩ := he
  simp only at e1 e2 e3 e4 hop
  subst e1; subst e2; subst e3; subst e4
  have hop : op = 1 ∨ op = 2 ∨ op = 3 ∨ op = 4 ∨ op = 5 ∨ op = 6 ∨ op = 7 ∨ op = 8 ∨ op = 9 ∨ op = 10 := by omega
  rcases hop with rfl | rfl | rfl | rfl | rfl | rfl | rfl | rfl | rfl | rfl
  all_goals simp only [usesL, SetsT, Int.reduceEq, or_false, or_true, false_or, true_or, or_self, if_true, if_false, List.mem_cons, List.not_mem_nil, forall_eq_or_imp, forall_eq, false_implies, implies_true, and_true, forall_const, true_implies, not_false_eq_true, not_true_eq_false, reduceCtorEq] at hu hse hno
  all_goals simp only [opF, renT, usesL, SetsT, Int.reduceEq, or_false, or_true, false_or, true_or, or_self, if_true, if_false, List.length_cons, List.length_nil, Nat.reduceAdd, Nat.reduceEqDiff]
  · exact ⟨fun _ => hse _, ⟨rfl, rfl, rfl, rfl⟩⟩
  · rw [← hu]; exact ⟨fun _ => hse _, ⟨rfl, rfl, rfl, rfl⟩⟩
  · rw [← hu.1, ← hu.2]
    split
    · exact ⟨fun _ => hse _, ⟨rfl, rfl, rfl, rfl⟩⟩
    · exact ⟨fun h => by simp at h, ⟨rfl, rfl, rfl, rfl⟩⟩
  · exact ⟨fun _ => hse _, ⟨rfl, rfl, rfl, rfl⟩⟩
  · rw [← hu]; exact ⟨fun _ => hno, ⟨rfl, rfl, rfl, rfl⟩⟩
  · rw [← hu]
    split
    · exact ⟨fun _ => hse _, ⟨rfl, rfl, rfl, rfl⟩⟩
    · exact ⟨fun h => by simp at h, ⟨rfl, rfl, rfl, rfl⟩⟩
  · rw [← hu.1, ← hu.2]
    split
    · exact ⟨fun _ => hno, ⟨rfl, rfl, rfl, rfl⟩⟩
    · exact ⟨fun h => by simp at h, ⟨rfl, rfl, rfl, rfl⟩⟩
  · split
    · exact ⟨fun _ => hse _, ⟨rfl, rfl, rfl, rfl⟩⟩
    · exact ⟨fun _ => hse _, ⟨rfl, rfl, rfl, rfl⟩⟩
  · rw [← hu]
    split
    · exact ⟨fun h => by simp at h, ⟨rfl, rfl, rfl, rfl⟩⟩
    · exact ⟨fun _ => hno, ⟨rfl, rfl, rfl, rfl⟩⟩
  · exact ⟨fun _ => hno, hc rfl⟩
end Go.Proofs.Ytncjbipnkdlkoaa
namespace Go.Proofs.Ytncjbipnkdlkoaa
set_option linter.unusedSimpArgs false
set_option linter.unusedVariables false
open Go.V
theorem opF_len (call : Nat → Bst → Bst) (inp : ByteArray) (t : Tac) (rg : List Int) (σ : Bst) : (opF call inp t rg σ).1.length = rg.length := by
  unfold opF
  by_cases h1 : t.op = 1
  · rw [if_pos h1]
    exact sR_len _ _ _
  rw [if_neg h1]
  by_cases h2 : t.op = 2
  · rw [if_pos h2]
    exact sR_len _ _ _
  rw [if_neg h2]
  by_cases h3 : t.op = 3
  · rw [if_pos h3]
    by_cases hc : (applyW t.k (gR rg t.a) (gR rg t.b)).2 = 0
    · rw [if_pos hc]; exact sR_len _ _ _
    · rw [if_neg hc]; try rfl
  rw [if_neg h3]
  by_cases h4 : t.op = 4
  · rw [if_pos h4]
    exact sR_len _ _ _
  rw [if_neg h4]
  by_cases h5 : t.op = 5
  · rw [if_pos h5]
    try rfl
  rw [if_neg h5]
  by_cases h6 : t.op = 6
  · rw [if_pos h6]
    by_cases hc : gR rg t.a < t.size
    · rw [if_pos hc]; exact sR_len _ _ _
    · rw [if_neg hc]; try rfl
  rw [if_neg h6]
  by_cases h7 : t.op = 7
  · rw [if_pos h7]
    by_cases hc : gR rg t.a < t.size
    · rw [if_pos hc]; try rfl
    · rw [if_neg hc]; try rfl
  rw [if_neg h7]
  by_cases h8 : t.op = 8
  · rw [if_pos h8]
    by_cases hc : σ.rd < inp.size
    · rw [if_pos hc]; exact sR_len _ _ _
    · rw [if_neg hc]; exact sR_len _ _ _
  rw [if_neg h8]
  by_cases h9 : t.op = 9
  · rw [if_pos h9]
    by_cases hc : 65536 ≤ σ.out.length
    · rw [if_pos hc]; try rfl
    · rw [if_neg hc]; try rfl
  rw [if_neg h9]
  by_cases h10 : t.op = 10
  · rw [if_pos h10]
    try rfl
  rw [if_neg h10]
theorem opF_st (call : Nat → Bst → Bst) (inp : ByteArray) (t : Tac) (rg : List Int) (σ : Bst) (h : t.op ≠ 10) : (opF call inp t rg σ).2.st = σ.st := by
  unfold opF
  by_cases h1 : t.op = 1
  · rw [if_pos h1]
    try rfl
  rw [if_neg h1]
  by_cases h2 : t.op = 2
  · rw [if_pos h2]
    try rfl
  rw [if_neg h2]
  by_cases h3 : t.op = 3
  · rw [if_pos h3]
    by_cases hc : (applyW t.k (gR rg t.a) (gR rg t.b)).2 = 0
    · rw [if_pos hc]; try rfl
    · rw [if_neg hc]; try rfl
  rw [if_neg h3]
  by_cases h4 : t.op = 4
  · rw [if_pos h4]
    try rfl
  rw [if_neg h4]
  by_cases h5 : t.op = 5
  · rw [if_pos h5]
    try rfl
  rw [if_neg h5]
  by_cases h6 : t.op = 6
  · rw [if_pos h6]
    by_cases hc : gR rg t.a < t.size
    · rw [if_pos hc]; try rfl
    · rw [if_neg hc]; try rfl
  rw [if_neg h6]
  by_cases h7 : t.op = 7
  · rw [if_pos h7]
    by_cases hc : gR rg t.a < t.size
    · rw [if_pos hc]; try rfl
    · rw [if_neg hc]; try rfl
  rw [if_neg h7]
  by_cases h8 : t.op = 8
  · rw [if_pos h8]
    by_cases hc : σ.rd < inp.size
    · rw [if_pos hc]; try rfl
    · rw [if_neg hc]; try rfl
  rw [if_neg h8]
  by_cases h9 : t.op = 9
  · rw [if_pos h9]
    by_cases hc : 65536 ≤ σ.out.length
    · rw [if_pos hc]; try rfl
    · rw [if_neg hc]; try rfl
  rw [if_neg h9]
  by_cases h10 : t.op = 10
  · rw [if_pos h10]
    exact absurd h10 h
  rw [if_neg h10]
theorem insF_len (call : Nat → Bst → Bst) (inp : ByteArray) (fuel : Nat) : ∀ (l : List Tac) (rg : List Int) (σ : Bst), (insF call inp fuel l rg σ).1.length = rg.length
  | [], _, _ => rfl
  | t :: l, rg, σ => by
    rw [insF_cons]
    split
    · rfl
    · split
      · rw [insF_len call inp fuel l, opF_len]
      · rw [opF_len]
def Apart (to : Nat → Nat) (m : Nat) (M : Nat → Bool) : List Tac → Prop
  | [] => True
  | t :: l => (SetsT t → ∀ u < m, thru1 l u (M u) = true → u ≠ t.d.toNat → to u ≠ to t.d.toNat) ∧ Apart to m M l
theorem ins_sim {call call' : Nat → Bst → Bst} {inp : ByteArray} {fuel fuel' c : Nat} {to : Nat → Nat} {m m' : Nat} {M : Nat → Bool} (hto : ∀ u < m, to u < m') :
    ∀ (l : List Tac) (rg rg' : List Int) (σ τ : Bst), (∀ t ∈ l, RegT t m ∧ 1 ≤ t.op ∧ t.op ≤ 10) → rg.length = m → rg'.length = m' → Eqv σ τ → σ.en = 0 → τ.st = σ.st + c →
    (∀ t ∈ l, t.op = 10 → ∀ σ τ, Eqv σ τ → σ.en = 0 → τ.st = σ.st + c → Eqv (call t.base.toNat σ) (call' t.base.toNat τ) ∧ (call' t.base.toNat τ).st = (call t.base.toNat σ).st + c) →
    Apart to m M l → Agr to m (fun u => thru1 l u (M u)) rg rg' → ((fuel' = fuel ∧ c = 0) ∨ ((insF call inp fuel l rg σ).2.en ≠ 5 ∧ fuel + c ≤ fuel')) →
    ((insF call inp fuel l rg σ).2.en = 0 → Agr to m M (insF call inp fuel l rg σ).1 (insF call' inp fuel' (l.map (renT to)) rg' τ).1) ∧
      Eqv (insF call inp fuel l rg σ).2 (insF call' inp fuel' (l.map (renT to)) rg' τ).2 ∧ (insF call' inp fuel' (l.map (renT to)) rg' τ).2.st = (insF call inp fuel l rg σ).2.st + c
  | [], rg, rg', σ, τ, _, _, _, he, _, hs, _, _, ha, _ => ⟨fun _ => ha, he, hs⟩
  | t :: l, rg, rg', σ, τ, ht, hr, hr', he, h0, hs, hc, hd, ha, hf => by
    have ht1 := ht t (by simp)
    have hc1 := hc t (by simp)
    simp only [List.map_cons]
    rw [insF_cons] at hf ⊢
    rw [insF_cons]
    by_cases h1 : fuel ≤ σ.st
    · have h2 : fuel' ≤ τ.st := by
        rcases hf with ⟨h, h'⟩ | ⟨h, _⟩
        · omega
        · rw [if_pos h1] at h; exact absurd rfl h
      rw [if_pos h1, if_pos h2]
      exact ⟨fun h => by simp at h, he.end_ 5, hs⟩
    · have h2 : ¬ fuel' ≤ τ.st := by
        rcases hf with ⟨h, h'⟩ | ⟨_, h⟩ <;> omega
      rw [if_neg h1] at hf ⊢
      rw [if_neg h2]
      obtain ⟨g1, g2⟩ := op_sim (call := call) (call' := call') (inp := inp) (σ := { σ with st := σ.st + 1 }) (τ := { τ with st := τ.st + 1 }) (M := fun u => thru1 l u (M u)) ht1.1 ht1.2 hr hr' hto (he.stp _ _)
        (fun e => (hc1 e { σ with st := σ.st + 1 } { τ with st := τ.st + 1 } (he.stp _ _) h0 (by show τ.st + 1 = σ.st + 1 + c; omega)).1) hd.1 ha
      have g3 : (opF call' inp (renT to t) rg' { τ with st := τ.st + 1 }).2.st = (opF call inp t rg { σ with st := σ.st + 1 }).2.st + c := by
        by_cases e : t.op = 10
        · have := (hc1 e { σ with st := σ.st + 1 } { τ with st := τ.st + 1 } (he.stp _ _) h0 (by show τ.st + 1 = σ.st + 1 + c; omega)).2
          have e' : (renT to t).op = 10 := e
          unfold opF
          simp only [e, e', Int.reduceEq, if_true, if_false]
          exact this
        · rw [opF_st _ _ _ _ _ e, opF_st _ _ (renT to t) _ _ e]
          show τ.st + 1 = σ.st + 1 + c
          omega
      have hl1 := opF_len call inp t rg { σ with st := σ.st + 1 }
      have hl2 := opF_len call' inp (renT to t) rg' { τ with st := τ.st + 1 }
      generalize opF call inp t rg { σ with st := σ.st + 1 } = p at *
      generalize opF call' inp (renT to t) rg' { τ with st := τ.st + 1 } = p' at *
      by_cases e : p.2.en = 0
      · rw [if_pos e] at hf ⊢
        rw [if_pos (by rw [← g2.en]; exact e)]
        exact ins_sim hto l p.1 p'.1 p.2 p'.2 (fun t h => ht t (by simp [h])) (by rw [hl1]; exact hr) (by rw [hl2]; exact hr') g2 e g3 (fun t h => hc t (by simp [h])) hd.2 (g1 e) hf
      · rw [if_neg e]
        rw [if_neg (by rw [← g2.en]; exact e)]
        exact ⟨fun h => absurd h e, g2, g3⟩
end Go.Proofs.Ytncjbipnkdlkoaa
namespace Go.Proofs.Ytncjbipnkdlkoaa
set_option linter.unusedSimpArgs false
set_option linter.unusedVariables false
open Go.V
theorem one_parts {f : BF} {number words : Int} (h : oneB f number words = true) : 0 ≤ f.regs ∧ f.regs ≤ 4000 ∧ f.bks ≠ [] ∧ ∀ b ∈ f.bks, EndsP b f.bks.length f.regs ∧ ∀ t ∈ b.ins, FitsT t number f.regs words := by
  unfold oneB at h
  simp only [Bool.and_eq_true, decide_eq_true_eq, List.all_eq_true] at h
  obtain ⟨⟨h1, h2, h3⟩, h4⟩ := h
  refine ⟨h1, h2, h3, fun b hb => ?_⟩
  have h5 := h4 b hb
  unfold blkB endsB insB fitsT at h5
  simp only [Bool.and_eq_true, decide_eq_true_eq, List.all_eq_true] at h5
  exact h5
theorem FitsT.mono {t : Tac} {a b regs words : Int} (h : FitsT t a regs words) (hab : a ≤ b) : FitsT t b regs words := by
  obtain ⟨h1, h2, h3, h4, h5, h6, h7, h8⟩ := h
  refine ⟨h1, h2, h3, h4, h5, h6, h7, ?_⟩
  unfold restT at h8 ⊢
  repeat' split
  all_goals simp_all
  all_goals omega
theorem ends_go {b : Bk} {n r : Int} (h : EndsP b n r) (h3 : b.e ≠ 3) : 0 ≤ b.to ∧ b.to < n ∧ (b.e = 2 → 0 ≤ b.el ∧ b.el < n ∧ 0 ≤ b.v ∧ b.v < r) := by
  unfold EndsP at h
  by_cases h1 : b.e = 1
  · rw [if_pos h1] at h; exact ⟨h.1, h.2.1, fun e => by omega⟩
  · rw [if_neg h1] at h
    by_cases h2 : b.e = 2
    · rw [if_pos h2] at h; exact ⟨h.1, h.2.1, fun _ => ⟨h.2.2.1, h.2.2.2.1, h.2.2.2.2⟩⟩
    · rw [if_neg h2] at h; exact absurd h.1 h3
theorem goB_in {b : Bk} {n r : Int} (h : EndsP b n r) (h3 : b.e ≠ 3) (rg : List Int) : 0 ≤ goB b rg ∧ goB b rg < n := by
  obtain ⟨h1, h2, h4⟩ := ends_go h h3
  unfold goB
  split
  · rename_i h5; have := h4 h5.1; exact ⟨this.1, this.2.1⟩
  · exact ⟨h1, h2⟩
structure FnsOk (fs : List BF) (n : Nat) : Prop where
  one : ∀ i < fs.length, oneB (fs.getD i default) i n = true
  len : ∀ f ∈ fs, ∀ b ∈ f.bks, b.ins.length ≤ 140737488355328
  w : ∀ f ∈ fs, ∀ b ∈ f.bks, ∀ t ∈ b.ins, In32 t.n
theorem FnsOk.fit {fs : List BF} {n : Nat} (h : FnsOk fs n) {i : Nat} (hi : i < fs.length) {k : Nat} (hk : i ≤ k) : ∀ b ∈ (fs.getD i default).bks, ∀ t ∈ b.ins, FitsT t k (fs.getD i default).regs n ∧ In32 t.n := fun b hb t ht =>
  ⟨(((one_parts (h.one i hi)).2.2.2 b hb).2 t ht).mono (by omega), h.w _ (mem_getD hi) b hb t ht⟩
theorem blkF_wf {call : Nat → Bst → Bst} {inp : ByteArray} {fuel n k : Nat} (hc : CallP inp fuel n k call) {f : BF} (hr0 : 0 ≤ f.regs) (hf : ∀ b ∈ f.bks, EndsP b f.bks.length f.regs ∧ ∀ t ∈ b.ins, FitsT t k f.regs n ∧ In32 t.n) :
    ∀ (g i : Nat) (rg : List Int) (σ : Bst), i < f.bks.length → WfR f.regs.toNat rg → WfB inp fuel n σ → σ.en = 0 → WfB inp fuel n (blkF call inp fuel f g i rg σ) ∧ σ.st ≤ (blkF call inp fuel f g i rg σ).st
  | 0, _, _, σ, _, _, hw, _ => ⟨hw, Nat.le_refl _⟩
  | g + 1, i, rg, σ, hi, hr, hw, h0 => by
    have hm : f.bks.getD i default ∈ f.bks := mem_getD hi
    obtain ⟨hE, hT⟩ := hf _ hm
    have hrr : ((f.regs.toNat : Nat) : Int) = f.regs := by omega
    obtain ⟨w1, w2, w3⟩ := insF_wf hc (f.bks.getD i default).ins rg σ (fun t ht => by rw [hrr]; exact hT t ht) hr hw h0
    rw [blkF_succ]
    generalize insF call inp fuel (f.bks.getD i default).ins rg σ = p at *
    split
    · split
      · exact ⟨⟨w2.n, w2.w, w2.o, w2.r, w2.s⟩, w3⟩
      · have hs : WfB inp fuel n { p.2 with st := p.2.st + 1 } := ⟨w2.n, w2.w, w2.o, w2.r, by show p.2.st + 1 ≤ fuel; omega⟩
        split
        · exact ⟨hs, by show σ.st ≤ p.2.st + 1; omega⟩
        · rename_i h1 h2 h3
          have hg := goB_in hE h3 p.1
          obtain ⟨a1, a2⟩ := blkF_wf hc hr0 hf g (goB (f.bks.getD i default) p.1).toNat p.1 { p.2 with st := p.2.st + 1 } (by omega) w1 hs h1
          replace a2 : p.2.st + 1 ≤ _ := a2
          exact ⟨a1, by omega⟩
    · exact ⟨w2, w3⟩
theorem rep_wf (m : Nat) : WfR m (List.replicate m 0) := ⟨by simp, fun x hx => by rw [(List.mem_replicate.1 hx).2]; exact ⟨by omega, by omega⟩⟩
theorem funF_wf {fs : List BF} {inp : ByteArray} {fuel n : Nat} (hf : FnsOk fs n) : ∀ k, k ≤ fs.length → CallP inp fuel n k (funF fs inp fuel k)
  | 0, _ => fun i hi => absurd hi (Nat.not_lt_zero i)
  | k + 1, hk => fun i hi σ hw h0 => by
    have ho := one_parts (hf.one i (by omega))
    exact blkF_wf (funF_wf hf k (by omega)) ho.1 (fun b hb => ⟨(ho.2.2.2 b hb).1, hf.fit (by omega) (by omega) b hb⟩) _ 0 _ σ (List.length_pos_iff.2 ho.2.2.1) (rep_wf _) hw h0
end Go.Proofs.Ytncjbipnkdlkoaa
namespace Go.Proofs.Ytncjbipnkdlkoaa
set_option linter.unusedSimpArgs false
set_option linter.unusedVariables false
open Go.V
def toN (pl : List Int) (n : Int) (v : Nat) : Nat := if 0 < gP pl v then (gP pl v - 1).toNat else (n - gP pl v - 1).toNat
def renB (to : Nat → Nat) (b : Bk) : Bk := ⟨b.ins.map (renT to), b.e, if b.e = 2 then (to b.v.toNat : Int) else b.v, b.to, b.el⟩
def otherF (f : BF) (pl : List Int) (n : Int) : BF := ⟨n + wdsI pl, f.bks.map (renB (toN pl n))⟩
theorem toN_lt {f : BF} {L : LD} {pl : List Int} {n : Int} (h0 : 0 ≤ n) (h : AllocP f L pl n) {u : Nat} (hu : u < f.r) : toN pl n u < (n + wdsI pl).toNat := by
  have hw := wdsI_pos pl
  unfold toN
  rcases h.ok u hu with h1 | h1
  · rw [if_pos (by omega)]; omega
  · rw [if_neg (by omega)]
    have := wdsI_ge (pl := pl) (v := u) (by rw [h.len]; exact hu) h1.1 (by omega)
    omega
theorem toN_inj {f : BF} {L : LD} {pl : List Int} {n : Int} (h0 : 0 ≤ n) (h : AllocP f L pl n) {u v : Nat} (hu : u < f.r) (hv : v < f.r) (hne : gP pl u ≠ gP pl v) : toN pl n u ≠ toN pl n v := by
  unfold toN
  rcases h.ok u hu with h1 | h1 <;> rcases h.ok v hv with h2 | h2
  · rw [if_pos (by omega), if_pos (by omega)]; omega
  · rw [if_pos (by omega), if_neg (by omega)]; omega
  · rw [if_neg (by omega), if_pos (by omega)]; omega
  · rw [if_neg (by omega), if_neg (by omega)]; omega
theorem apart_of {to : Nat → Nat} {m : Nat} {M : Nat → Bool} : ∀ (l : List Tac), (∀ i < l.length, SetsT (l.getD i default) → ∀ u < m, thru1 (l.drop (i + 1)) u (M u) = true → u ≠ (l.getD i default).d.toNat → to u ≠ to (l.getD i default).d.toNat) → Apart to m M l
  | [], _ => trivial
  | t :: l, h => by
    refine ⟨fun hs u hu h1 h2 => ?_, apart_of l fun i hi => ?_⟩
    · have := h 0 (by simp)
      simp only [List.getD_cons_zero, List.drop_succ_cons, List.drop_zero] at this
      exact this hs u hu h1 h2
    · have := h (i + 1) (by simp; omega)
      simp only [List.getD_cons_succ, List.drop_succ_cons] at this
      exact this
theorem Bst.ext' {σ τ : Bst} (h : Eqv σ τ) (hs : τ.st = σ.st) : σ = τ := by
  obtain ⟨a, b, c, d, e⟩ := σ
  obtain ⟨a', b', c', d', e'⟩ := τ
  obtain ⟨h1, h2, h3, h4⟩ := h
  simp only at h1 h2 h3 h4 hs
  subst h1; subst h2; subst h3; subst h4; subst hs; rfl
theorem Eqv.of_eq {σ τ : Bst} (h : σ = τ) : Eqv σ τ := by subst h; exact Eqv.refl _
theorem alloc_blk {inp : ByteArray} {fuel : Nat} {f : BF} {L : LD} {pl : List Int} {n : Int} {call call' : Nat → Bst → Bst} {k w : Nat} (hn : 0 ≤ n) (hf : Fine f) (hA : AllocP f L pl n) (hfit : ∀ b ∈ f.bks, EndsP b f.bks.length f.regs ∧ ∀ t ∈ b.ins, FitsT t k f.regs w)
    (hcall : ∀ i < k, ∀ σ : Bst, σ.en = 0 → call i σ = call' i σ) :
    ∀ (g i : Nat) (rg rg' : List Int) (σ : Bst), i < f.n → rg.length = f.r → rg'.length = (n + wdsI pl).toNat → σ.en = 0 → Agr (toN pl n) f.r (fun u => L.I i u) rg rg' →
      blkF call inp fuel f g i rg σ = blkF call' inp fuel (otherF f pl n) g i rg' σ
  | 0, _, _, _, _, _, _, _, _, _ => rfl
  | g + 1, i, rg, rg', σ, hi, hr, hr', h0, ha => by
    have hmi := BF.mem hi
    obtain ⟨hE, hft⟩ := hfit _ hmi
    have hrr : (f.r : Int) = f.regs := by have := hf.r0; unfold BF.r; omega
    have hbk : f.bks.getD i default = f.bk i := rfl
    have hbk2 : (otherF f pl n).bks.getD i default = renB (toN pl n) (f.bk i) := by
      have : i < f.bks.length := hi
      simp [otherF, List.getD, this, BF.bk]
    have hrt : ∀ t ∈ (f.bk i).ins, RegT t f.r ∧ 1 ≤ t.op ∧ t.op ≤ 10 := fun t ht => by
      have h1 := hft t ht
      exact ⟨by have := hf.ins _ hmi t ht; rw [hrr]; exact this, h1.1, h1.2.1⟩
    have hAg : Agr (toN pl n) f.r (fun u => thru1 (f.bk i).ins u (last1 (f.bk i) u (L.O i u))) rg rg' := fun u hu h => ha u hu (hA.cl.cl.ahead i hi u hu h)
    have hap : Apart (toN pl n) f.r (fun u => last1 (f.bk i) u (L.O i u)) (f.bk i).ins := by
      refine apart_of _ fun j hj hs u hu h1 h2 => ?_
      have hd := (hf.ins _ hmi _ (mem_getD hj)).2 hs
      exact toN_inj hn hA hu (by unfold BF.r; omega) (hA.st i hi j hj hs u hu h1 h2)
    obtain ⟨s1, s2, s3⟩ := ins_sim (call := call) (call' := call') (inp := inp) (fuel := fuel) (fuel' := fuel) (c := 0) (to := toN pl n) (m := f.r) (m' := (n + wdsI pl).toNat) (M := fun u => last1 (f.bk i) u (L.O i u)) (fun u h => toN_lt hn hA h) (f.bk i).ins rg rg' σ σ hrt hr hr' (Eqv.refl _) h0 (by omega)
      (fun t ht e σ τ he h0 hs => by
        have h1 := (hft t ht).2.2.2.2.2.2.2
        unfold restT at h1
        rw [e] at h1
        simp only [Int.reduceEq, if_false, if_true, or_self] at h1
        have hb : t.base.toNat < k := by omega
        have hst : σ = τ := Bst.ext' he (by omega)
        subst hst
        rw [hcall _ hb σ h0]
        exact ⟨Eqv.refl _, rfl⟩) hap hAg (.inl ⟨rfl, rfl⟩)
    have s4 := Bst.ext' s2 (by omega)
    have l1 := insF_len call inp fuel (f.bk i).ins rg σ
    have l2 := insF_len call' inp fuel ((f.bk i).ins.map (renT (toN pl n))) rg' σ
    rw [blkF_succ, blkF_succ, hbk, hbk2]
    show _ = (if (insF call' inp fuel ((f.bk i).ins.map (renT (toN pl n))) rg' σ).2.en = 0 then
            (if fuel ≤ (insF call' inp fuel ((f.bk i).ins.map (renT (toN pl n))) rg' σ).2.st then { (insF call' inp fuel ((f.bk i).ins.map (renT (toN pl n))) rg' σ).2 with en := 5 }
            else if (f.bk i).e = 3 then { (insF call' inp fuel ((f.bk i).ins.map (renT (toN pl n))) rg' σ).2 with st := (insF call' inp fuel ((f.bk i).ins.map (renT (toN pl n))) rg' σ).2.st + 1 }
            else blkF call' inp fuel (otherF f pl n) g (goB (renB (toN pl n) (f.bk i)) (insF call' inp fuel ((f.bk i).ins.map (renT (toN pl n))) rg' σ).1).toNat (insF call' inp fuel ((f.bk i).ins.map (renT (toN pl n))) rg' σ).1
              { (insF call' inp fuel ((f.bk i).ins.map (renT (toN pl n))) rg' σ).2 with st := (insF call' inp fuel ((f.bk i).ins.map (renT (toN pl n))) rg' σ).2.st + 1 })
          else (insF call' inp fuel ((f.bk i).ins.map (renT (toN pl n))) rg' σ).2)
    rw [← s4]
    generalize insF call inp fuel (f.bk i).ins rg σ = p at *
    obtain ⟨rg2, hrg2⟩ : ∃ q, (insF call' inp fuel ((f.bk i).ins.map (renT (toN pl n))) rg' σ).1 = q := ⟨_, rfl⟩
    rw [hrg2] at s1 l2
    rw [hrg2]
    by_cases e : p.2.en = 0
    · rw [if_pos e, if_pos e]
      by_cases e2 : fuel ≤ p.2.st
      · rw [if_pos e2, if_pos e2]
      rw [if_neg e2, if_neg e2]
      by_cases e3 : (f.bk i).e = 3
      · rw [if_pos e3, if_pos e3]
      rw [if_neg e3, if_neg e3]
      have hag := s1 e
      have hE2 := ends_go hE e3
      have hgo : goB (renB (toN pl n) (f.bk i)) rg2 = goB (f.bk i) p.1 := by
        unfold goB renB
        by_cases e4 : (f.bk i).e = 2
        · have hvv := hf.v _ hmi e4
          have := hag (f.bk i).v.toNat (by unfold BF.r; omega) (by show (if (f.bk i).e = 2 ∧ (f.bk i).v = (((f.bk i).v.toNat : Nat) : Int) then true else _) = true; rw [if_pos ⟨e4, by omega⟩])
          have e5 : gR rg2 ((toN pl n (f.bk i).v.toNat : Nat) : Int) = gR p.1 (f.bk i).v := by
            unfold gR; rw [Int.toNat_natCast]; exact this.symm
          simp only [e4, if_true, e5]
        · simp [e4]
      have hnx : goB (f.bk i) p.1 ∈ nxt (f.bk i) := by
        have hee : (f.bk i).e = 1 ∨ (f.bk i).e = 2 := by
          unfold EndsP at hE
          by_cases e4 : (f.bk i).e = 1
          · exact .inl e4
          · rw [if_neg e4] at hE
            by_cases e5 : (f.bk i).e = 2
            · exact .inr e5
            · rw [if_neg e5] at hE; exact absurd hE.1 e3
        unfold goB nxt
        rcases hee with e4 | e4
        · simp [e4]
        · simp only [e4, true_and, Int.reduceEq, if_false, if_true]
          split <;> simp
      rw [hgo]
      have hto := hf.to _ hmi _ hnx
      refine alloc_blk hn hf hA hfit hcall g _ p.1 rg2 _ (by unfold BF.n; omega) (by omega) (by omega) e fun u hu h => ?_
      refine hag u hu ?_
      show (if (f.bk i).e = 2 ∧ (f.bk i).v = (u : Int) then true else L.O i u) = true
      split
      · rfl
      · exact hA.cl.cl.way i hi _ hnx u hu h
    · rw [if_neg e, if_neg e]
theorem getD_rep (m u : Nat) : (List.replicate m (0 : Int)).getD u default = 0 := by
  simp only [List.getD, List.getElem?_replicate]
  split <;> rfl
theorem alloc_fun {fs fs' : List BF} {inp : ByteArray} {fuel w : Nat} (hf : FnsOk fs w) (hlen : fs'.length = fs.length) (h : ∀ i < fs.length, Fine (fs.getD i default) ∧ ∃ (L : LD) (pl : List Int) (n : Int), 0 ≤ n ∧ AllocP (fs.getD i default) L pl n ∧ fs'.getD i default = otherF (fs.getD i default) pl n) :
    ∀ k, k ≤ fs.length → ∀ i < k, ∀ σ : Bst, σ.en = 0 → funF fs inp fuel k i σ = funF fs' inp fuel k i σ
  | 0, _ => fun i hi => absurd hi (Nat.not_lt_zero i)
  | k + 1, hk => fun i hi σ h0 => by
    have hil : i < fs.length := by omega
    obtain ⟨hF, L, pl, n, hn, hA, ho⟩ := h i hil
    have hone := one_parts (hf.one i hil)
    have ih := alloc_fun hf hlen h k (by omega) (inp := inp) (fuel := fuel)
    show blkF _ inp fuel _ _ _ _ _ = blkF _ inp fuel _ _ _ _ _
    rw [ho]
    refine alloc_blk (k := k) (w := w) hn hF hA (fun b hb => ⟨(hone.2.2.2 b hb).1, fun t ht => ((hone.2.2.2 b hb).2 t ht).mono (by omega)⟩) (fun j hj σ h0 => ih j hj σ h0) _ 0 _ _ σ (List.length_pos_iff.2 hone.2.2.1) (by rw [List.length_replicate]; rfl) ?_ h0 fun u hu _ => ?_
    · rw [List.length_replicate]; rfl
    · rw [getD_rep, getD_rep]
end Go.Proofs.Ytncjbipnkdlkoaa
namespace Go.Proofs.Ytncjbipnkdlkoaa
set_option linter.unusedSimpArgs false
set_option linter.unusedVariables false
set_option maxRecDepth 10000
open Go.V
def toL (pl : List Int) (n : Int) (k : Nat) : List Int := (List.range k).map fun u => ((toN pl n u : Nat) : Int)
theorem toL_succ (pl : List Int) (n : Int) (k : Nat) : toL pl n (k + 1) = toL pl n k ++ [((toN pl n k : Nat) : Int)] := by unfold toL; rw [List.range_succ, List.map_append]; rfl
theorem toL_len (pl : List Int) (n : Int) (k : Nat) : (toL pl n k).length = k := by simp [toL]
theorem toL_get (pl : List Int) (n : Int) {k u : Nat} (hu : u < k) : (toL pl n k).getD u default = ((toN pl n u : Nat) : Int) := by unfold toL; simp [List.getD, hu]
structure TQ where
  k : Nat
  s : Nat
  nx : Nat
structure BQ28 where
  b : Nat
  s : Nat
  nx : Nat
structure IQ28 where
  i : Nat
  s : Nat
  nx : Nat
abbrev othH (f : BF) (pl : List Int) (n : Int) (R : List VObj) (q : TQ) : List VObj := [⟨0, 24, 1, bfL f⟩, ⟨1, 33, 1, [ints pl]⟩, ⟨2, 24, 1, [I 0, nilv]⟩, ⟨q.s, 3, 1, (toL pl n q.k).map I⟩] ++ R
abbrev tacsL (to : Nat → Nat) (l : List Tac) : List AV := (l.map fun t => tacL (renT to t)).flatten
abbrev blocksL (to : Nat → Nat) (l : List Bk) : List AV := (l.map fun b => bkL (renB to b)).flatten
theorem cst0 : ((0 : Nat) : Int) = 0 := rfl
theorem cst1 : ((1 : Nat) : Int) = 1 := rfl
theorem cst2 : ((2 : Nat) : Int) = 2 := rfl
theorem uses_shape (t : Tac) : usesL t = [] ∨ usesL t = [t.a] ∨ usesL t = [t.a, t.b] := by
  unfold usesL
  split
  · exact .inr (.inl rfl)
  · split
    · exact .inr (.inr rfl)
    · exact .inl rfl
theorem tacsL_len (to : Nat → Nat) (l : List Tac) : (tacsL to l).length = l.length * 8 := by
  unfold tacsL
  rw [flatz_len (z := 8) (by intro q hq; obtain ⟨t, _, rfl⟩ := List.mem_map.1 hq; rfl), List.length_map]
theorem tacs_snoc {to : Nat → Nat} {l : List Tac} {t : Tac} {i : Nat} (hi : l.length = i) : tacsL to (l ++ [t]) = List.take (i * 8) (tacsL to l) ++ tacL (renT to t) := by
  rw [List.take_of_length_le (by rw [tacsL_len, hi]; exact Nat.le_refl _)]
  unfold tacsL
  rw [List.map_append, List.flatten_append]; simp
theorem blocksL_len (to : Nat → Nat) (l : List Bk) : (blocksL to l).length = l.length * 5 := by
  unfold blocksL
  rw [flatz_len (z := 5) (by intro q hq; obtain ⟨t, _, rfl⟩ := List.mem_map.1 hq; rfl), List.length_map]
theorem blocks_snoc {to : Nat → Nat} {l : List Bk} {b : Nat} (hb : b < l.length) : List.take (b * 5) (blocksL to (l.take b)) ++ bkL (renB to (l.getD b default)) = blocksL to (l.take (b + 1)) := by
  rw [List.take_of_length_le (by rw [blocksL_len, List.length_take]; omega)]
  have e : l.take (b + 1) = l.take b ++ [l.getD b default] := by rw [List.take_add_one]; simp [List.getD, List.getElem?_eq_getElem hb]
  rw [e]
  unfold blocksL
  rw [List.map_append, List.flatten_append]; simp
theorem CW.pre {n : Nat} {H : List VObj} {nx : Nat} {A xs ys : List AV} (h : CW n H nx xs ys) : CW n H nx (A ++ xs) (A ++ ys) := by
  refine ⟨by simp [h.1], fun i x y h1 h2 => ?_⟩
  rcases Nat.lt_or_ge i A.length with hi | hi
  · rw [List.getElem?_append_left hi] at h1 h2
    rw [h1] at h2; exact .inl (Option.some.inj h2)
  · rw [List.getElem?_append_right hi] at h1 h2
    exact h.2 _ x y h1 h2
theorem frz_tacs {n : Nat} {H : List VObj} {nx id s : Nat} {to : Nat → Nat} {l : List Tac} (hid : n ≤ id) (ho : H[id]? = some ⟨s, 57, 8, tacsL to (l.take l.length)⟩) : Frz n H nx (.ref id s 0 l.length) (inA (l.map (renT to))) := by
  rw [List.take_length] at ho
  have h := Frz.refT (n := n) (nx := nx) (yss := l.map fun t => tacL (renT to t)) (zss := l.map fun t => tacL (renT to t)) (len := l.length) hid ho rfl rfl rfl (by intro q hq; obtain ⟨t, _, rfl⟩ := List.mem_map.1 hq; rfl) (by rw [List.length_map]) (FrzLL.pure (by intro q hq; obtain ⟨t, _, rfl⟩ := List.mem_map.1 hq; rfl))
  rw [List.map_map] at h
  rw [show inA (l.map (renT to)) = AV.imm 8 (l.map (AV.agg ∘ fun t => tacL (renT to t))) by show AV.imm 8 ((l.map (renT to)).map tacA) = _; rw [List.map_map]; rfl]
  exact h
set_option maxHeartbeats 4000000 in
theorem other_c (f : BF) (pl : List Int) (n : Int) (hf : Fine f) (hl : pl.length = f.r) (hn : 0 ≤ n ∧ n ≤ 1000000) (hok : ∀ v < f.r, (1 ≤ gP pl v ∧ gP pl v ≤ n) ∨ (-4000 ≤ gP pl v ∧ gP pl v ≤ -1)) : Contract Try.prog 18 [bfA f, alA pl, I n] (fun r => r = bfA (otherF f pl n)) := by
  refine Contract.of_call (VCall.of_body hmix f_scref28_Other (by simp) ?_)
  have hmx : (2000000 : Nat) ≤ maxLen := by decide
  have hr0 := hf.r0
  have hr4 : f.r ≤ 4000 := by have := hf.r1; unfold BF.r; omega
  have hregs : f.regs = (f.r : Int) := by unfold BF.r; omega
  have hn5 : f.n ≤ 500 := hf.b1
  have hnl : (f.bks.length : Int) = f.n := rfl
  simp only [go_sem,Nat.reduceEqDiff,Nat.reduceAdd,Nat.reduceMul,↓reduceIte,↓dreduceIte,reduceCtorEq,Nat.reduceLeDiff,Nat.reduceLT,Nat.reduceSub,Int.reduceToNat,Int.reduceLE,Int.reduceLT, c_scref28_Other, one_imm, one_ref, List.length_map]
  refine VW_loop (fun q : TQ => ⟨[(2, I n), (3, .ptr 0 0 0), (4, .ptr 1 1 0), (6, .ptr 2 2 0), (7, .ref 3 q.s 0 q.k), (8, I q.k)], othH f pl n [] q, q.nx⟩) (fun q => q.k ≤ f.r) (fun q => f.r - q.k) ⟨0, 3, 4⟩
    (Wk.virt 3 1 (by decide) (by simp [get_cons]) ⟨_, rfl, by simp, fun j ob' ho => ⟨ob', ho, rfl, rfl, rfl, rfl, fun _ => rfl, fun i x y hx hy => .inl (by rw [hx] at hy; exact Option.some.inj hy)⟩⟩ rfl) (Nat.zero_le _) ?_
  rintro ⟨k, s, nx⟩ hk
  simp only at hk
  by_cases hkr : k < f.r
  · have hp := hok k hkr
    have ht : ((toN pl n k : Nat) : Int) = if 0 < gP pl k then gP pl k - 1 else n - gP pl k - 1 := by unfold toN; split <;> omega
    have hg : pl.getD k default = gP pl k := rfl
    generalize hgg : gP pl k = p at hp ht hg
    have e : List.take k ((toL pl n k).map I) ++ [AV.val (.int .i64 ((toN pl n k : Nat) : Int))] = (toL pl n (k + 1)).map I := by
      rw [List.take_of_length_le (by simp [toL_len]), toL_succ, List.map_append]; rfl
    by_cases h0 : 0 < p
    all_goals
      first
      | (rw [if_pos h0] at ht
         have w1 : IntKind.i64.wrap (p - 1) = ((toN pl n k : Nat) : Int) := by rw [i64_in (by omega) (by omega), ht]
         simp only [go_sem,Nat.reduceEqDiff,Nat.reduceAdd,Nat.reduceMul,↓reduceIte,↓dreduceIte,reduceCtorEq,Nat.reduceLeDiff,Nat.reduceLT,Nat.reduceSub,Int.reduceToNat,Int.reduceLE,Int.reduceLT, one_imm, one_ref, List.length_map, hl, hg, gt_iff_lt, eq_true h0, w1, eq_true (show (k : Int) < f.r by omega), List.cons_append, List.nil_append])
      | (rw [if_neg h0] at ht
         have w1 : IntKind.i64.wrap (n - p) = n - p := i64_in (by omega) (by omega)
         have w2 : IntKind.i64.wrap (n - p - 1) = ((toN pl n k : Nat) : Int) := by rw [i64_in (by omega) (by omega), ht]
         simp only [go_sem,Nat.reduceEqDiff,Nat.reduceAdd,Nat.reduceMul,↓reduceIte,↓dreduceIte,reduceCtorEq,Nat.reduceLeDiff,Nat.reduceLT,Nat.reduceSub,Int.reduceToNat,Int.reduceLE,Int.reduceLT, one_imm, one_ref, List.length_map, hl, hg, gt_iff_lt, eq_false h0, w1, w2, eq_true (show (k : Int) < f.r by omega), List.cons_append, List.nil_append])
      repeat ((with_reducible refine And.intro ?_ ?_); · first | omega | (simp; omega))
      rw [i64_in (n := (k : Int) + 1) (by omega) (by omega), e]
      exact ⟨⟨k + 1, nx + 1, nx + 1 + 1⟩, by simp only; omega, by simp only; omega, Wk.mk (by simp [get_cons]) ⟨[_], rfl⟩ (Nat.le_refl _)⟩
  obtain rfl : k = f.r := by omega
  have hwd := wdsI_pos pl
  have hwl : wdsI pl ≤ 4000 := wdsI_le (by omega) fun v hv => by have := hok v (by omega); omega
  have w3 : IntKind.i64.wrap (n + wdsI pl) = n + wdsI pl := i64_in (by omega) (by omega)
  simp only [go_sem,Nat.reduceEqDiff,Nat.reduceAdd,Nat.reduceMul,↓reduceIte,↓dreduceIte,reduceCtorEq,Nat.reduceLeDiff,Nat.reduceLT,Nat.reduceSub,Int.reduceToNat,Int.reduceLE,Int.reduceLT, one_imm, one_ref, List.length_map, hl, eq_false (show ¬ (f.r : Int) < f.r by omega), List.cons_append, List.nil_append]
  refine VCall.of_contract (rwords_c pl (by omega)) (SleL.pure rfl) fun x hx => ?_
  subst hx
  simp only [go_sem,Nat.reduceEqDiff,Nat.reduceAdd,Nat.reduceMul,↓reduceIte,↓dreduceIte,reduceCtorEq,Nat.reduceLeDiff,Nat.reduceLT,Nat.reduceSub,Int.reduceToNat,Int.reduceLE,Int.reduceLT, one_imm, one_ref, List.length_map, w3, hnl]
  obtain ⟨to, hto⟩ : ∃ to : List Int, to = toL pl n f.r := ⟨_, rfl⟩
  refine VW_loop (fun q : BQ28 => ⟨[(3, .ptr 0 0 0), (6, .ptr 2 2 0), (7, .ref 3 s 0 f.r), (9, .ptr 4 nx 0), (10, I q.b)], othH f pl n [⟨nx, 24, 1, [I (n + wdsI pl), .ref 5 q.s 0 q.b]⟩, ⟨q.s, 60, 5, blocksL (toN pl n) (f.bks.take q.b)⟩] ⟨f.r, s, nx⟩, q.nx⟩) (fun q => q.b ≤ f.n) (fun q => f.n - q.b) ⟨0, nx + 1, nx + 1 + 1⟩ ?_ (Nat.zero_le _) ?_
  · have w := virt_at (env := [(3, .ptr 0 0 0), (6, .ptr 2 2 0), (7, .ref 3 s 0 f.r), (9, .ptr 4 nx 0), (10, I ((0 : Nat) : Int))]) (H := othH f pl n [⟨nx, 24, 1, [I (n + wdsI pl), nilv]⟩] ⟨f.r, s, nx⟩) (nx := nx + 1) (i := 4) (ob := ⟨nx, 24, 1, [I (n + wdsI pl), nilv]⟩) (cs' := [I (n + wdsI pl), .ref 5 (nx + 1) 0 0]) 60 5 (by decide) (by simp [get_cons]) rfl (by simp) rfl (fun j a b ha hb => by
      match j with
      | 0 => simp at ha hb; subst ha; subst hb; exact .inl rfl
      | 1 => simp at ha hb; subst ha; subst hb; exact .inr ⟨rfl, by simp⟩
      | j + 2 => simp at ha)
    refine Wk.trans ?_ w
    exact Wk.mk (by simp [get_cons]) ⟨[], by simp⟩ (Nat.le_refl _)
  rintro ⟨b, s5, nx2⟩ hb
  simp only at hb
  by_cases hlt : b < f.n
  · have hbk : f.bks.getD b default = f.bk b := rfl
    have hm := BF.mem hlt
    have hlen := hf.len _ hm
    have hins := hf.ins _ hm
    have hv0 := hf.v _ hm
    generalize hk : f.bk b = k at hbk hlen hins hv0
    have hgv := toL_get pl n (k := f.r) (u := k.v.toNat)
    by_cases he : k.e = 2
    · have hv1 := hv0 he
      have hgv := hgv (by unfold BF.r; omega)
      simp only [go_sem,Nat.reduceEqDiff,Nat.reduceAdd,Nat.reduceMul,↓reduceIte,↓dreduceIte,reduceCtorEq,Nat.reduceLeDiff,Nat.reduceLT,Nat.reduceSub,Int.reduceToNat,Int.reduceLE,Int.reduceLT, one_imm, one_ref, List.length_map, gt_iff_lt, ge_iff_le, List.cons_append, List.nil_append, hbk, hnl, hgv, eq_true (show (b : Int) < f.n by omega), he]
      repeat ((with_reducible refine And.intro ?_ ?_); · first | omega | (simp; omega) | (rw [toL_len]; omega))
      refine VW_loop (fun q : IQ28 => ⟨[(3, .ptr 0 0 0), (6, .ptr 2 2 0), (7, .ref 3 s 0 f.r), (9, .ptr 4 nx 0), (10, I b), (11, .ptr 6 nx2 0), (12, .ref 7 q.s 0 q.i), (13, I q.i)], othH f pl n [⟨nx, 24, 1, [I (n + wdsI pl), .ref 5 s5 0 b]⟩, ⟨s5, 60, 5, blocksL (toN pl n) (f.bks.take b)⟩, ⟨nx2, 60, 1, [inA k.ins, I 2, I ((toN pl n k.v.toNat : Nat) : Int), I k.to, I k.el]⟩, ⟨q.s, 57, 8, tacsL (toN pl n) (k.ins.take q.i)⟩] ⟨f.r, s, nx⟩, q.nx⟩) (fun q => q.i ≤ k.ins.length) (fun q => k.ins.length - q.i) ⟨0, nx2 + 1, nx2 + 1 + 1⟩
        (Wk.virt 57 8 (by decide) (by simp [get_cons]) ⟨_, rfl, by simp, fun j ob' ho => ⟨ob', ho, rfl, rfl, rfl, rfl, fun _ => rfl, fun i x y hx hy => .inl (by rw [hx] at hy; exact Option.some.inj hy)⟩⟩ rfl) (Nat.zero_le _) ?_
      rintro ⟨i, s7, nx3⟩ hi
      simp only at hi
      by_cases hil : i < k.ins.length
      · have hti := hins _ (mem_getD hil)
        have htake : k.ins.take (i + 1) = k.ins.take i ++ [k.ins.getD i default] := by rw [List.take_add_one]; simp [List.getD, List.getElem?_eq_getElem hil]
        generalize hgt : k.ins.getD i default = t at hti htake
        simp only [go_sem,Nat.reduceEqDiff,Nat.reduceAdd,Nat.reduceMul,↓reduceIte,↓dreduceIte,reduceCtorEq,Nat.reduceLeDiff,Nat.reduceLT,Nat.reduceSub,Int.reduceToNat,Int.reduceLE,Int.reduceLT, one_imm, one_ref, List.length_map, gt_iff_lt, ge_iff_le, List.cons_append, List.nil_append, hgt, eq_true (show (i : Int) < k.ins.length by omega)]
        repeat ((with_reducible refine And.intro ?_ ?_); · first | omega | (simp; omega) | (rw [toL_len]; omega))
        refine VCall.of_contractN (refuses_c t) ?_ fun x hx => ?_
        · exact ⟨_, _, rfl, Frz.pure rfl, rfl⟩
        subst hx
        simp only [go_sem,Nat.reduceEqDiff,Nat.reduceAdd,Nat.reduceMul,↓reduceIte,↓dreduceIte,reduceCtorEq,Nat.reduceLeDiff,Nat.reduceLT,Nat.reduceSub,Int.reduceToNat,Int.reduceLE,Int.reduceLT, one_imm, one_ref, List.length_map, gt_iff_lt, ge_iff_le, List.cons_append, List.nil_append]
        refine VCall.of_contract (refsets_c t) (SleL.pure rfl) fun x hx => ?_
        subst hx
        have hsh := uses_shape t
        have hrr : ∀ {x : Int}, 0 ≤ x → x < f.regs → (toL pl n f.r).getD x.toNat default = ((toN pl n x.toNat : Nat) : Int) := fun h1 h2 => toL_get pl n (by unfold BF.r; omega)
        by_cases hs : SetsT t
        · have hst : setsL t = t.d := if_pos hs
          have hd := hti.2 hs
          have gd := hrr hd.1 hd.2
          rcases hsh with hus | hus | hus
          · simp only [go_sem,Nat.reduceEqDiff,Nat.reduceAdd,Nat.reduceMul,↓reduceIte,↓dreduceIte,reduceCtorEq,Nat.reduceLeDiff,Nat.reduceLT,Nat.reduceSub,Int.reduceToNat,Int.reduceLE,Int.reduceLT, one_imm, one_ref, List.length_map, gt_iff_lt, ge_iff_le, List.cons_append, List.nil_append, hst, hus, List.length_cons, List.length_nil, Int.reduceLT, Int.reduceLE, Int.reduceNeg, Nat.reduceAdd, cst0, cst1, cst2, eq_true hd.1, gd]
            repeat ((with_reducible refine And.intro ?_ ?_); · first | omega | (simp; omega) | (rw [toL_len]; omega))
            rw [i64_in (n := (i : Int) + 1) (by omega) (by omega)]
            have e : List.take (i * 8) (tacsL (toN pl n) (List.take i k.ins)) ++ [I t.op, I ((toN pl n t.d.toNat : Nat) : Int), I t.a, I t.b, I t.k, I t.base, I t.size, U32 t.n] = tacsL (toN pl n) (List.take (i + 1) k.ins) := by
              rw [htake, tacs_snoc (i := i) (l := List.take i k.ins) (by rw [List.length_take]; omega)]
              simp [renT, hs, hus]
            rw [e]
            exact ⟨⟨i + 1, _, _⟩, by simp only; omega, by simp only; omega, Wk.mk (by simp [get_cons]) ⟨[_, _], rfl⟩ (Nat.le_refl _)⟩
          · have ha := hti.1 t.a (by rw [hus]; simp)
            have ga := hrr ha.1 ha.2
            simp only [go_sem,Nat.reduceEqDiff,Nat.reduceAdd,Nat.reduceMul,↓reduceIte,↓dreduceIte,reduceCtorEq,Nat.reduceLeDiff,Nat.reduceLT,Nat.reduceSub,Int.reduceToNat,Int.reduceLE,Int.reduceLT, one_imm, one_ref, List.length_map, gt_iff_lt, ge_iff_le, List.cons_append, List.nil_append, hst, hus, List.length_cons, List.length_nil, Int.reduceLT, Int.reduceLE, Int.reduceNeg, Nat.reduceAdd, cst0, cst1, cst2, eq_true hd.1, gd, ga]
            repeat ((with_reducible refine And.intro ?_ ?_); · first | omega | (simp; omega) | (rw [toL_len]; omega))
            rw [i64_in (n := (i : Int) + 1) (by omega) (by omega)]
            have e : List.take (i * 8) (tacsL (toN pl n) (List.take i k.ins)) ++ [I t.op, I ((toN pl n t.d.toNat : Nat) : Int), I ((toN pl n t.a.toNat : Nat) : Int), I t.b, I t.k, I t.base, I t.size, U32 t.n] = tacsL (toN pl n) (List.take (i + 1) k.ins) := by
              rw [htake, tacs_snoc (i := i) (l := List.take i k.ins) (by rw [List.length_take]; omega)]
              simp [renT, hs, hus]
            rw [e]
            exact ⟨⟨i + 1, _, _⟩, by simp only; omega, by simp only; omega, Wk.mk (by simp [get_cons]) ⟨[_, _], rfl⟩ (Nat.le_refl _)⟩
          · have ha := hti.1 t.a (by rw [hus]; simp)
            have ga := hrr ha.1 ha.2
            have hb2 := hti.1 t.b (by rw [hus]; simp)
            have gb := hrr hb2.1 hb2.2
            simp only [go_sem,Nat.reduceEqDiff,Nat.reduceAdd,Nat.reduceMul,↓reduceIte,↓dreduceIte,reduceCtorEq,Nat.reduceLeDiff,Nat.reduceLT,Nat.reduceSub,Int.reduceToNat,Int.reduceLE,Int.reduceLT, one_imm, one_ref, List.length_map, gt_iff_lt, ge_iff_le, List.cons_append, List.nil_append, hst, hus, List.length_cons, List.length_nil, Int.reduceLT, Int.reduceLE, Int.reduceNeg, Nat.reduceAdd, cst0, cst1, cst2, eq_true hd.1, gd, ga, gb]
            repeat ((with_reducible refine And.intro ?_ ?_); · first | omega | (simp; omega) | (rw [toL_len]; omega))
            rw [i64_in (n := (i : Int) + 1) (by omega) (by omega)]
            have e : List.take (i * 8) (tacsL (toN pl n) (List.take i k.ins)) ++ [I t.op, I ((toN pl n t.d.toNat : Nat) : Int), I ((toN pl n t.a.toNat : Nat) : Int), I ((toN pl n t.b.toNat : Nat) : Int), I t.k, I t.base, I t.size, U32 t.n] = tacsL (toN pl n) (List.take (i + 1) k.ins) := by
              rw [htake, tacs_snoc (i := i) (l := List.take i k.ins) (by rw [List.length_take]; omega)]
              simp [renT, hs, hus]
            rw [e]
            exact ⟨⟨i + 1, _, _⟩, by simp only; omega, by simp only; omega, Wk.mk (by simp [get_cons]) ⟨[_, _], rfl⟩ (Nat.le_refl _)⟩
        · have hst : setsL t = -1 := if_neg hs
          rcases hsh with hus | hus | hus
          · simp only [go_sem,Nat.reduceEqDiff,Nat.reduceAdd,Nat.reduceMul,↓reduceIte,↓dreduceIte,reduceCtorEq,Nat.reduceLeDiff,Nat.reduceLT,Nat.reduceSub,Int.reduceToNat,Int.reduceLE,Int.reduceLT, one_imm, one_ref, List.length_map, gt_iff_lt, ge_iff_le, List.cons_append, List.nil_append, hst, hus, List.length_cons, List.length_nil, Int.reduceLT, Int.reduceLE, Int.reduceNeg, Nat.reduceAdd, cst0, cst1, cst2]
            repeat ((with_reducible refine And.intro ?_ ?_); · first | omega | (simp; omega) | (rw [toL_len]; omega))
            rw [i64_in (n := (i : Int) + 1) (by omega) (by omega)]
            have e : List.take (i * 8) (tacsL (toN pl n) (List.take i k.ins)) ++ [I t.op, I t.d, I t.a, I t.b, I t.k, I t.base, I t.size, U32 t.n] = tacsL (toN pl n) (List.take (i + 1) k.ins) := by
              rw [htake, tacs_snoc (i := i) (l := List.take i k.ins) (by rw [List.length_take]; omega)]
              simp [renT, hs, hus]
            rw [e]
            exact ⟨⟨i + 1, _, _⟩, by simp only; omega, by simp only; omega, Wk.mk (by simp [get_cons]) ⟨[_, _], rfl⟩ (Nat.le_refl _)⟩
          · have ha := hti.1 t.a (by rw [hus]; simp)
            have ga := hrr ha.1 ha.2
            simp only [go_sem,Nat.reduceEqDiff,Nat.reduceAdd,Nat.reduceMul,↓reduceIte,↓dreduceIte,reduceCtorEq,Nat.reduceLeDiff,Nat.reduceLT,Nat.reduceSub,Int.reduceToNat,Int.reduceLE,Int.reduceLT, one_imm, one_ref, List.length_map, gt_iff_lt, ge_iff_le, List.cons_append, List.nil_append, hst, hus, List.length_cons, List.length_nil, Int.reduceLT, Int.reduceLE, Int.reduceNeg, Nat.reduceAdd, cst0, cst1, cst2, ga]
            repeat ((with_reducible refine And.intro ?_ ?_); · first | omega | (simp; omega) | (rw [toL_len]; omega))
            rw [i64_in (n := (i : Int) + 1) (by omega) (by omega)]
            have e : List.take (i * 8) (tacsL (toN pl n) (List.take i k.ins)) ++ [I t.op, I t.d, I ((toN pl n t.a.toNat : Nat) : Int), I t.b, I t.k, I t.base, I t.size, U32 t.n] = tacsL (toN pl n) (List.take (i + 1) k.ins) := by
              rw [htake, tacs_snoc (i := i) (l := List.take i k.ins) (by rw [List.length_take]; omega)]
              simp [renT, hs, hus]
            rw [e]
            exact ⟨⟨i + 1, _, _⟩, by simp only; omega, by simp only; omega, Wk.mk (by simp [get_cons]) ⟨[_, _], rfl⟩ (Nat.le_refl _)⟩
          · have ha := hti.1 t.a (by rw [hus]; simp)
            have ga := hrr ha.1 ha.2
            have hb2 := hti.1 t.b (by rw [hus]; simp)
            have gb := hrr hb2.1 hb2.2
            simp only [go_sem,Nat.reduceEqDiff,Nat.reduceAdd,Nat.reduceMul,↓reduceIte,↓dreduceIte,reduceCtorEq,Nat.reduceLeDiff,Nat.reduceLT,Nat.reduceSub,Int.reduceToNat,Int.reduceLE,Int.reduceLT, one_imm, one_ref, List.length_map, gt_iff_lt, ge_iff_le, List.cons_append, List.nil_append, hst, hus, List.length_cons, List.length_nil, Int.reduceLT, Int.reduceLE, Int.reduceNeg, Nat.reduceAdd, cst0, cst1, cst2, ga, gb]
            repeat ((with_reducible refine And.intro ?_ ?_); · first | omega | (simp; omega) | (rw [toL_len]; omega))
            rw [i64_in (n := (i : Int) + 1) (by omega) (by omega)]
            have e : List.take (i * 8) (tacsL (toN pl n) (List.take i k.ins)) ++ [I t.op, I t.d, I ((toN pl n t.a.toNat : Nat) : Int), I ((toN pl n t.b.toNat : Nat) : Int), I t.k, I t.base, I t.size, U32 t.n] = tacsL (toN pl n) (List.take (i + 1) k.ins) := by
              rw [htake, tacs_snoc (i := i) (l := List.take i k.ins) (by rw [List.length_take]; omega)]
              simp [renT, hs, hus]
            rw [e]
            exact ⟨⟨i + 1, _, _⟩, by simp only; omega, by simp only; omega, Wk.mk (by simp [get_cons]) ⟨[_, _], rfl⟩ (Nat.le_refl _)⟩
      · obtain rfl : i = k.ins.length := by omega
        simp only [go_sem,Nat.reduceEqDiff,Nat.reduceAdd,Nat.reduceMul,↓reduceIte,↓dreduceIte,reduceCtorEq,Nat.reduceLeDiff,Nat.reduceLT,Nat.reduceSub,Int.reduceToNat,Int.reduceLE,Int.reduceLT, one_imm, one_ref, List.length_map, gt_iff_lt, ge_iff_le, List.cons_append, List.nil_append, eq_false (show ¬ (k.ins.length : Int) < k.ins.length by omega)]
        rw [i64_in (n := (b : Int) + 1) (by omega) (by omega)]
        have hbr : bkL (renB (toN pl n) k) = [inA (k.ins.map (renT (toN pl n))), I 2, I ((toN pl n k.v.toNat : Nat) : Int), I k.to, I k.el] := by simp [renB, he]
        have hcw : ∀ {m : Nat} {H : List VObj} {x : Nat}, m ≤ 7 → H[7]? = some ⟨s7, 57, 8, tacsL (toN pl n) (List.take k.ins.length k.ins)⟩ → CW m H x (List.take (b * 5) (blocksL (toN pl n) (List.take b f.bks)) ++ [AV.ref 7 s7 0 k.ins.length, I 2, I ((toN pl n k.v.toNat : Nat) : Int), I k.to, I k.el]) (blocksL (toN pl n) (List.take (b + 1) f.bks)) := fun h1 h2 => by
          rw [← blocks_snoc hlt, hbk, hbr]
          exact CW.pre (CW.append ⟨_, _, rfl, frz_tacs h1 h2, FrzL.pure rfl⟩)
        repeat ((with_reducible refine And.intro ?_ ?_); · omega)
        exact ⟨⟨b + 1, _, _⟩, by simp only; omega, by simp only; omega, Wk.give (by simp [get_cons]) ⟨rfl, rfl, rfl, fun _ => rfl, CW.refl _, rfl, rfl, rfl, fun _ => rfl, CW.refl _, rfl, rfl, rfl, fun _ => rfl, CW.refl _, rfl, rfl, rfl, fun _ => rfl, CW.refl _, rfl, rfl, rfl, fun _ => rfl, CW.refl _, rfl, rfl, rfl, (fun h => absurd h (Nat.succ_ne_zero 4)), hcw (show 6 ≤ 7 by omega) rfl, trivial⟩ (Nat.le_refl _)⟩
    · have hgv : True := trivial
      simp only [go_sem,Nat.reduceEqDiff,Nat.reduceAdd,Nat.reduceMul,↓reduceIte,↓dreduceIte,reduceCtorEq,Nat.reduceLeDiff,Nat.reduceLT,Nat.reduceSub,Int.reduceToNat,Int.reduceLE,Int.reduceLT, one_imm, one_ref, List.length_map, gt_iff_lt, ge_iff_le, List.cons_append, List.nil_append, hbk, hnl, hgv, eq_true (show (b : Int) < f.n by omega), eq_false he]
      repeat ((with_reducible refine And.intro ?_ ?_); · first | omega | (simp; omega) | (rw [toL_len]; omega))
      refine VW_loop (fun q : IQ28 => ⟨[(3, .ptr 0 0 0), (6, .ptr 2 2 0), (7, .ref 3 s 0 f.r), (9, .ptr 4 nx 0), (10, I b), (11, .ptr 6 nx2 0), (12, .ref 7 q.s 0 q.i), (13, I q.i)], othH f pl n [⟨nx, 24, 1, [I (n + wdsI pl), .ref 5 s5 0 b]⟩, ⟨s5, 60, 5, blocksL (toN pl n) (f.bks.take b)⟩, ⟨nx2, 60, 1, [inA k.ins, I k.e, I k.v, I k.to, I k.el]⟩, ⟨q.s, 57, 8, tacsL (toN pl n) (k.ins.take q.i)⟩] ⟨f.r, s, nx⟩, q.nx⟩) (fun q => q.i ≤ k.ins.length) (fun q => k.ins.length - q.i) ⟨0, nx2 + 1, nx2 + 1 + 1⟩
        (Wk.virt 57 8 (by decide) (by simp [get_cons]) ⟨_, rfl, by simp, fun j ob' ho => ⟨ob', ho, rfl, rfl, rfl, rfl, fun _ => rfl, fun i x y hx hy => .inl (by rw [hx] at hy; exact Option.some.inj hy)⟩⟩ rfl) (Nat.zero_le _) ?_
      rintro ⟨i, s7, nx3⟩ hi
      simp only at hi
      by_cases hil : i < k.ins.length
      · have hti := hins _ (mem_getD hil)
        have htake : k.ins.take (i + 1) = k.ins.take i ++ [k.ins.getD i default] := by rw [List.take_add_one]; simp [List.getD, List.getElem?_eq_getElem hil]
        generalize hgt : k.ins.getD i default = t at hti htake
        simp only [go_sem,Nat.reduceEqDiff,Nat.reduceAdd,Nat.reduceMul,↓reduceIte,↓dreduceIte,reduceCtorEq,Nat.reduceLeDiff,Nat.reduceLT,Nat.reduceSub,Int.reduceToNat,Int.reduceLE,Int.reduceLT, one_imm, one_ref, List.length_map, gt_iff_lt, ge_iff_le, List.cons_append, List.nil_append, hgt, eq_true (show (i : Int) < k.ins.length by omega)]
        repeat ((with_reducible refine And.intro ?_ ?_); · first | omega | (simp; omega) | (rw [toL_len]; omega))
        refine VCall.of_contractN (refuses_c t) ?_ fun x hx => ?_
        · exact ⟨_, _, rfl, Frz.pure rfl, rfl⟩
        subst hx
        simp only [go_sem,Nat.reduceEqDiff,Nat.reduceAdd,Nat.reduceMul,↓reduceIte,↓dreduceIte,reduceCtorEq,Nat.reduceLeDiff,Nat.reduceLT,Nat.reduceSub,Int.reduceToNat,Int.reduceLE,Int.reduceLT, one_imm, one_ref, List.length_map, gt_iff_lt, ge_iff_le, List.cons_append, List.nil_append]
        refine VCall.of_contract (refsets_c t) (SleL.pure rfl) fun x hx => ?_
        subst hx
        have hsh := uses_shape t
        have hrr : ∀ {x : Int}, 0 ≤ x → x < f.regs → (toL pl n f.r).getD x.toNat default = ((toN pl n x.toNat : Nat) : Int) := fun h1 h2 => toL_get pl n (by unfold BF.r; omega)
        by_cases hs : SetsT t
        · have hst : setsL t = t.d := if_pos hs
          have hd := hti.2 hs
          have gd := hrr hd.1 hd.2
          rcases hsh with hus | hus | hus
          · simp only [go_sem,Nat.reduceEqDiff,Nat.reduceAdd,Nat.reduceMul,↓reduceIte,↓dreduceIte,reduceCtorEq,Nat.reduceLeDiff,Nat.reduceLT,Nat.reduceSub,Int.reduceToNat,Int.reduceLE,Int.reduceLT, one_imm, one_ref, List.length_map, gt_iff_lt, ge_iff_le, List.cons_append, List.nil_append, hst, hus, List.length_cons, List.length_nil, Int.reduceLT, Int.reduceLE, Int.reduceNeg, Nat.reduceAdd, cst0, cst1, cst2, eq_true hd.1, gd]
            repeat ((with_reducible refine And.intro ?_ ?_); · first | omega | (simp; omega) | (rw [toL_len]; omega))
            rw [i64_in (n := (i : Int) + 1) (by omega) (by omega)]
            have e : List.take (i * 8) (tacsL (toN pl n) (List.take i k.ins)) ++ [I t.op, I ((toN pl n t.d.toNat : Nat) : Int), I t.a, I t.b, I t.k, I t.base, I t.size, U32 t.n] = tacsL (toN pl n) (List.take (i + 1) k.ins) := by
              rw [htake, tacs_snoc (i := i) (l := List.take i k.ins) (by rw [List.length_take]; omega)]
              simp [renT, hs, hus]
            rw [e]
            exact ⟨⟨i + 1, _, _⟩, by simp only; omega, by simp only; omega, Wk.mk (by simp [get_cons]) ⟨[_, _], rfl⟩ (Nat.le_refl _)⟩
          · have ha := hti.1 t.a (by rw [hus]; simp)
            have ga := hrr ha.1 ha.2
            simp only [go_sem,Nat.reduceEqDiff,Nat.reduceAdd,Nat.reduceMul,↓reduceIte,↓dreduceIte,reduceCtorEq,Nat.reduceLeDiff,Nat.reduceLT,Nat.reduceSub,Int.reduceToNat,Int.reduceLE,Int.reduceLT, one_imm, one_ref, List.length_map, gt_iff_lt, ge_iff_le, List.cons_append, List.nil_append, hst, hus, List.length_cons, List.length_nil, Int.reduceLT, Int.reduceLE, Int.reduceNeg, Nat.reduceAdd, cst0, cst1, cst2, eq_true hd.1, gd, ga]
            repeat ((with_reducible refine And.intro ?_ ?_); · first | omega | (simp; omega) | (rw [toL_len]; omega))
            rw [i64_in (n := (i : Int) + 1) (by omega) (by omega)]
            have e : List.take (i * 8) (tacsL (toN pl n) (List.take i k.ins)) ++ [I t.op, I ((toN pl n t.d.toNat : Nat) : Int), I ((toN pl n t.a.toNat : Nat) : Int), I t.b, I t.k, I t.base, I t.size, U32 t.n] = tacsL (toN pl n) (List.take (i + 1) k.ins) := by
              rw [htake, tacs_snoc (i := i) (l := List.take i k.ins) (by rw [List.length_take]; omega)]
              simp [renT, hs, hus]
            rw [e]
            exact ⟨⟨i + 1, _, _⟩, by simp only; omega, by simp only; omega, Wk.mk (by simp [get_cons]) ⟨[_, _], rfl⟩ (Nat.le_refl _)⟩
          · have ha := hti.1 t.a (by rw [hus]; simp)
            have ga := hrr ha.1 ha.2
            have hb2 := hti.1 t.b (by rw [hus]; simp)
            have gb := hrr hb2.1 hb2.2
            simp only [go_sem,Nat.reduceEqDiff,Nat.reduceAdd,Nat.reduceMul,↓reduceIte,↓dreduceIte,reduceCtorEq,Nat.reduceLeDiff,Nat.reduceLT,Nat.reduceSub,Int.reduceToNat,Int.reduceLE,Int.reduceLT, one_imm, one_ref, List.length_map, gt_iff_lt, ge_iff_le, List.cons_append, List.nil_append, hst, hus, List.length_cons, List.length_nil, Int.reduceLT, Int.reduceLE, Int.reduceNeg, Nat.reduceAdd, cst0, cst1, cst2, eq_true hd.1, gd, ga, gb]
            repeat ((with_reducible refine And.intro ?_ ?_); · first | omega | (simp; omega) | (rw [toL_len]; omega))
            rw [i64_in (n := (i : Int) + 1) (by omega) (by omega)]
            have e : List.take (i * 8) (tacsL (toN pl n) (List.take i k.ins)) ++ [I t.op, I ((toN pl n t.d.toNat : Nat) : Int), I ((toN pl n t.a.toNat : Nat) : Int), I ((toN pl n t.b.toNat : Nat) : Int), I t.k, I t.base, I t.size, U32 t.n] = tacsL (toN pl n) (List.take (i + 1) k.ins) := by
              rw [htake, tacs_snoc (i := i) (l := List.take i k.ins) (by rw [List.length_take]; omega)]
              simp [renT, hs, hus]
            rw [e]
            exact ⟨⟨i + 1, _, _⟩, by simp only; omega, by simp only; omega, Wk.mk (by simp [get_cons]) ⟨[_, _], rfl⟩ (Nat.le_refl _)⟩
        · have hst : setsL t = -1 := if_neg hs
          rcases hsh with hus | hus | hus
          · simp only [go_sem,Nat.reduceEqDiff,Nat.reduceAdd,Nat.reduceMul,↓reduceIte,↓dreduceIte,reduceCtorEq,Nat.reduceLeDiff,Nat.reduceLT,Nat.reduceSub,Int.reduceToNat,Int.reduceLE,Int.reduceLT, one_imm, one_ref, List.length_map, gt_iff_lt, ge_iff_le, List.cons_append, List.nil_append, hst, hus, List.length_cons, List.length_nil, Int.reduceLT, Int.reduceLE, Int.reduceNeg, Nat.reduceAdd, cst0, cst1, cst2]
            repeat ((with_reducible refine And.intro ?_ ?_); · first | omega | (simp; omega) | (rw [toL_len]; omega))
            rw [i64_in (n := (i : Int) + 1) (by omega) (by omega)]
            have e : List.take (i * 8) (tacsL (toN pl n) (List.take i k.ins)) ++ [I t.op, I t.d, I t.a, I t.b, I t.k, I t.base, I t.size, U32 t.n] = tacsL (toN pl n) (List.take (i + 1) k.ins) := by
              rw [htake, tacs_snoc (i := i) (l := List.take i k.ins) (by rw [List.length_take]; omega)]
              simp [renT, hs, hus]
            rw [e]
            exact ⟨⟨i + 1, _, _⟩, by simp only; omega, by simp only; omega, Wk.mk (by simp [get_cons]) ⟨[_, _], rfl⟩ (Nat.le_refl _)⟩
          · have ha := hti.1 t.a (by rw [hus]; simp)
            have ga := hrr ha.1 ha.2
            simp only [go_sem,Nat.reduceEqDiff,Nat.reduceAdd,Nat.reduceMul,↓reduceIte,↓dreduceIte,reduceCtorEq,Nat.reduceLeDiff,Nat.reduceLT,Nat.reduceSub,Int.reduceToNat,Int.reduceLE,Int.reduceLT, one_imm, one_ref, List.length_map, gt_iff_lt, ge_iff_le, List.cons_append, List.nil_append, hst, hus, List.length_cons, List.length_nil, Int.reduceLT, Int.reduceLE, Int.reduceNeg, Nat.reduceAdd, cst0, cst1, cst2, ga]
            repeat ((with_reducible refine And.intro ?_ ?_); · first | omega | (simp; omega) | (rw [toL_len]; omega))
            rw [i64_in (n := (i : Int) + 1) (by omega) (by omega)]
            have e : List.take (i * 8) (tacsL (toN pl n) (List.take i k.ins)) ++ [I t.op, I t.d, I ((toN pl n t.a.toNat : Nat) : Int), I t.b, I t.k, I t.base, I t.size, U32 t.n] = tacsL (toN pl n) (List.take (i + 1) k.ins) := by
              rw [htake, tacs_snoc (i := i) (l := List.take i k.ins) (by rw [List.length_take]; omega)]
              simp [renT, hs, hus]
            rw [e]
            exact ⟨⟨i + 1, _, _⟩, by simp only; omega, by simp only; omega, Wk.mk (by simp [get_cons]) ⟨[_, _], rfl⟩ (Nat.le_refl _)⟩
          · have ha := hti.1 t.a (by rw [hus]; simp)
            have ga := hrr ha.1 ha.2
            have hb2 := hti.1 t.b (by rw [hus]; simp)
            have gb := hrr hb2.1 hb2.2
            simp only [go_sem,Nat.reduceEqDiff,Nat.reduceAdd,Nat.reduceMul,↓reduceIte,↓dreduceIte,reduceCtorEq,Nat.reduceLeDiff,Nat.reduceLT,Nat.reduceSub,Int.reduceToNat,Int.reduceLE,Int.reduceLT, one_imm, one_ref, List.length_map, gt_iff_lt, ge_iff_le, List.cons_append, List.nil_append, hst, hus, List.length_cons, List.length_nil, Int.reduceLT, Int.reduceLE, Int.reduceNeg, Nat.reduceAdd, cst0, cst1, cst2, ga, gb]
            repeat ((with_reducible refine And.intro ?_ ?_); · first | omega | (simp; omega) | (rw [toL_len]; omega))
            rw [i64_in (n := (i : Int) + 1) (by omega) (by omega)]
            have e : List.take (i * 8) (tacsL (toN pl n) (List.take i k.ins)) ++ [I t.op, I t.d, I ((toN pl n t.a.toNat : Nat) : Int), I ((toN pl n t.b.toNat : Nat) : Int), I t.k, I t.base, I t.size, U32 t.n] = tacsL (toN pl n) (List.take (i + 1) k.ins) := by
              rw [htake, tacs_snoc (i := i) (l := List.take i k.ins) (by rw [List.length_take]; omega)]
              simp [renT, hs, hus]
            rw [e]
            exact ⟨⟨i + 1, _, _⟩, by simp only; omega, by simp only; omega, Wk.mk (by simp [get_cons]) ⟨[_, _], rfl⟩ (Nat.le_refl _)⟩
      · obtain rfl : i = k.ins.length := by omega
        simp only [go_sem,Nat.reduceEqDiff,Nat.reduceAdd,Nat.reduceMul,↓reduceIte,↓dreduceIte,reduceCtorEq,Nat.reduceLeDiff,Nat.reduceLT,Nat.reduceSub,Int.reduceToNat,Int.reduceLE,Int.reduceLT, one_imm, one_ref, List.length_map, gt_iff_lt, ge_iff_le, List.cons_append, List.nil_append, eq_false (show ¬ (k.ins.length : Int) < k.ins.length by omega)]
        rw [i64_in (n := (b : Int) + 1) (by omega) (by omega)]
        have hbr : bkL (renB (toN pl n) k) = [inA (k.ins.map (renT (toN pl n))), I k.e, I k.v, I k.to, I k.el] := by simp [renB, he]
        have hcw : ∀ {m : Nat} {H : List VObj} {x : Nat}, m ≤ 7 → H[7]? = some ⟨s7, 57, 8, tacsL (toN pl n) (List.take k.ins.length k.ins)⟩ → CW m H x (List.take (b * 5) (blocksL (toN pl n) (List.take b f.bks)) ++ [AV.ref 7 s7 0 k.ins.length, I k.e, I k.v, I k.to, I k.el]) (blocksL (toN pl n) (List.take (b + 1) f.bks)) := fun h1 h2 => by
          rw [← blocks_snoc hlt, hbk, hbr]
          exact CW.pre (CW.append ⟨_, _, rfl, frz_tacs h1 h2, FrzL.pure rfl⟩)
        repeat ((with_reducible refine And.intro ?_ ?_); · omega)
        exact ⟨⟨b + 1, _, _⟩, by simp only; omega, by simp only; omega, Wk.give (by simp [get_cons]) ⟨rfl, rfl, rfl, fun _ => rfl, CW.refl _, rfl, rfl, rfl, fun _ => rfl, CW.refl _, rfl, rfl, rfl, fun _ => rfl, CW.refl _, rfl, rfl, rfl, fun _ => rfl, CW.refl _, rfl, rfl, rfl, fun _ => rfl, CW.refl _, rfl, rfl, rfl, (fun h => absurd h (Nat.succ_ne_zero 4)), hcw (show 6 ≤ 7 by omega) rfl, trivial⟩ (Nat.le_refl _)⟩
  · obtain rfl : b = f.n := by omega
    simp only [go_sem,Nat.reduceEqDiff,Nat.reduceAdd,Nat.reduceMul,↓reduceIte,↓dreduceIte,reduceCtorEq,Nat.reduceLeDiff,Nat.reduceLT,Nat.reduceSub,Int.reduceToNat,Int.reduceLE,Int.reduceLT, one_imm, one_ref, List.length_map, hnl, List.cons_append, List.nil_append, eq_false (show ¬ (f.n : Int) < f.n by omega)]
    have tk : List.take f.n f.bks = f.bks := List.take_of_length_le (Nat.le_refl _)
    rw [tk]
    have h := Frz.refT (n := 0) (H := [⟨0, 24, 1, bfL f⟩, ⟨1, 33, 1, [ints pl]⟩, ⟨2, 24, 1, [I (n + wdsI pl), .ref 5 s5 0 f.n]⟩, ⟨s, 3, 1, (toL pl n f.r).map I⟩, ⟨nx, 24, 1, [I (n + wdsI pl), .ref 5 s5 0 f.n]⟩, ⟨s5, 60, 5, blocksL (toN pl n) f.bks⟩]) (nx := nx2) (id := 5) (len := f.n) (yss := f.bks.map fun b => bkL (renB (toN pl n) b)) (zss := f.bks.map fun b => bkL (renB (toN pl n) b)) (Nat.zero_le _) rfl rfl rfl rfl (by intro q hq; obtain ⟨t, _, rfl⟩ := List.mem_map.1 hq; rfl) (by rw [List.length_map]; rfl) (FrzLL.pure (by intro q hq; obtain ⟨t, _, rfl⟩ := List.mem_map.1 hq; rfl))
    refine ⟨_, Frz.agg ⟨_, _, rfl, Frz.pure rfl, _, _, rfl, h, rfl⟩, ?_⟩
    show AV.agg [I (n + wdsI pl), AV.imm 5 (List.map AV.agg (f.bks.map fun b => bkL (renB (toN pl n) b)))] = AV.agg [I (n + wdsI pl), AV.imm 5 ((f.bks.map (renB (toN pl n))).map bkA)]
    rw [List.map_map, List.map_map]
    rfl
end Go.Proofs.Ytncjbipnkdlkoaa
namespace Go.Proofs.Ytncjbipnkdlkoaa
set_option linter.unusedSimpArgs false
set_option linter.unusedVariables false
open Go.V
theorem one_intro28 {f : BF} {number words : Int} (h0 : 0 ≤ f.regs) (h1 : f.regs ≤ 4000) (h2 : f.bks ≠ []) (h : ∀ b ∈ f.bks, EndsP b f.bks.length f.regs ∧ ∀ t ∈ b.ins, FitsT t number f.regs words) : oneB f number words = true := by
  unfold oneB
  simp only [Bool.and_eq_true, decide_eq_true_eq, List.all_eq_true]
  refine ⟨⟨h0, h1, h2⟩, fun b hb => ?_⟩
  unfold blkB endsB insB fitsT
  simp only [Bool.and_eq_true, decide_eq_true_eq, List.all_eq_true]
  exact h b hb
theorem fits_ren {to : Nat → Nat} {t : Tac} {f regs regs' words : Int} (h : FitsT t f regs words) (hto : ∀ u : Nat, (u : Int) < regs → ((to u : Nat) : Int) < regs') : FitsT (renT to t) f regs' words := by
  obtain ⟨op, d, a, b, k, base, size, n⟩ := t
  have h1 := hto d.toNat
  have h2 := hto a.toNat
  have h3 := hto b.toNat
  have hop : 1 ≤ op ∧ op ≤ 10 := ⟨h.1, h.2.1⟩
  have ho : op = 1 ∨ op = 2 ∨ op = 3 ∨ op = 4 ∨ op = 5 ∨ op = 6 ∨ op = 7 ∨ op = 8 ∨ op = 9 ∨ op = 10 := by omega
  rcases ho with rfl | rfl | rfl | rfl | rfl | rfl | rfl | rfl | rfl | rfl <;>
    (simp only [FitsT, renT, usesL, restT, SetsT, Int.reduceEq, or_false, or_true, false_or, true_or, or_self, if_true, if_false, List.mem_cons, List.not_mem_nil, forall_eq_or_imp, forall_eq, false_implies, implies_true, true_and, and_true, Int.reduceLE, List.length_cons, List.length_nil, Nat.reduceAdd, Nat.reduceEqDiff, Nat.reduceLeDiff, Nat.le_refl, forall_const, reduceCtorEq, Nat.zero_le, Nat.succ_ne_zero, Nat.one_ne_zero, Nat.zero_ne_one, Nat.reduceBEq] at h ⊢
     omega)
theorem ends_ren {to : Nat → Nat} {b : Bk} {n regs regs' : Int} (h : EndsP b n regs) (hto : ∀ u : Nat, (u : Int) < regs → ((to u : Nat) : Int) < regs') : EndsP (renB to b) n regs' := by
  obtain ⟨ins, e, v, t, el⟩ := b
  have h1 := hto v.toNat
  unfold EndsP renB at *
  simp only at h ⊢
  by_cases h2 : e = 1
  · simp only [h2, if_true, Int.reduceEq, if_false] at h ⊢; exact h
  · by_cases h3 : e = 2
    · simp only [h3, if_true, Int.reduceEq, if_false] at h ⊢
      omega
    · simp only [h2, h3, if_true, Int.reduceEq, if_false] at h ⊢; exact h
theorem other_one {f : BF} {L : LD} {pl : List Int} {n : Int} {k w : Int} (h0 : 0 ≤ n) (hA : AllocP f L pl n) (hw : n + wdsI pl ≤ 4000) (h1 : oneB f k w = true) : oneB (otherF f pl n) k w = true := by
  obtain ⟨p1, p2, p3, p4⟩ := one_parts h1
  have hp := wdsI_pos pl
  have hlt : ∀ u : Nat, (u : Int) < f.regs → ((toN pl n u : Nat) : Int) < n + wdsI pl := fun u hu => by
    have := toN_lt h0 hA (u := u) (by unfold BF.r; omega)
    omega
  refine one_intro28 (by show 0 ≤ n + wdsI pl; omega) hw (fun e => p3 (List.map_eq_nil_iff.1 e)) fun b hb => ?_
  obtain ⟨b', hb', rfl⟩ := List.mem_map.1 hb
  obtain ⟨q1, q2⟩ := p4 b' hb'
  have hl : (otherF f pl n).bks.length = f.bks.length := by simp [otherF]
  rw [hl]
  refine ⟨ends_ren q1 hlt, fun t ht => ?_⟩
  obtain ⟨t', ht', rfl⟩ := List.mem_map.1 ht
  exact fits_ren (q2 t' ht') hlt
theorem other_w {f : BF} {pl : List Int} {n : Int} (hl : ∀ b ∈ f.bks, b.ins.length ≤ 140737488355328) (h : ∀ b ∈ f.bks, ∀ t ∈ b.ins, In32 t.n) : (∀ b ∈ (otherF f pl n).bks, b.ins.length ≤ 140737488355328) ∧ ∀ b ∈ (otherF f pl n).bks, ∀ t ∈ b.ins, In32 t.n := by
  refine ⟨fun b hb => ?_, fun b hb t ht => ?_⟩
  · obtain ⟨b', hb', rfl⟩ := List.mem_map.1 hb
    have := hl b' hb'
    simpa [renB] using this
  · obtain ⟨b', hb', rfl⟩ := List.mem_map.1 hb
    obtain ⟨t', ht', rfl⟩ := List.mem_map.1 ht
    exact h b' hb' t' ht'
theorem other_res {ws : Int} {fs fs' : List BF} {inp : ByteArray} {fuel : Nat} (hf : FnsOk fs ws.toNat) (hne : fs ≠ []) (hlen : fs'.length = fs.length) (h : ∀ i < fs.length, Fine (fs.getD i default) ∧ ∃ (L : LD) (pl : List Int) (n : Int), 0 ≤ n ∧ AllocP (fs.getD i default) L pl n ∧ fs'.getD i default = otherF (fs.getD i default) pl n) :
    resB ⟨ws, fs'⟩ inp fuel = resB ⟨ws, fs⟩ inp fuel := by
  have hpos := List.length_pos_iff.2 hne
  have h1 := alloc_fun (inp := inp) (fuel := fuel) hf hlen h fs.length (Nat.le_refl _) (fs.length - 1) (by omega) (begB ⟨ws, fs⟩) rfl
  have h2 : finB ⟨ws, fs'⟩ inp fuel = finB ⟨ws, fs⟩ inp fuel := by
    unfold finB
    show funF fs' inp fuel fs'.length (fs'.length - 1) (begB ⟨ws, fs'⟩) = _
    rw [hlen]
    exact h1.symm
  unfold resB
  rw [h2]
theorem frz_fun28 {n : Nat} {H : List VObj} {nx id s ty : Nat} {f : BF} (hid : n ≤ id) (ho : H[id]? = some ⟨s, ty, 2, bfL f⟩) : Frz n H nx (.ref id s 0 1) (.imm 2 [bfA f]) := by
  have h := Frz.refT (n := n) (nx := nx) (len := 1) hid ho rfl rfl (yss := [bfL f]) (zss := [bfL f]) (by simp) (by simp) rfl (FrzLL.pure fun l hl => by simp at hl; subst hl; rfl)
  exact h
theorem bytes_refl (a : Array UInt8) : (({ data := a } : ByteArray) == { data := a }) = true := by
  show (a == a) = true
  simp
end Go.Proofs.Ytncjbipnkdlkoaa
namespace Go.Proofs.Ytncjbipnkdlkoaa
set_option linter.unusedSimpArgs false
set_option linter.unusedVariables false
set_option maxRecDepth 10000
open Go.V
theorem flag_c (b : Bool) : Contract Try.prog 68 [B b] (fun r => r = U32 (if b then 1 else 0)) := by
  refine Contract.of_call (VCall.of_body hmix f_scref01_flag (by simp) ?_)
  cases b <;> simp only [go_sem,Nat.reduceEqDiff,Nat.reduceAdd,Nat.reduceMul,↓reduceIte,↓dreduceIte,reduceCtorEq,Nat.reduceLeDiff,Nat.reduceLT,Nat.reduceSub,Int.reduceToNat,Int.reduceLE,Int.reduceLT, c_scref01_flag] <;> exact ⟨_, Frz.pure rfl, by simp⟩
section
variable {α : Type}
theorem obj_get (H : List α) (o : α) (tl : List α) : (H ++ o :: tl)[H.length]? = some o := by simp
theorem obj_get1 (H : List α) (o t : α) (tl : List α) : (H ++ o :: t :: tl)[H.length + 1]? = some t := by
  rw [List.getElem?_append_right (by omega)]; simp
theorem obj_set (H : List α) (o x : α) (tl : List α) : (H ++ o :: tl).set H.length x = H ++ x :: tl := by
  rw [List.set_append_right _ _ (by omega)]; simp
end
theorem bits_v (a : Int) (ha : In32 a) (H : List VObj) (nx : Nat) (C : AV → List VObj → Nat → Prop)
    (hC : ∀ s nx' tl, nx ≤ s → s < nx' → C (.ref H.length s 0 32) (H ++ ⟨s, 3, 1, (bitsN a.toNat 32).map I⟩ :: tl) nx') : VCall Try.prog 69 [U32 a] H nx C := by
  refine VCall.of_body hmix f_scref01_Bits (by simp) ?_
  simp only [go_sem,Nat.reduceEqDiff,Nat.reduceAdd,Nat.reduceMul,↓reduceIte,↓dreduceIte,reduceCtorEq,Nat.reduceLeDiff,Nat.reduceLT,Nat.reduceSub,Int.reduceToNat,Int.reduceLE,Int.reduceLT, c_scref01_Bits]
  have hmx : (2000000 : Nat) ≤ maxLen := by decide
  refine VW_loop (fun q : Nat × Nat × Nat => ⟨[(0, U32 ((a.toNat / 2 ^ q.1 : Nat) : Int)), (3, .ref H.length q.2.1 0 q.1), (4, I q.1)], H ++ [⟨q.2.1, 3, 1, (bitsN a.toNat q.1).map I⟩], q.2.2⟩)
    (fun q => q.1 ≤ 32 ∧ nx ≤ q.2.1 ∧ q.2.1 < q.2.2) (fun q => 32 - q.1) (0, nx, nx + 1)
    (Wk.virt 3 1 (by decide) ?_ ⟨H, rfl, rfl, fun j ob' ho => ⟨ob', ho, rfl, rfl, rfl, rfl, fun _ => rfl, fun i x y hx hy => .inl (by rw [hx] at hy; exact Option.some.inj hy)⟩⟩ rfl) ⟨by simp, Nat.le_refl _, by simp⟩ ?_
  · have := ha.1
    simp [get_cons]; omega
  rintro ⟨k, s, n⟩ ⟨hk, hs, hsn⟩
  simp only at hk hs hsn
  by_cases h1 : k < 32
  case neg =>
    have h1' := eq_false (show ¬ (k : Int) < 32 by omega)
    have : k = 32 := by omega
    subst this
    simp only [go_sem,Nat.reduceEqDiff,Nat.reduceAdd,Nat.reduceMul,↓reduceIte,↓dreduceIte,reduceCtorEq,Nat.reduceLeDiff,Nat.reduceLT,Nat.reduceSub,Int.reduceToNat,Int.reduceLE,Int.reduceLT, h1']
    exact hC s n [] hs hsn
  have h1' := eq_true (show (k : Int) < 32 by omega)
  have hl := bitsN_length a.toNat k
  have hsu : ((a.toNat / 2 ^ (k + 1) : Nat) : Int) = ((a.toNat / 2 ^ k / 2 : Nat) : Int) := by rw [Nat.pow_succ, Nat.div_div_eq_div_mul]
  have hqa : a.toNat / 2 ^ k ≤ a.toNat := Nat.div_le_self _ _
  have hbs := bitsN_succ a.toNat k
  have ha2 := ha.2
  have ha1 := ha.1
  generalize a.toNat / 2 ^ k = q at hsu hqa hbs
  have hw1 : IntKind.i64.wrap ((q : Int).tmod 2) = ((q % 2 : Nat) : Int) := by
    rw [Int.tmod_eq_emod_of_nonneg (by omega), i64_in (by omega) (by omega)]; omega
  have hw2 : IntKind.u32.wrap ((q : Int).tdiv 2) = ((q / 2 : Nat) : Int) := by
    rw [Int.tdiv_eq_ediv_of_nonneg (by omega), w32_in ⟨by omega, by omega⟩]; omega
  simp only [go_sem,Nat.reduceEqDiff,Nat.reduceAdd,Nat.reduceMul,↓reduceIte,↓dreduceIte,reduceCtorEq,Nat.reduceLeDiff,Nat.reduceLT,Nat.reduceSub,Int.reduceToNat,Int.reduceLE,Int.reduceLT, h1', List.append_assoc, obj_get, obj_get1, obj_set, List.length_append, hw1, hw2]
  repeat (refine And.intro (by omega) ?_)
  rw [i64_in (by omega) (by omega)]
  refine ⟨(k + 1, n + 1, n + 1 + 1), ⟨by simp only; omega, by simp only; omega, by simp only; omega⟩, by simp only; omega, Wk.mk (by simp only [hsu]; simp [get_cons]) ⟨[⟨n, 3, 1, [I ((q % 2 : Nat) : Int)]⟩], ?_⟩ (Nat.le_refl _)⟩
  rw [List.take_of_length_le (by simp [hl]), hbs, List.map_append]
  simp
theorem numN_lt : ∀ (l : List Int), (∀ b ∈ l, b = 0 ∨ b = 1) → numN l < 2 ^ l.length
  | [], _ => by simp [numN]
  | b :: l, h => by
    have := numN_lt l fun c hc => h c (by simp [hc])
    have := h b (by simp)
    simp only [numN, List.length_cons, Nat.pow_succ]
    omega
theorem ofN_c (l : List Int) (hl : l.length ≤ 32) (hb : ∀ b ∈ l, b = 0 ∨ b = 1) : ContractN Try.prog 70 [ints l] (fun r => r = U32 ((numN l : Nat) : Int)) := by
  refine ContractN.of_call (VCall.of_body hmix f_scref01_Of (by simp) ?_)
  simp only [go_sem,Nat.reduceEqDiff,Nat.reduceAdd,Nat.reduceMul,↓reduceIte,↓dreduceIte,reduceCtorEq,Nat.reduceLeDiff,Nat.reduceLT,Nat.reduceSub,Int.reduceToNat,Int.reduceLE,Int.reduceLT, c_scref01_Of]
  rw [i64_in (by omega) (by omega)]
  refine VW_loop (fun j : Nat => ⟨[(0, ints l), (3, .val (.int .u64 (numN (l.drop j) : Nat))), (4, I ((j : Int) - 1))], [], 0⟩) (fun j => j ≤ l.length) (fun j => j) l.length
    (Wk.mk (by simp [get_cons, numN]) ⟨[], rfl⟩ (Nat.le_refl _)) (Nat.le_refl _) ?_
  intro j hj
  have hlt := numN_lt (l.drop j) fun b hx => hb b (List.mem_of_mem_drop hx)
  have hp : 2 ^ (l.drop j).length ≤ 2 ^ 32 := Nat.pow_le_pow_right (by omega) (by simp; omega)
  by_cases h1 : j = 0
  · subst h1
    simp only [go_sem,Nat.reduceEqDiff,Nat.reduceAdd,Nat.reduceMul,↓reduceIte,↓dreduceIte,reduceCtorEq,Nat.reduceLeDiff,Nat.reduceLT,Nat.reduceSub,Int.reduceToNat,Int.reduceLE,Int.reduceLT]
    rw [List.drop_zero] at hlt hp
    refine ⟨fun h => by omega, fun _ => ?_⟩
    have hm : IntKind.u32.wrap (((numN l : Nat) : Int).tmod 4294967296) = ((numN l : Nat) : Int) := by
      rw [Int.tmod_eq_emod_of_nonneg (by omega), IntKind.wrap_u32]; omega
    rw [hm]
    exact ⟨by omega, _, FrzN.val, rfl⟩
  · have h1' := eq_true (show (0 : Int) ≤ (j : Int) - 1 by omega)
    have e1 : ((j : Int) - 1).toNat = j - 1 := by omega
    obtain ⟨i, rfl⟩ : ∃ i, j = i + 1 := ⟨j - 1, by omega⟩
    have hi : i < l.length := by omega
    have hd := List.drop_eq_getElem_cons hi
    have hbit := hb l[i] (List.getElem_mem hi)
    have eg : l.getD i default = l[i] := by simp [List.getD, List.getElem?_eq_getElem hi]
    have hlt2 := numN_lt (l.drop (i + 1)) fun b hx => hb b (List.mem_of_mem_drop hx)
    simp only [go_sem,Nat.reduceEqDiff,Nat.reduceAdd,Nat.reduceMul,↓reduceIte,↓dreduceIte,reduceCtorEq,Nat.reduceLeDiff,Nat.reduceLT,Nat.reduceSub,Int.reduceToNat,Int.reduceLE,Int.reduceLT, h1', e1, Nat.add_sub_cancel, eg]
    repeat (refine And.intro (by omega) ?_)
    have hw : IntKind.u64.wrap (IntKind.u64.wrap (2 * ((numN (l.drop (i + 1)) : Nat) : Int)) + IntKind.u64.wrap l[i]) = ((numN (l.drop i) : Nat) : Int) := by
      rw [hd, numN]
      simp only [IntKind.wrap_u64]
      omega
    rw [hw, i64_in (by omega) (by omega)]
    exact ⟨i, by omega, by omega, Wk.mk (by simp [get_cons] <;> omega) ⟨[], rfl⟩ (Nat.le_refl _)⟩
def shN (op a : Int) (k : Nat) : Int := if op = 12 then ((a.toNat * 2 ^ k % 4294967296 : Nat) : Int) else ((a.toNat / 2 ^ k : Nat) : Int)
theorem refshift_c (op a b : Int) (ha : In32 a) (hb : In32 b) : Contract Try.prog 67 [I op, U32 a, U32 b] (fun r => r = U32 (if 31 < b then 0 else shN op a b.toNat)) := by
  refine Contract.of_call (VCall.of_body hmix f_scref01_shift (by simp) ?_)
  obtain ⟨ha1, ha2⟩ := ha
  obtain ⟨hb1, hb2⟩ := hb
  by_cases h0 : 32 ≤ b
  · simp only [go_sem,Nat.reduceEqDiff,Nat.reduceAdd,Nat.reduceMul,↓reduceIte,↓dreduceIte,reduceCtorEq,Nat.reduceLeDiff,Nat.reduceLT,Nat.reduceSub,Int.reduceToNat,Int.reduceLE,Int.reduceLT, c_scref01_shift, eq_true h0]
    exact ⟨_, Frz.pure rfl, by rw [if_pos (by omega)]⟩
  simp only [go_sem,Nat.reduceEqDiff,Nat.reduceAdd,Nat.reduceMul,↓reduceIte,↓dreduceIte,reduceCtorEq,Nat.reduceLeDiff,Nat.reduceLT,Nat.reduceSub,Int.reduceToNat,Int.reduceLE,Int.reduceLT, c_scref01_shift, eq_false h0]
  have hshl : ∀ k, shN op a k ≤ 4294967295 ∧ 0 ≤ shN op a k := fun k => by
    unfold shN
    split
    · omega
    · have := Nat.div_le_self a.toNat (2 ^ k)
      generalize a.toNat / 2 ^ k = q at *
      omega
  have hs : ∀ k, shN op a (k + 1) = if op = 12 then (2 * shN op a k) % 4294967296 else shN op a k / 2 := fun k => by
    unfold shN
    by_cases e : op = 12
    · simp only [if_pos e]
      rw [Nat.pow_succ, ← Nat.mul_assoc]
      generalize a.toNat * 2 ^ k = q
      omega
    · simp only [if_neg e]
      rw [Nat.pow_succ, ← Nat.div_div_eq_div_mul]
      generalize a.toNat / 2 ^ k = q
      omega
  have hz : shN op a 0 = a := by unfold shN; split <;> simp <;> omega
  refine VW_loop (fun k : Nat => ⟨[(0, I op), (2, U32 b), (7, .val (.int .u64 (shN op a k))), (8, U32 k)], [], 0⟩) (fun k => k ≤ b.toNat) (fun k => b.toNat - k) 0
    (Wk.mk ?_ ⟨[], rfl⟩ (Nat.le_refl _)) (by omega) ?_
  · have : IntKind.u64.wrap a = a := by rw [IntKind.wrap_u64]; omega
    simp [get_cons, hz, this]
  intro k hk
  have hk1 := hshl k
  by_cases h1 : k < b.toNat
  case neg =>
    have h1' := eq_false (show ¬ (k : Int) < b by omega)
    simp only [go_sem,Nat.reduceEqDiff,Nat.reduceAdd,Nat.reduceMul,↓reduceIte,↓dreduceIte,reduceCtorEq,Nat.reduceLeDiff,Nat.reduceLT,Nat.reduceSub,Int.reduceToNat,Int.reduceLE,Int.reduceLT, h1']
    have : k = b.toNat := by omega
    subst this
    rw [w32_in ⟨hk1.2, by omega⟩]
    exact ⟨_, Frz.pure rfl, by rw [if_neg (by omega)]⟩
  have h1' := eq_true (show (k : Int) < b by omega)
  by_cases e : op = 12
  case pos =>
    simp only [go_sem,Nat.reduceEqDiff,Nat.reduceAdd,Nat.reduceMul,↓reduceIte,↓dreduceIte,reduceCtorEq,Nat.reduceLeDiff,Nat.reduceLT,Nat.reduceSub,Int.reduceToNat,Int.reduceLE,Int.reduceLT, h1', eq_true e]
    have hw : (IntKind.u64.wrap (2 * shN op a k)).tmod 4294967296 = shN op a (k + 1) := by
      rw [hs, if_pos e, IntKind.wrap_u64, Int.tmod_eq_emod_of_nonneg (by omega)]; omega
    refine ⟨by omega, ?_⟩
    rw [hw, w32_in ⟨by omega, by omega⟩]
    exact ⟨k + 1, by omega, by omega, Wk.mk (by simp [get_cons, e]) ⟨[], rfl⟩ (Nat.le_refl _)⟩
  case neg =>
    simp only [go_sem,Nat.reduceEqDiff,Nat.reduceAdd,Nat.reduceMul,↓reduceIte,↓dreduceIte,reduceCtorEq,Nat.reduceLeDiff,Nat.reduceLT,Nat.reduceSub,Int.reduceToNat,Int.reduceLE,Int.reduceLT, h1', eq_false e]
    have hw : IntKind.u64.wrap ((shN op a k).tdiv 2) = shN op a (k + 1) := by
      rw [hs, if_neg e, Int.tdiv_eq_ediv_of_nonneg (by omega), IntKind.wrap_u64]; omega
    refine ⟨by omega, ?_⟩
    rw [hw, w32_in ⟨by omega, by omega⟩]
    exact ⟨k + 1, by omega, by omega, Wk.mk (by simp [get_cons]) ⟨[], rfl⟩ (Nat.le_refl _)⟩
def zL (x a k : Nat) : List Int := bitsN x k ++ (bitsN a 32).drop k
theorem zL_length {x a k : Nat} (h : k ≤ 32) : (zL x a k).length = 32 := by simp [zL, bitsN_length]; omega
theorem zL_get {x a k : Nat} (h : k < 32) : (zL x a k).getD k default = ((a / 2 ^ k % 2 : Nat) : Int) := by
  have : (zL x a k).getD k default = (bitsN a 32).getD k default := by
    unfold zL
    simp only [List.getD]
    rw [List.getElem?_append_right (by rw [bitsN_length]; exact Nat.le_refl _), bitsN_length, Nat.sub_self, List.getElem?_drop, Nat.add_zero]
  rw [this, bitsN_get h]
theorem zL_set {x a k : Nat} (h : k < 32) : (zL x a k).set k ((x / 2 ^ k % 2 : Nat) : Int) = zL x a (k + 1) := by
  have hk : k < (bitsN a 32).length := by rw [bitsN_length]; exact h
  unfold zL
  rw [bitsN_succ x k]
  generalize bitsN a 32 = l at hk
  rw [List.set_append_right _ _ (by rw [bitsN_length]; exact Nat.le_refl _), bitsN_length, Nat.sub_self, List.drop_eq_getElem_cons hk, List.set_cons_zero, List.append_assoc]
  rfl
theorem rboth_c (op a b : Int) (ho : op = 9 ∨ op = 10 ∨ op = 11) (ha : In32 a) (hb : In32 b) : Contract Try.prog 66 [I op, U32 a, U32 b] (fun r => r = U32 (applyW op a b).1) := by
  refine Contract.of_call (VCall.of_body hmix f_scref01_both (by simp) ?_)
  simp only [go_sem,Nat.reduceEqDiff,Nat.reduceAdd,Nat.reduceMul,↓reduceIte,↓dreduceIte,reduceCtorEq,Nat.reduceLeDiff,Nat.reduceLT,Nat.reduceSub,Int.reduceToNat,Int.reduceLE,Int.reduceLT, c_scref01_both]
  refine bits_v a ha _ _ _ fun s1 nx1 tl1 hs1 hn1 => ?_
  simp only [go_sem,Nat.reduceEqDiff,Nat.reduceAdd,Nat.reduceMul,↓reduceIte,↓dreduceIte,reduceCtorEq,Nat.reduceLeDiff,Nat.reduceLT,Nat.reduceSub,Int.reduceToNat,Int.reduceLE,Int.reduceLT]
  refine bits_v b hb _ _ _ fun s2 nx2 tl2 hs2 hn2 => ?_
  simp only [go_sem,Nat.reduceEqDiff,Nat.reduceAdd,Nat.reduceMul,↓reduceIte,↓dreduceIte,reduceCtorEq,Nat.reduceLeDiff,Nat.reduceLT,Nat.reduceSub,Int.reduceToNat,Int.reduceLE,Int.reduceLT]
  obtain ⟨_, hin, hbit⟩ := both_bits ha hb ho
  obtain ⟨x, hx⟩ : ∃ x, (applyW op a b).1.toNat = x := ⟨_, rfl⟩
  rw [hx] at hbit
  have hx2 : (applyW op a b).1 = (x : Int) := by have := hin.1; omega
  rw [hx2]
  refine VW_loop (fun k : Nat => ⟨[(0, I op), (7, .ref 0 s1 0 32), (8, ints (bitsN b.toNat 32)), (9, I k)], [⟨s1, 3, 1, (zL x a.toNat k).map I⟩], nx2⟩) (fun k => k ≤ 32) (fun k => 32 - k) 0
    (Wk.give ?_ ?_ (Nat.le_refl _)) (by omega) ?_
  · intro p hp
    simp only [List.mem_cons, List.not_mem_nil, or_false] at hp
    rcases hp with rfl | rfl | rfl | rfl
    · exact .inl rfl
    · exact .inl rfl
    · exact .inr (frz_ints (ty := 3) (by simp) (by simp) (bitsN_length _ _).symm)
    · exact .inl rfl
  · refine ⟨rfl, rfl, rfl, by simp, ?_, by simp [OW]⟩
    simp only [zL, List.drop_zero]
    exact CW.refl _
  intro k hk
  have hzl := zL_length (x := x) (a := a.toNat) hk
  have hbl := bitsN_length b.toNat 32
  by_cases h1 : k < 32
  case neg =>
    have h1' := eq_false (show ¬ (k : Int) < 32 by omega)
    have : k = 32 := by omega
    subst this
    simp only [go_sem,Nat.reduceEqDiff,Nat.reduceAdd,Nat.reduceMul,↓reduceIte,↓dreduceIte,reduceCtorEq,Nat.reduceLeDiff,Nat.reduceLT,Nat.reduceSub,Int.reduceToNat,Int.reduceLE,Int.reduceLT, h1']
    have ez : zL x a.toNat 32 = bitsN x 32 := by simp [zL, bitsN_length]
    rw [ez] at hzl ⊢
    refine VCall.of_contractN (ofN_c (bitsN x 32) (by omega) fun b hb => ?_) ?_ fun r hr => ?_
    · obtain ⟨i, _, rfl⟩ := List.mem_map.1 hb
      have := Nat.mod_two_eq_zero_or_one (x / 2 ^ i)
      omega
    · exact ⟨_, _, rfl, frz_ints (by omega) rfl hzl.symm, rfl⟩
    · subst hr
      simp only [go_sem,Nat.reduceEqDiff,Nat.reduceAdd,Nat.reduceMul,↓reduceIte,↓dreduceIte,reduceCtorEq,Nat.reduceLeDiff,Nat.reduceLT,Nat.reduceSub,Int.reduceToNat,Int.reduceLE,Int.reduceLT]
      refine ⟨_, Frz.pure rfl, ?_⟩
      have := hin.2
      rw [numN_bits, Nat.mod_eq_of_lt (by omega)]
  have h1' := eq_true (show (k : Int) < 32 by omega)
  have g1 := zL_get (x := x) (a := a.toNat) h1
  have g2 := bitsN_get (x := b.toNat) h1
  have hset := zL_set (x := x) (a := a.toNat) h1
  have hb1 := hbit k
  have hxb := Nat.mod_two_eq_zero_or_one (a.toNat / 2 ^ k)
  have hyb := Nat.mod_two_eq_zero_or_one (b.toNat / 2 ^ k)
  generalize a.toNat / 2 ^ k % 2 = u at *
  generalize b.toNat / 2 ^ k % 2 = v at *
  have hw : IntKind.i64.wrap ((u : Int) + (v : Int)) = ((u + v : Nat) : Int) := by rw [i64_in (by omega) (by omega)]; omega
  by_cases hc : (u + v = 2 ∧ op ≠ 11) ∨ (u + v = 1 ∧ op ≠ 9)
  case pos =>
    rw [if_pos hc] at hb1
    rw [hb1] at hset
    have fin : ∀ e, (∀ p ∈ [(0, I op), (7, AV.ref 0 s1 0 32), (8, ints (bitsN b.toNat 32)), (9, I ((k + 1 : Nat) : Int))], get e p.1 = p.2) → ∃ q : Nat, q ≤ 32 ∧ 32 - q < 32 - k ∧ Wk ⟨e, [⟨s1, 3, 1, (((zL x a.toNat k).set k 0).set k 1).map I⟩], nx2⟩ ⟨[(0, I op), (7, .ref 0 s1 0 32), (8, ints (bitsN b.toNat 32)), (9, I q)], [⟨s1, 3, 1, (zL x a.toNat q).map I⟩], nx2⟩ := fun e he =>
      ⟨k + 1, by omega, by omega, Wk.mk he ⟨[], by rw [List.set_set, show (1 : Int) = ((1 : Nat) : Int) from rfl, hset]; simp⟩ (Nat.le_refl _)⟩
    rcases hc with ⟨hc1, hc2⟩ | ⟨hc1, hc2⟩
    · have q1 := eq_true (show (((u + v : Nat) : Int)) = 2 by omega)
      have q2 : (op != 11) = true := by simp [hc2]
      simp only [go_sem,Nat.reduceEqDiff,Nat.reduceAdd,Nat.reduceMul,↓reduceIte,↓dreduceIte,reduceCtorEq,Nat.reduceLeDiff,Nat.reduceLT,Nat.reduceSub,Int.reduceToNat,Int.reduceLE,Int.reduceLT, undef, h1', Int.toNat_natCast, g1, g2, hw, q1, q2, set_map, hzl, List.length_set, List.length_map, hbl]
      repeat (refine And.intro (by omega) ?_)
      rw [i64_in (by omega) (by omega)]
      exact fin _ (by simp [get_cons])
    · have q1 := eq_false (show ¬ (((u + v : Nat) : Int)) = 2 by omega)
      have q3 := eq_true (show (((u + v : Nat) : Int)) = 1 by omega)
      have q2 : (op != 9) = true := by simp [hc2]
      simp only [go_sem,Nat.reduceEqDiff,Nat.reduceAdd,Nat.reduceMul,↓reduceIte,↓dreduceIte,reduceCtorEq,Nat.reduceLeDiff,Nat.reduceLT,Nat.reduceSub,Int.reduceToNat,Int.reduceLE,Int.reduceLT, undef, h1', Int.toNat_natCast, g1, g2, hw, q1, q2, q3, set_map, hzl, List.length_set, List.length_map, hbl]
      repeat (refine And.intro (by omega) ?_)
      rw [i64_in (by omega) (by omega)]
      exact fin _ (by simp [get_cons])
  case neg =>
    rw [if_neg hc] at hb1
    rw [hb1] at hset
    have fin : ∀ e, (∀ p ∈ [(0, I op), (7, AV.ref 0 s1 0 32), (8, ints (bitsN b.toNat 32)), (9, I ((k + 1 : Nat) : Int))], get e p.1 = p.2) → ∃ q : Nat, q ≤ 32 ∧ 32 - q < 32 - k ∧ Wk ⟨e, [⟨s1, 3, 1, ((zL x a.toNat k).set k 0).map I⟩], nx2⟩ ⟨[(0, I op), (7, .ref 0 s1 0 32), (8, ints (bitsN b.toNat 32)), (9, I q)], [⟨s1, 3, 1, (zL x a.toNat q).map I⟩], nx2⟩ := fun e he =>
      ⟨k + 1, by omega, by omega, Wk.mk he ⟨[], by rw [show (0 : Int) = ((0 : Nat) : Int) from rfl, hset]; simp⟩ (Nat.le_refl _)⟩
    have hsum : u + v = 0 ∨ (u + v = 1 ∧ op = 9) ∨ (u + v = 2 ∧ op = 11) := by omega
    rcases hsum with hc1 | ⟨hc1, hc2⟩ | ⟨hc1, hc2⟩
    · have q1 := eq_false (show ¬ (((u + v : Nat) : Int)) = 2 by omega)
      have q3 := eq_false (show ¬ (((u + v : Nat) : Int)) = 1 by omega)
      simp only [go_sem,Nat.reduceEqDiff,Nat.reduceAdd,Nat.reduceMul,↓reduceIte,↓dreduceIte,reduceCtorEq,Nat.reduceLeDiff,Nat.reduceLT,Nat.reduceSub,Int.reduceToNat,Int.reduceLE,Int.reduceLT, undef, h1', Int.toNat_natCast, g1, g2, hw, q1, q3, set_map, hzl, List.length_set, List.length_map, hbl]
      repeat (refine And.intro (by omega) ?_)
      rw [i64_in (by omega) (by omega)]
      exact fin _ (by simp [get_cons])
    · have q1 := eq_false (show ¬ (((u + v : Nat) : Int)) = 2 by omega)
      have q3 := eq_true (show (((u + v : Nat) : Int)) = 1 by omega)
      have q2 : (op != 9) = false := by simp [hc2]
      simp only [go_sem,Nat.reduceEqDiff,Nat.reduceAdd,Nat.reduceMul,↓reduceIte,↓dreduceIte,reduceCtorEq,Nat.reduceLeDiff,Nat.reduceLT,Nat.reduceSub,Int.reduceToNat,Int.reduceLE,Int.reduceLT, undef, h1', Int.toNat_natCast, g1, g2, hw, q1, q2, q3, set_map, hzl, List.length_set, List.length_map, hbl]
      repeat (refine And.intro (by omega) ?_)
      rw [i64_in (by omega) (by omega)]
      exact fin _ (by simp [get_cons])
    · have q1 := eq_true (show (((u + v : Nat) : Int)) = 2 by omega)
      have q3 := eq_false (show ¬ (((u + v : Nat) : Int)) = 1 by omega)
      have q2 : (op != 11) = false := by simp [hc2]
      simp only [go_sem,Nat.reduceEqDiff,Nat.reduceAdd,Nat.reduceMul,↓reduceIte,↓dreduceIte,reduceCtorEq,Nat.reduceLeDiff,Nat.reduceLT,Nat.reduceSub,Int.reduceToNat,Int.reduceLE,Int.reduceLT, undef, h1', Int.toNat_natCast, g1, g2, hw, q1, q2, q3, set_map, hzl, List.length_set, List.length_map, hbl]
      repeat (refine And.intro (by omega) ?_)
      rw [i64_in (by omega) (by omega)]
      exact fin _ (by simp [get_cons])
end Go.Proofs.Ytncjbipnkdlkoaa
namespace Go.Proofs.Ytncjbipnkdlkoaa
set_option linter.unusedSimpArgs false
set_option linter.unusedVariables false
set_option maxRecDepth 10000
open Go.V
theorem refapply_c (op a b : Int) (ha : In32 a) (hb : In32 b) : Contract Try.prog 64 [I op, U32 a, U32 b] (fun r => r = tup2 (applyW op a b)) := by
  refine Contract.of_call (VCall.of_body hmix f_scref01_Apply (by simp) ?_)
  have ha' := ha
  have hb' := hb
  obtain ⟨ha1, ha2⟩ := ha
  obtain ⟨hb1, hb2⟩ := hb
  have ea : IntKind.u64.wrap a = a := by rw [IntKind.wrap_u64]; omega
  have eb : IntKind.u64.wrap b = b := by rw [IntKind.wrap_u64]; omega
  have hop : op = 4 ∨ op = 5 ∨ op = 6 ∨ op = 7 ∨ op = 8 ∨ op = 9 ∨ op = 10 ∨ op = 11 ∨ op = 12 ∨ op = 13 ∨ op = 14 ∨ op = 15 ∨ (op ≠ 4 ∧ op ≠ 5 ∧ op ≠ 6 ∧ op ≠ 7 ∧ op ≠ 8 ∧ op ≠ 9 ∧ op ≠ 10 ∧ op ≠ 11 ∧ op ≠ 12 ∧ op ≠ 13 ∧ op ≠ 14 ∧ op ≠ 15) := by omega
  rcases hop with rfl | rfl | rfl | rfl | rfl | rfl | rfl | rfl | rfl | rfl | rfl | rfl | ⟨h1, h2, h3, h4, h5, h6, h7, h8, h9, h10, h11, h12⟩
  · simp only [go_sem,Nat.reduceEqDiff,Nat.reduceAdd,Nat.reduceMul,↓reduceIte,↓dreduceIte,reduceCtorEq,Nat.reduceLeDiff,Nat.reduceLT,Nat.reduceSub,Int.reduceToNat,Int.reduceLE,Int.reduceLT, c_scref01_Apply, Int.reduceEq, Int.reduceBEq, ea, eb]
    have e : IntKind.u32.wrap ((IntKind.u64.wrap (a + b)).tmod 4294967296) = w32 (a + b) := by
      rw [IntKind.wrap_u64, Int.tmod_eq_emod_of_nonneg (by omega), IntKind.wrap_u32, w32, IntKind.wrap_u32]; omega
    exact ⟨_, Frz.pure rfl, by rw [e]; rfl⟩
  · simp only [go_sem,Nat.reduceEqDiff,Nat.reduceAdd,Nat.reduceMul,↓reduceIte,↓dreduceIte,reduceCtorEq,Nat.reduceLeDiff,Nat.reduceLT,Nat.reduceSub,Int.reduceToNat,Int.reduceLE,Int.reduceLT, c_scref01_Apply, Int.reduceEq, Int.reduceBEq, ea, eb]
    have e : IntKind.u32.wrap ((IntKind.u64.wrap (IntKind.u64.wrap (a + 4294967296) - b)).tmod 4294967296) = w32 (a - b) := by
      rw [IntKind.wrap_u64, IntKind.wrap_u64, Int.tmod_eq_emod_of_nonneg (by omega), IntKind.wrap_u32, w32, IntKind.wrap_u32]; omega
    exact ⟨_, Frz.pure rfl, by rw [e]; rfl⟩
  · simp only [go_sem,Nat.reduceEqDiff,Nat.reduceAdd,Nat.reduceMul,↓reduceIte,↓dreduceIte,reduceCtorEq,Nat.reduceLeDiff,Nat.reduceLT,Nat.reduceSub,Int.reduceToNat,Int.reduceLE,Int.reduceLT, c_scref01_Apply, Int.reduceEq, Int.reduceBEq, ea, eb]
    have hp := Int.mul_nonneg ha1 hb1
    have e : ∀ p : Int, 0 ≤ p → IntKind.u32.wrap ((IntKind.u64.wrap p).tmod 4294967296) = w32 p := fun p hp => by
      rw [IntKind.wrap_u64, Int.tmod_eq_emod_of_nonneg (by omega), IntKind.wrap_u32, w32, IntKind.wrap_u32]; omega
    exact ⟨_, Frz.pure rfl, by rw [e _ hp]; rfl⟩
  · simp only [go_sem,Nat.reduceEqDiff,Nat.reduceAdd,Nat.reduceMul,↓reduceIte,↓dreduceIte,reduceCtorEq,Nat.reduceLeDiff,Nat.reduceLT,Nat.reduceSub,Int.reduceToNat,Int.reduceLE,Int.reduceLT, c_scref01_Apply, Int.reduceEq, Int.reduceBEq, ea, eb]
    refine ⟨fun h0 => ⟨_, Frz.pure rfl, ?_⟩, fun h0 => ⟨h0, _, Frz.pure rfl, ?_⟩⟩
    · show _ = tup2 (if b = 0 then (0, 14) else _); rw [if_pos h0]
    · show _ = tup2 (if b = 0 then (0, 14) else (IntKind.u32.wrap (a.tdiv b), 0))
      rw [if_neg h0, Int.tdiv_eq_ediv_of_nonneg ha1]
      have h1 : 0 ≤ a / b := Int.ediv_nonneg ha1 hb1
      have h2 : a / b ≤ a := Int.ediv_le_self _ ha1
      rw [IntKind.wrap_u64, show (a / b) % 18446744073709551616 = a / b by omega]
  · simp only [go_sem,Nat.reduceEqDiff,Nat.reduceAdd,Nat.reduceMul,↓reduceIte,↓dreduceIte,reduceCtorEq,Nat.reduceLeDiff,Nat.reduceLT,Nat.reduceSub,Int.reduceToNat,Int.reduceLE,Int.reduceLT, c_scref01_Apply, Int.reduceEq, Int.reduceBEq, ea, eb]
    refine ⟨fun h0 => ⟨_, Frz.pure rfl, ?_⟩, fun h0 => ⟨h0, _, Frz.pure rfl, ?_⟩⟩
    · show _ = tup2 (if b = 0 then (0, 14) else _); rw [if_pos h0]
    · show _ = tup2 (if b = 0 then (0, 14) else (a.tmod b, 0))
      rw [if_neg h0, Int.tmod_eq_emod_of_nonneg ha1]
      have h1 : 0 ≤ a % b := Int.emod_nonneg _ h0
      have h2 : a % b < b := Int.emod_lt_of_pos _ (by omega)
      rw [w32_in ⟨h1, by omega⟩]
  iterate 3
    · simp only [go_sem,Nat.reduceEqDiff,Nat.reduceAdd,Nat.reduceMul,↓reduceIte,↓dreduceIte,reduceCtorEq,Nat.reduceLeDiff,Nat.reduceLT,Nat.reduceSub,Int.reduceToNat,Int.reduceLE,Int.reduceLT, c_scref01_Apply, Int.reduceEq, Int.reduceBEq, ea, eb]
      refine VCall.of_contract (rboth_c _ a b (by simp) ha' hb') (SleL.pure rfl) fun x hx => ?_
      subst hx
      simp only [go_sem,Nat.reduceEqDiff,Nat.reduceAdd,Nat.reduceMul,↓reduceIte,↓dreduceIte,reduceCtorEq,Nat.reduceLeDiff,Nat.reduceLT,Nat.reduceSub,Int.reduceToNat,Int.reduceLE,Int.reduceLT]
      refine ⟨_, Frz.pure rfl, ?_⟩
      have := (both_bits (op := _) ha' hb' (by first | exact .inl rfl | exact .inr (.inl rfl) | exact .inr (.inr rfl))).1
      rfl
  · simp only [go_sem,Nat.reduceEqDiff,Nat.reduceAdd,Nat.reduceMul,↓reduceIte,↓dreduceIte,reduceCtorEq,Nat.reduceLeDiff,Nat.reduceLT,Nat.reduceSub,Int.reduceToNat,Int.reduceLE,Int.reduceLT, c_scref01_Apply, Int.reduceEq, Int.reduceBEq, ea, eb]
    refine VCall.of_contract (refshift_c _ a b ha' hb') (SleL.pure rfl) fun x hx => ?_
    subst hx
    simp only [go_sem,Nat.reduceEqDiff,Nat.reduceAdd,Nat.reduceMul,↓reduceIte,↓dreduceIte,reduceCtorEq,Nat.reduceLeDiff,Nat.reduceLT,Nat.reduceSub,Int.reduceToNat,Int.reduceLE,Int.reduceLT]
    have e : (if 31 < b then 0 else shN 12 a b.toNat) = if 31 < b then 0 else shlW a b := by
      by_cases h : 31 < b
      · rw [if_pos h, if_pos h]
      · rw [if_neg h, if_neg h]
        unfold shlW shN
        rw [if_pos rfl, show min b.toNat IntKind.u32.bits = b.toNat from Nat.min_eq_left (by show b.toNat ≤ 32; omega), w32, IntKind.wrap_u32]
        conv => rhs; rw [show a = ((a.toNat : Nat) : Int) by omega]
        simp
    exact ⟨_, Frz.pure rfl, by rw [e]; rfl⟩
  · simp only [go_sem,Nat.reduceEqDiff,Nat.reduceAdd,Nat.reduceMul,↓reduceIte,↓dreduceIte,reduceCtorEq,Nat.reduceLeDiff,Nat.reduceLT,Nat.reduceSub,Int.reduceToNat,Int.reduceLE,Int.reduceLT, c_scref01_Apply, Int.reduceEq, Int.reduceBEq, ea, eb]
    refine VCall.of_contract (refshift_c _ a b ha' hb') (SleL.pure rfl) fun x hx => ?_
    subst hx
    simp only [go_sem,Nat.reduceEqDiff,Nat.reduceAdd,Nat.reduceMul,↓reduceIte,↓dreduceIte,reduceCtorEq,Nat.reduceLeDiff,Nat.reduceLT,Nat.reduceSub,Int.reduceToNat,Int.reduceLE,Int.reduceLT]
    have e : (if 31 < b then 0 else shN 13 a b.toNat) = if 31 < b then 0 else shrW a b := by
      by_cases h : 31 < b
      · rw [if_pos h, if_pos h]
      · rw [if_neg h, if_neg h]
        unfold shN
        rw [if_neg (by decide)]
        have := shrW_eq ha' b.toNat (by omega)
        rw [show ((b.toNat : Nat) : Int) = b by omega] at this
        rw [this]
    exact ⟨_, Frz.pure rfl, by rw [e]; rfl⟩
  iterate 2
    · simp only [go_sem,Nat.reduceEqDiff,Nat.reduceAdd,Nat.reduceMul,↓reduceIte,↓dreduceIte,reduceCtorEq,Nat.reduceLeDiff,Nat.reduceLT,Nat.reduceSub,Int.reduceToNat,Int.reduceLE,Int.reduceLT, c_scref01_Apply, Int.reduceEq, Int.reduceBEq, ea, eb]
      refine VCall.of_contract (flag_c _) (SleL.pure rfl) fun x hx => ?_
      subst hx
      simp only [go_sem,Nat.reduceEqDiff,Nat.reduceAdd,Nat.reduceMul,↓reduceIte,↓dreduceIte,reduceCtorEq,Nat.reduceLeDiff,Nat.reduceLT,Nat.reduceSub,Int.reduceToNat,Int.reduceLE,Int.reduceLT]
      exact ⟨_, Frz.pure rfl, by simp [applyW, tup2]⟩
  · simp only [go_sem,Nat.reduceEqDiff,Nat.reduceAdd,Nat.reduceMul,↓reduceIte,↓dreduceIte,reduceCtorEq,Nat.reduceLeDiff,Nat.reduceLT,Nat.reduceSub,Int.reduceToNat,Int.reduceLE,Int.reduceLT, c_scref01_Apply, eq_false h1, eq_false h2, eq_false h3, eq_false h4, eq_false h5, eq_false h6, eq_false h7, eq_false h8, eq_false h9, eq_false h10, eq_false h11, eq_false h12]
    exact ⟨_, Frz.pure rfl, by simp [applyW, tup2, h1, h2, h3, h4, h5, h6, h7, h8, h9, h10, h11, h12]⟩
end Go.Proofs.Ytncjbipnkdlkoaa
namespace Go.Proofs.Ytncjbipnkdlkoaa
set_option linter.unusedSimpArgs false
set_option linter.unusedVariables false
set_option maxRecDepth 10000
open Go.V
section
variable {α : Type}
theorem plen4 (a b c d : α) (T : List α) : (a :: b :: c :: d :: T).length = T.length + 4 := rfl
theorem ponx (T : List α) (x : α) : (T ++ [x]).length = T.length + 1 := by simp
theorem pg0 (T : List α) (x : α) : (T ++ [x])[T.length]? = some x := by simp
theorem pg01 (T : List α) (x y : α) : (T ++ [x] ++ [y])[T.length]? = some x := by simp
theorem pg1 (T : List α) (x y : α) : (T ++ [x] ++ [y])[T.length + 1]? = some y := by simp
theorem ps0 (T : List α) (x y : α) : (T ++ [x]).set T.length y = T ++ [y] := by simp
theorem ps1 (T : List α) (x y z : α) : (T ++ [x] ++ [y]).set (T.length + 1) z = T ++ [x] ++ [z] := by
  rw [List.set_append_right _ _ (by simp)]; simp
end
theorem appK {T : List VObj} {k : Nat} {ob : VObj} (h : T[k]? = some ob) (x : VObj) : (T ++ [x])[k]? = some ob := by
  rw [List.getElem?_append_left (List.getElem?_eq_some_iff.1 h).1]; exact h
def POb (T : List VObj) (v : AV) (l : List UInt8) : Prop :=
  (v = nilv ∧ l = []) ∨ ∃ k s, v = .ref (k + 4) s 0 l.length ∧ T[k]? = some ⟨s, 5, 1, l.map U8⟩
def KpX (q : Nat) (T T' : List VObj) : Prop := ∀ (k : Nat) (ob : VObj), T[k]? = some ob → ob.ty ≠ 5 → k ≠ q → T'[k]? = some ob
def Kpb (T T' : List VObj) : Prop := ∀ (k : Nat) (ob : VObj), T[k]? = some ob → ob.ty ≠ 5 → T'[k]? = some ob
theorem Kpb.refl (T : List VObj) : Kpb T T := fun _ _ h _ => h
theorem Kpb.add {T : List VObj} (x : VObj) : Kpb T (T ++ [x]) := fun k ob h _ => appK h x
theorem Kpb.trans {T T' T'' : List VObj} (h : Kpb T T') (k : Kpb T' T'') : Kpb T T'' := fun i ob h1 h2 => k i ob (h i ob h1 h2) h2
theorem Kpb.x {T T' : List VObj} (h : Kpb T T') (q : Nat) : KpX q T T' := fun i ob h1 h2 _ => h i ob h1 h2
theorem KpX.trans {q : Nat} {T T' T'' : List VObj} (h : KpX q T T') (k : KpX q T' T'') : KpX q T T'' := fun i ob h1 h2 h3 => k i ob (h i ob h1 h2 h3) h2 h3
theorem KpX.put {T : List VObj} {q : Nat} (ob' : VObj) : KpX q T (T.set q ob') := fun i o h1 h2 h3 => by
  rw [List.getElem?_set, if_neg (fun e => h3 e.symm)]; exact h1
theorem Kpb.put {T : List VObj} {k : Nat} {ob ob' : VObj} (h : T[k]? = some ob) (ht : ob.ty = 5) : Kpb T (T.set k ob') := fun i o h1 h2 => by
  have hne : k ≠ i := fun e => by subst e; rw [h] at h1; cases h1; exact h2 ht
  rw [List.getElem?_set, if_neg hne]; exact h1
theorem POb.add {T : List VObj} {v : AV} {l : List UInt8} (h : POb T v l) (x : VObj) : POb (T ++ [x]) v l := by
  rcases h with h | ⟨k0, s, h1, h2⟩
  · exact .inl h
  · exact .inr ⟨k0, s, h1, appK h2 x⟩
theorem POb.put {T : List VObj} {v : AV} {l : List UInt8} (h : POb T v l) {q : Nat} {ob : VObj} (hq : T[q]? = some ob) (ht : ob.ty ≠ 5) (ob' : VObj) : POb (T.set q ob') v l := by
  rcases h with h | ⟨k0, s, h1, h2⟩
  · exact .inl h
  · refine .inr ⟨k0, s, h1, ?_⟩
    have hne : q ≠ k0 := fun e => by subst e; rw [h2] at hq; cases hq; exact ht rfl
    rw [List.getElem?_set, if_neg hne]; exact h2
theorem POb.one {T : List VObj} {v : AV} {l : List UInt8} (h : POb T v l) : v.one = true := by
  rcases h with ⟨h, _⟩ | ⟨_, _, h, _⟩ <;> rw [h] <;> rfl
theorem sR_sR (l : List Int) (i x y : Int) : sR (sR l i x) i y = sR l i y := by simp [sR]
abbrev fnsB (fs : List BF) : AV := .imm 2 (fs.map bfA)
abbrev hpB (o0 o1 : VObj) (sw sr : Nat) (words : Int) (fs : List BF) (inp : ByteArray) (fuel n : Nat) (vo : AV) (σ : Bst) (T : List VObj) : List VObj :=
  o0 :: o1 :: ⟨sw, 55, 1, σ.ws.map U32⟩ :: ⟨sr, 89, 1, [I words, fnsB fs, strv inp, I fuel, .ref 2 sw 0 n, vo, I σ.rd, I σ.st, I σ.en]⟩ :: T
section
variable (o0 o1 : VObj) (sw sr : Nat) (words : Int) (fs : List BF) (inp : ByteArray) (fuel n : Nat)
def FunV (k : Nat) : Prop := ∀ i < k, ∀ (σ : Bst), WfB inp fuel n σ → σ.en = 0 → ∀ (T : List VObj) (vo : AV) (nx : Nat) (C : AV → List VObj → Nat → Prop), POb T vo σ.out →
  (∀ T' vo' nx', Kpb T T' → POb T' vo' (funF fs inp fuel k i σ).out → C (.tup []) (hpB o0 o1 sw sr words fs inp fuel n vo' (funF fs inp fuel k i σ) T') nx') →
  VCall Try.prog 37 [.ptr 3 sr 0, I i] (hpB o0 o1 sw sr words fs inp fuel n vo σ T) nx C
theorem step_v (σ : Bst) (hf : fuel ≤ 1000000000) (T : List VObj) (vo : AV) (nx : Nat) (hu : vo.one = true) (C : AV → List VObj → Nat → Prop)
    (hC : C (B (decide (¬ fuel ≤ σ.st))) (hpB o0 o1 sw sr words fs inp fuel n vo (if fuel ≤ σ.st then { σ with en := 5 } else { σ with st := σ.st + 1 }) T) nx) :
    VCall Try.prog 57 [.ptr 3 sr 0] (hpB o0 o1 sw sr words fs inp fuel n vo σ T) nx C := by
  refine VCall.of_body hmix f_scref24_runner_step (by simp) ?_
  by_cases h : fuel ≤ σ.st
  · rw [if_pos h, decide_eq_false (by simp [h])] at hC
    simp only [go_sem,Nat.reduceEqDiff,Nat.reduceAdd,Nat.reduceMul,↓reduceIte,↓dreduceIte,reduceCtorEq,Nat.reduceLeDiff,Nat.reduceLT,Nat.reduceSub,Int.reduceToNat,Int.reduceLE,Int.reduceLT, c_scref24_runner_step, ↓plen4, one_ref, one_imm, hu, eq_true (show (fuel : Int) ≤ (σ.st : Int) by omega)]
    exact hC
  · rw [if_neg h, decide_eq_true h] at hC
    have e1 : IntKind.i64.wrap ((σ.st : Int) + 1) = ((σ.st + 1 : Nat) : Int) := by rw [i64_in (by omega) (by omega)]; omega
    simp only [go_sem,Nat.reduceEqDiff,Nat.reduceAdd,Nat.reduceMul,↓reduceIte,↓dreduceIte,reduceCtorEq,Nat.reduceLeDiff,Nat.reduceLT,Nat.reduceSub,Int.reduceToNat,Int.reduceLE,Int.reduceLT, c_scref24_runner_step, ↓plen4, one_ref, one_imm, hu, e1, eq_false (show ¬ (fuel : Int) ≤ (σ.st : Int) by omega)]
    exact hC
theorem one_v (k m : Nat) (hF : FunV o0 o1 sw sr words fs inp fuel n k) (hi : inp.size ≤ 1000000000) (hn : n ≤ 2000000) (t : Tac) (ht : FitsT t k m n) (htn : In32 t.n) (rg : List Int) (hr : WfR m rg) (σ : Bst) (hw : WfB inp fuel n σ) (h0 : σ.en = 0)
    (T : List VObj) (vo : AV) (q sq nx : Nat) (hq : T[q]? = some ⟨sq, 55, 1, rg.map U32⟩) (hu : POb T vo σ.out) (C : AV → List VObj → Nat → Prop)
    (hC : ∀ T' vo' nx', T'[q]? = some ⟨sq, 55, 1, (opF (funF fs inp fuel k) inp t rg σ).1.map U32⟩ → KpX q T T' → POb T' vo' (opF (funF fs inp fuel k) inp t rg σ).2.out →
      C (.tup []) (hpB o0 o1 sw sr words fs inp fuel n vo' (opF (funF fs inp fuel k) inp t rg σ).2 T') nx') :
    VCall Try.prog 58 [.ptr 3 sr 0, tacA t, .ref (q + 4) sq 0 m] (hpB o0 o1 sw sr words fs inp fuel n vo σ T) nx C := by
  refine VCall.of_body hmix f_scref24_runner_one (by simp) ?_
  obtain ⟨op, d, a, b, kk, base, size, nn⟩ := t
  obtain ⟨h1, h2, h3, h4, h5, h6, h7, h8⟩ := ht
  simp only at h1 h2 h3 h4 h5 h6 h7 htn
  obtain ⟨ws, out, rd, st, en⟩ := σ
  simp only at h0 hu
  subst h0
  have hq1 := fun x => appK hq x
  have hql := (List.getElem?_eq_some_iff.1 hq).1
  have hu1 := hu.one
  obtain ⟨q1, q2, q3, q4, q5⟩ := hw
  simp only at q1 q2 q3 q4 q5
  have hrl := hr.n
  -- what stays when the registers are set
  have regs : ∀ (x : VObj) (cs : List AV) (T' : List VObj), T' = (T ++ [x]).set q ⟨sq, 55, 1, cs⟩ → T'[q]? = some ⟨sq, 55, 1, cs⟩ ∧ KpX q T T' ∧ POb T' vo out := fun x cs T' e => by
    subst e
    refine ⟨?_, ((Kpb.add x).x q).trans (KpX.put _), (hu.add x).put (hq1 x) (by show 55 ≠ 5; decide) _⟩
    rw [List.getElem?_set, if_pos rfl, if_pos (by simp; omega)]
  have hqx : ∀ x y : VObj, ((T ++ [x]).set q y)[T.length]? = some x := fun x y => by rw [List.getElem?_set, if_neg (by omega)]; exact pg0 T x
  have hqy : ∀ x y : VObj, ((T ++ [x]).set q y)[q]? = some y := fun x y => by rw [List.getElem?_set, if_pos rfl, if_pos (by simp; omega)]
  have keep : ∀ (x : VObj), (T ++ [x])[q]? = some ⟨sq, 55, 1, rg.map U32⟩ ∧ KpX q T (T ++ [x]) ∧ POb (T ++ [x]) vo out := fun x => ⟨hq1 x, (Kpb.add x).x q, hu.add x⟩
  have hset : ∀ (l : List Int) (i v : Int), (l.map U32).set i.toNat (U32 v) = (sR l i v).map U32 := fun l i v => set_map U32 _ _ _
  have hop : op = 1 ∨ op = 2 ∨ op = 3 ∨ op = 4 ∨ op = 5 ∨ op = 6 ∨ op = 7 ∨ op = 8 ∨ op = 9 ∨ op = 10 := by omega
  rcases hop with rfl | rfl | rfl | rfl | rfl | rfl | rfl | rfl | rfl | rfl
  all_goals simp only [usesL, SetsT, restT, Int.reduceEq, or_false, or_true, false_or, true_or, or_self, if_true, if_false, List.mem_cons, List.not_mem_nil, forall_eq_or_imp, forall_eq, false_implies, implies_true, and_true] at h3 h4 h8
  · -- const
    simp only [go_sem,Nat.reduceEqDiff,Nat.reduceAdd,Nat.reduceMul,↓reduceIte,↓dreduceIte,reduceCtorEq,Nat.reduceLeDiff,Nat.reduceLT,Nat.reduceSub,Int.reduceToNat,Int.reduceLE,Int.reduceLT, c_scref24_runner_one, ↓plen4, ponx, pg0, ps0, one_ref, one_imm, cellT_U32, hq1, hset, hu1, Int.reduceEq, Int.reduceBEq]
    repeat ((with_reducible refine And.intro ?_ ?_); · first | omega | rfl)
    obtain ⟨r1, r2, r3⟩ := regs _ _ _ rfl
    exact hC _ _ _ r1 r2 r3
  · -- copy
    simp only [go_sem,Nat.reduceEqDiff,Nat.reduceAdd,Nat.reduceMul,↓reduceIte,↓dreduceIte,reduceCtorEq,Nat.reduceLeDiff,Nat.reduceLT,Nat.reduceSub,Int.reduceToNat,Int.reduceLE,Int.reduceLT, c_scref24_runner_one, ↓plen4, ponx, pg0, ps0, pg01, pg1, ps1, one_ref, one_imm, cellT_U32, hq1, hset, hu1, Int.reduceEq, Int.reduceBEq]
    repeat ((with_reducible refine And.intro ?_ ?_); · first | omega | rfl)
    obtain ⟨r1, r2, r3⟩ := regs _ _ _ rfl
    exact hC _ _ _ r1 r2 r3
  · -- op
    have ha := gR_in hr h4.1
    have hb := gR_in hr h4.2
    simp only [go_sem,Nat.reduceEqDiff,Nat.reduceAdd,Nat.reduceMul,↓reduceIte,↓dreduceIte,reduceCtorEq,Nat.reduceLeDiff,Nat.reduceLT,Nat.reduceSub,Int.reduceToNat,Int.reduceLE,Int.reduceLT, c_scref24_runner_one, ↓plen4, ponx, pg0, ps0, pg01, pg1, ps1, one_ref, one_imm, cellT_U32, hq1, hset, hu1, Int.reduceEq, Int.reduceBEq]
    repeat ((with_reducible refine And.intro ?_ ?_); · first | omega | rfl)
    refine ECall.of (refapply_c kk _ _ ha hb) (SleL.pure rfl) ⟨_, fun _ => Iff.rfl⟩ fun x hx => ?_
    subst hx
    by_cases h : (applyW kk (gR rg a) (gR rg b)).2 = 0
    · have hs : opF (funF fs inp fuel k) inp ⟨3, d, a, b, kk, base, size, nn⟩ rg ⟨ws, out, rd, st, 0⟩ = (sR rg d (applyW kk (gR rg a) (gR rg b)).1, ⟨ws, out, rd, st, 0⟩) := by
        show (if (applyW kk (gR rg a) (gR rg b)).2 = 0 then _ else _) = _
        rw [if_pos h]
      rw [hs] at hC
      simp only [go_sem,Nat.reduceEqDiff,Nat.reduceAdd,Nat.reduceMul,↓reduceIte,↓dreduceIte,reduceCtorEq,Nat.reduceLeDiff,Nat.reduceLT,Nat.reduceSub,Int.reduceToNat,Int.reduceLE,Int.reduceLT, ↓plen4, ponx, pg0, ps0, pg01, pg1, ps1, one_ref, one_imm, cellT_U32, hq1, hset, hu1, Int.reduceEq, Int.reduceBEq, h]
      repeat ((with_reducible refine And.intro ?_ ?_); · first | omega | rfl)
      obtain ⟨r1, r2, r3⟩ := regs _ _ _ rfl
      exact hC _ _ _ r1 r2 r3
    · have hs : opF (funF fs inp fuel k) inp ⟨3, d, a, b, kk, base, size, nn⟩ rg ⟨ws, out, rd, st, 0⟩ = (rg, ⟨ws, out, rd, st, 2⟩) := by
        show (if (applyW kk (gR rg a) (gR rg b)).2 = 0 then _ else _) = _
        rw [if_neg h]
      rw [hs] at hC
      simp only [go_sem,Nat.reduceEqDiff,Nat.reduceAdd,Nat.reduceMul,↓reduceIte,↓dreduceIte,reduceCtorEq,Nat.reduceLeDiff,Nat.reduceLT,Nat.reduceSub,Int.reduceToNat,Int.reduceLE,Int.reduceLT, ↓plen4, ponx, pg0, ps0, pg01, pg1, ps1, one_ref, one_imm, cellT_U32, hq1, hset, hu1, Int.reduceEq, Int.reduceBEq, eq_false h]
      repeat ((with_reducible refine And.intro ?_ ?_); · first | omega | rfl)
      obtain ⟨r1, r2, r3⟩ := keep _
      exact hC _ _ _ r1 r2 r3
  · -- load
    simp only [go_sem,Nat.reduceEqDiff,Nat.reduceAdd,Nat.reduceMul,↓reduceIte,↓dreduceIte,reduceCtorEq,Nat.reduceLeDiff,Nat.reduceLT,Nat.reduceSub,Int.reduceToNat,Int.reduceLE,Int.reduceLT, c_scref24_runner_one, ↓plen4, ponx, pg0, ps0, pg01, pg1, ps1, one_ref, one_imm, cellT_U32, hq1, hset, hu1, Int.reduceEq, Int.reduceBEq]
    repeat ((with_reducible refine And.intro ?_ ?_); · first | omega | rfl)
    obtain ⟨r1, r2, r3⟩ := regs _ _ _ rfl
    exact hC _ _ _ r1 r2 r3
  · -- store
    simp only [go_sem,Nat.reduceEqDiff,Nat.reduceAdd,Nat.reduceMul,↓reduceIte,↓dreduceIte,reduceCtorEq,Nat.reduceLeDiff,Nat.reduceLT,Nat.reduceSub,Int.reduceToNat,Int.reduceLE,Int.reduceLT, c_scref24_runner_one, ↓plen4, ponx, pg0, ps0, pg01, pg1, ps1, one_ref, one_imm, cellT_U32, hq1, hset, hu1, Int.reduceEq, Int.reduceBEq]
    repeat ((with_reducible refine And.intro ?_ ?_); · first | omega | rfl)
    obtain ⟨r1, r2, r3⟩ := keep _
    exact hC _ _ _ r1 r2 r3
  · -- aload
    have ha := gR_in hr h4
    have ha1 := ha.1
    have ha2 := ha.2
    have e1 : IntKind.u64.wrap (rg.getD a.toNat default) = gR rg a := by show IntKind.u64.wrap (gR rg a) = _; rw [IntKind.wrap_u64]; omega
    have e2 : IntKind.u64.wrap size = size := by rw [IntKind.wrap_u64]; omega
    have e3 : IntKind.i64.wrap (rg.getD a.toNat default) = gR rg a := i64_in (by show -9223372036854775808 ≤ gR rg a; omega) (by show gR rg a ≤ _; omega)
    by_cases h : gR rg a < size
    · have hs : opF (funF fs inp fuel k) inp ⟨6, d, a, b, kk, base, size, nn⟩ rg ⟨ws, out, rd, st, 0⟩ = (sR rg d (gR ws (base + gR rg a)), ⟨ws, out, rd, st, 0⟩) := by
        show (if gR rg a < size then _ else _) = _
        rw [if_pos h]
      rw [hs] at hC
      simp only [go_sem,Nat.reduceEqDiff,Nat.reduceAdd,Nat.reduceMul,↓reduceIte,↓dreduceIte,reduceCtorEq,Nat.reduceLeDiff,Nat.reduceLT,Nat.reduceSub,Int.reduceToNat,Int.reduceLE,Int.reduceLT, c_scref24_runner_one, ↓plen4, ponx, pg0, ps0, pg01, pg1, ps1, one_ref, one_imm, cellT_U32, hq1, hset, hu1, Int.reduceEq, Int.reduceBEq, e1, e2, e3, i64_in (show -9223372036854775808 ≤ base + gR rg a by omega) (show base + gR rg a ≤ 9223372036854775807 by omega), eq_false (show ¬ size ≤ gR rg a by omega)]
      repeat ((with_reducible refine And.intro ?_ ?_); · first | omega | rfl)
      obtain ⟨r1, r2, r3⟩ := regs _ _ _ rfl
      exact hC _ _ _ r1 r2 r3
    · have hs : opF (funF fs inp fuel k) inp ⟨6, d, a, b, kk, base, size, nn⟩ rg ⟨ws, out, rd, st, 0⟩ = (rg, ⟨ws, out, rd, st, 3⟩) := by
        show (if gR rg a < size then _ else _) = _
        rw [if_neg h]
      rw [hs] at hC
      simp only [go_sem,Nat.reduceEqDiff,Nat.reduceAdd,Nat.reduceMul,↓reduceIte,↓dreduceIte,reduceCtorEq,Nat.reduceLeDiff,Nat.reduceLT,Nat.reduceSub,Int.reduceToNat,Int.reduceLE,Int.reduceLT, c_scref24_runner_one, ↓plen4, ponx, pg0, ps0, pg01, pg1, ps1, one_ref, one_imm, cellT_U32, hq1, hset, hu1, Int.reduceEq, Int.reduceBEq, e1, e2, eq_true (show size ≤ gR rg a by omega)]
      repeat ((with_reducible refine And.intro ?_ ?_); · first | omega | rfl)
      obtain ⟨r1, r2, r3⟩ := keep _
      exact hC _ _ _ r1 r2 r3
  · -- astore
    have ha := gR_in hr h4.1
    have ha1 := ha.1
    have ha2 := ha.2
    have e1 : IntKind.u64.wrap (rg.getD a.toNat default) = gR rg a := by show IntKind.u64.wrap (gR rg a) = _; rw [IntKind.wrap_u64]; omega
    have e2 : IntKind.u64.wrap size = size := by rw [IntKind.wrap_u64]; omega
    have e3 : IntKind.i64.wrap (rg.getD a.toNat default) = gR rg a := i64_in (by show -9223372036854775808 ≤ gR rg a; omega) (by show gR rg a ≤ _; omega)
    by_cases h : gR rg a < size
    · have hs : opF (funF fs inp fuel k) inp ⟨7, d, a, b, kk, base, size, nn⟩ rg ⟨ws, out, rd, st, 0⟩ = (rg, ⟨sR ws (base + gR rg a) (gR rg b), out, rd, st, 0⟩) := by
        show (if gR rg a < size then _ else _) = _
        rw [if_pos h]
      rw [hs] at hC
      simp only [go_sem,Nat.reduceEqDiff,Nat.reduceAdd,Nat.reduceMul,↓reduceIte,↓dreduceIte,reduceCtorEq,Nat.reduceLeDiff,Nat.reduceLT,Nat.reduceSub,Int.reduceToNat,Int.reduceLE,Int.reduceLT, c_scref24_runner_one, ↓plen4, ponx, pg0, ps0, pg01, pg1, ps1, one_ref, one_imm, cellT_U32, hq1, hset, hu1, Int.reduceEq, Int.reduceBEq, e1, e2, e3, i64_in (show -9223372036854775808 ≤ base + gR rg a by omega) (show base + gR rg a ≤ 9223372036854775807 by omega), eq_false (show ¬ size ≤ gR rg a by omega)]
      repeat ((with_reducible refine And.intro ?_ ?_); · first | omega | rfl)
      obtain ⟨r1, r2, r3⟩ := keep _
      exact hC _ _ _ r1 r2 r3
    · have hs : opF (funF fs inp fuel k) inp ⟨7, d, a, b, kk, base, size, nn⟩ rg ⟨ws, out, rd, st, 0⟩ = (rg, ⟨ws, out, rd, st, 3⟩) := by
        show (if gR rg a < size then _ else _) = _
        rw [if_neg h]
      rw [hs] at hC
      simp only [go_sem,Nat.reduceEqDiff,Nat.reduceAdd,Nat.reduceMul,↓reduceIte,↓dreduceIte,reduceCtorEq,Nat.reduceLeDiff,Nat.reduceLT,Nat.reduceSub,Int.reduceToNat,Int.reduceLE,Int.reduceLT, c_scref24_runner_one, ↓plen4, ponx, pg0, ps0, pg01, pg1, ps1, one_ref, one_imm, cellT_U32, hq1, hset, hu1, Int.reduceEq, Int.reduceBEq, e1, e2, eq_true (show size ≤ gR rg a by omega)]
      repeat ((with_reducible refine And.intro ?_ ?_); · first | omega | rfl)
      obtain ⟨r1, r2, r3⟩ := keep _
      exact hC _ _ _ r1 r2 r3
  · -- get
    have e1 : IntKind.i64.wrap ((rd : Int) + 1) = ((rd + 1 : Nat) : Int) := by rw [i64_in (by omega) (by omega)]; omega
    have hb : IntKind.u32.wrap (byteAt inp rd) = byteAt inp rd := w32_in (byteAt_32 _ _).1
    by_cases h : rd < inp.size
    · have hs : opF (funF fs inp fuel k) inp ⟨8, d, a, b, kk, base, size, nn⟩ rg ⟨ws, out, rd, st, 0⟩ = (sR rg d (byteAt inp rd), ⟨ws, out, rd + 1, st, 0⟩) := by
        show (if rd < inp.size then _ else _) = _
        rw [if_pos h]
      rw [hs] at hC
      simp only [go_sem,Nat.reduceEqDiff,Nat.reduceAdd,Nat.reduceMul,↓reduceIte,↓dreduceIte,reduceCtorEq,Nat.reduceLeDiff,Nat.reduceLT,Nat.reduceSub,Int.reduceToNat,Int.reduceLE,Int.reduceLT, c_scref24_runner_one, ↓plen4, ponx, pg0, ps0, pg01, pg1, ps1, one_ref, one_imm, cellT_U32, hq1, hqx, hqy, List.set_set, hset, sR_sR, sR_len, hu1, Int.reduceEq, Int.reduceBEq, e1, hb, eq_true (show (rd : Int) < (inp.size : Int) by omega)]
      repeat ((with_reducible refine And.intro ?_ ?_); · first | omega | rfl)
      exact hC _ _ _ (hqy _ _) (((Kpb.add _).x q).trans (KpX.put _)) ((hu.add _).put (hq1 _) (by show 55 ≠ 5; decide) _)
    · have hs : opF (funF fs inp fuel k) inp ⟨8, d, a, b, kk, base, size, nn⟩ rg ⟨ws, out, rd, st, 0⟩ = (sR rg d 256, ⟨ws, out, rd, st, 0⟩) := by
        show (if rd < inp.size then _ else _) = _
        rw [if_neg h]
      rw [hs] at hC
      simp only [go_sem,Nat.reduceEqDiff,Nat.reduceAdd,Nat.reduceMul,↓reduceIte,↓dreduceIte,reduceCtorEq,Nat.reduceLeDiff,Nat.reduceLT,Nat.reduceSub,Int.reduceToNat,Int.reduceLE,Int.reduceLT, c_scref24_runner_one, ↓plen4, ponx, pg0, ps0, pg01, pg1, ps1, one_ref, one_imm, cellT_U32, hq1, hset, hu1, Int.reduceEq, Int.reduceBEq, eq_false (show ¬ (rd : Int) < (inp.size : Int) by omega)]
      repeat ((with_reducible refine And.intro ?_ ?_); · first | omega | rfl)
      obtain ⟨r1, r2, r3⟩ := regs _ _ _ rfl
      exact hC _ _ _ r1 r2 r3
  · -- put
    have hU8 : (AV.val (.int .u8 (IntKind.u8.wrap (rg.getD a.toNat default)))) = U8 (byteB (gR rg a)) := by
      show AV.val (.int .u8 (IntKind.u8.wrap (gR rg a))) = AV.val (.int .u8 ((byteB (gR rg a)).toNat : Nat))
      rw [byteB_eq]
    by_cases h : 65536 ≤ out.length
    · have hs : opF (funF fs inp fuel k) inp ⟨9, d, a, b, kk, base, size, nn⟩ rg ⟨ws, out, rd, st, 0⟩ = (rg, ⟨ws, out, rd, st, 4⟩) := by
        show (if 65536 ≤ out.length then _ else _) = _
        rw [if_pos h]
      rw [hs] at hC
      rcases hu with ⟨rfl, rfl⟩ | ⟨k0, so, rfl, hT⟩
      · simp at h
      have hT2 : ∀ x : VObj, (T ++ [x])[k0]? = some ⟨so, 5, 1, out.map U8⟩ := fun x => appK hT x
      simp only [go_sem,Nat.reduceEqDiff,Nat.reduceAdd,Nat.reduceMul,↓reduceIte,↓dreduceIte,reduceCtorEq,Nat.reduceLeDiff,Nat.reduceLT,Nat.reduceSub,Int.reduceToNat,Int.reduceLE,Int.reduceLT, c_scref24_runner_one, ↓plen4, ponx, pg0, ps0, pg01, pg1, ps1, one_ref, one_imm, cellT_U32, hq1, hset, hu1, Int.reduceEq, Int.reduceBEq, hT2, eq_true (show (65536 : Int) ≤ (out.length : Int) by omega)]
      repeat ((with_reducible refine And.intro ?_ ?_); · first | omega | rfl)
      exact hC _ _ _ (hq1 _) ((Kpb.add _).x q) (POb.add (.inr ⟨k0, so, rfl, hT⟩) _)
    · have hs : opF (funF fs inp fuel k) inp ⟨9, d, a, b, kk, base, size, nn⟩ rg ⟨ws, out, rd, st, 0⟩ = (rg, ⟨ws, out ++ [byteB (gR rg a)], rd, st, 0⟩) := by
        show (if 65536 ≤ out.length then _ else _) = _
        rw [if_neg h]
      rw [hs] at hC
      have hmx : (2000000 : Nat) ≤ maxLen := by decide
      rcases hu with ⟨rfl, rfl⟩ | ⟨k0, so, rfl, hT⟩
      · simp only [go_sem,Nat.reduceEqDiff,Nat.reduceAdd,Nat.reduceMul,↓reduceIte,↓dreduceIte,reduceCtorEq,Nat.reduceLeDiff,Nat.reduceLT,Nat.reduceSub,Int.reduceToNat,Int.reduceLE,Int.reduceLT, c_scref24_runner_one, ↓plen4, ponx, pg0, ps0, pg01, pg1, ps1, one_ref, one_imm, cellT_U32, hq1, hset, hu1, Int.reduceEq, Int.reduceBEq, hU8]
        repeat ((with_reducible refine And.intro ?_ ?_); · first | omega | rfl)
        refine hC _ _ _ (appK (appK (hq1 _) _) _) ((((Kpb.add _).trans (Kpb.add _)).trans (Kpb.add _)).x q) (.inr ⟨T.length + 1 + 1, nx + 1 + 1, rfl, ?_⟩)
        have : ∀ x y z : VObj, (T ++ [x] ++ [y] ++ [z])[T.length + 1 + 1]? = some z := fun x y z => by
          rw [List.getElem?_append_right (by simp)]; simp
        rw [this]; rfl
      · have hk := (List.getElem?_eq_some_iff.1 hT).1
        have hT2 : ∀ x : VObj, (T ++ [x])[k0]? = some ⟨so, 5, 1, out.map U8⟩ := fun x => appK hT x
        have hT3 : ∀ x y : VObj, (T ++ [x] ++ [y])[k0]? = some ⟨so, 5, 1, out.map U8⟩ := fun x y => appK (appK hT x) y
        simp only [go_sem,Nat.reduceEqDiff,Nat.reduceAdd,Nat.reduceMul,↓reduceIte,↓dreduceIte,reduceCtorEq,Nat.reduceLeDiff,Nat.reduceLT,Nat.reduceSub,Int.reduceToNat,Int.reduceLE,Int.reduceLT, c_scref24_runner_one, ↓plen4, ponx, pg0, ps0, pg01, pg1, ps1, one_ref, one_imm, cellT_U32, hq1, hset, hu1, Int.reduceEq, Int.reduceBEq, hU8, hT2, hT3, eq_false (show ¬ (65536 : Int) ≤ (out.length : Int) by omega)]
        repeat ((with_reducible refine And.intro ?_ ?_); · first | omega | rfl)
        have hne : k0 ≠ q := fun e => by subst e; rw [hT] at hq; cases hq
        refine hC _ _ _ ?_ ((((Kpb.add _).trans (Kpb.add _)).trans (Kpb.put (hT3 _ _) rfl)).x q) (.inr ⟨k0, nx + 1 + 1, by simp, ?_⟩)
        · rw [List.getElem?_set, if_neg hne]; exact appK (hq1 _) _
        · rw [List.getElem?_set, if_pos rfl, if_pos (by simp; omega), List.take_of_length_le (by simp)]
          simp
  · -- call
    obtain ⟨j, rfl⟩ : ∃ j : Nat, base = j := ⟨base.toNat, by omega⟩
    simp only [go_sem,Nat.reduceEqDiff,Nat.reduceAdd,Nat.reduceMul,↓reduceIte,↓dreduceIte,reduceCtorEq,Nat.reduceLeDiff,Nat.reduceLT,Nat.reduceSub,Int.reduceToNat,Int.reduceLE,Int.reduceLT, c_scref24_runner_one, ↓plen4, ponx, pg0, ps0, pg01, pg1, ps1, one_ref, one_imm, cellT_U32, hq1, hset, hu1, Int.reduceEq, Int.reduceBEq]
    repeat ((with_reducible refine And.intro ?_ ?_); · first | omega | rfl)
    refine hF j (by omega) ⟨ws, out, rd, st, 0⟩ ⟨q1, q2, q3, q4, q5⟩ rfl _ vo _ _ (hu.add _) fun T' vo' nx' g1 g2 => ?_
    simp only [go_sem,Nat.reduceEqDiff,Nat.reduceAdd,Nat.reduceMul,↓reduceIte,↓dreduceIte,reduceCtorEq,Nat.reduceLeDiff,Nat.reduceLT,Nat.reduceSub,Int.reduceToNat,Int.reduceLE,Int.reduceLT, ↓plen4, ponx, pg0, ps0, pg01, pg1, ps1, one_ref, one_imm, cellT_U32, hq1, hset, hu1, Int.reduceEq, Int.reduceBEq]
    exact hC _ _ _ (g1 _ _ (hq1 _) (by show 55 ≠ 5; decide)) (((Kpb.add _).trans g1).x q) g2
end
end Go.Proofs.Ytncjbipnkdlkoaa
namespace Go.Proofs.Ytncjbipnkdlkoaa
set_option linter.unusedSimpArgs false
set_option linter.unusedVariables false
set_option maxRecDepth 10000
open Go.V
structure QI where
  j : Nat
  rg : List Int
  σ : Bst
  T : List VObj
  vo : AV
  nx : Nat
structure QB where
  g : Nat
  i : Nat
  rg : List Int
  σ : Bst
  T : List VObj
  vo : AV
  nx : Nat
section
variable (o0 o1 : VObj) (sw sr : Nat) (words : Int) (fs : List BF) (inp : ByteArray) (fuel n : Nat)
theorem fun_v (hfu : fuel ≤ 1000000000) (hin : inp.size ≤ 1000000000) (hn : n ≤ 2000000) (hfs : FnsOk fs n) : ∀ k, k ≤ fs.length → FunV o0 o1 sw sr words fs inp fuel n k
  | 0, _ => fun i hi => absurd hi (Nat.not_lt_zero i)
  | k + 1, hk => by
    have hF := fun_v hfu hin hn hfs k (by omega)
    have hcp := funF_wf (inp := inp) (fuel := fuel) hfs k (by omega)
    intro i hi σ hw h0 T vo nx C hu hC
    have hil : i < fs.length := by omega
    obtain ⟨f, hf⟩ : ∃ f, fs.getD i default = f := ⟨_, rfl⟩
    have ho := one_parts (hfs.one i hil)
    have hfit := hfs.fit hil (show i ≤ k by omega)
    have hlen := hfs.len _ (mem_getD hil)
    obtain ⟨R, hR⟩ : ∃ R, funF fs inp fuel (k + 1) i σ = R := ⟨_, rfl⟩
    rw [hR] at hC
    unfold funF at hR
    rw [hf] at ho hfit hlen hR
    obtain ⟨r0, r1, r2, hE⟩ := ho
    have hrr : ((f.regs.toNat : Nat) : Int) = f.regs := by omega
    obtain ⟨call, hcall⟩ : ∃ call, funF fs inp fuel k = call := ⟨_, rfl⟩
    rw [hcall] at hR hcp
    have hmx : (2000000 : Nat) ≤ maxLen := by decide
    have hpos := List.length_pos_iff.2 r2
    have hu1 := hu.one
    have hz : (List.replicate f.regs.toNat [AV.val (.int .u32 0)]).flatten = (List.replicate f.regs.toNat (0 : Int)).map U32 := by rw [flat_rep]; simp
    refine VCall.of_body hmix f_scref24_runner_fun (by simp) ?_
    simp only [go_sem,Nat.reduceEqDiff,Nat.reduceAdd,Nat.reduceMul,↓reduceIte,↓dreduceIte,reduceCtorEq,Nat.reduceLeDiff,Nat.reduceLT,Nat.reduceSub,Int.reduceToNat,Int.reduceLE,Int.reduceLT, c_scref24_runner_fun, ↓plen4, ponx, pg0, ps0, one_ref, one_imm, hu1, hf, hz]
    repeat ((with_reducible refine And.intro ?_ ?_); · first | omega | rfl)
    refine VW_loop (fun q : QB => ⟨[(0, .ptr 3 sr 0), (4, .ptr (T.length + 4) nx 0), (5, .ref (T.length + 1 + 4) (nx + 1) 0 f.regs.toNat), (6, I q.i)], hpB o0 o1 sw sr words fs inp fuel n q.vo q.σ q.T, q.nx⟩)
      (fun q => q.i < f.bks.length ∧ WfR f.regs.toNat q.rg ∧ WfB inp fuel n q.σ ∧ q.σ.en = 0 ∧ fuel < q.g + q.σ.st ∧ Kpb T q.T ∧ q.T[T.length]? = some ⟨nx, 24, 1, bfL f⟩ ∧ q.T[T.length + 1]? = some ⟨nx + 1, 55, 1, q.rg.map U32⟩ ∧ POb q.T q.vo q.σ.out ∧
        blkF call inp fuel f q.g q.i q.rg q.σ = R) (fun q => q.g)
      ⟨fuel + 1, 0, List.replicate f.regs.toNat 0, σ, T ++ [⟨nx, 24, 1, bfL f⟩] ++ [⟨nx + 1, 55, 1, (List.replicate f.regs.toNat (0 : Int)).map U32⟩], vo, nx + 2⟩ ?_ ?_ ?_
    · exact Wk.mk (by simp [get_cons]) ⟨[], by simp⟩ (Nat.le_refl _)
    · exact ⟨hpos, rep_wf _, hw, h0, by show fuel < fuel + 1 + σ.st; omega, (Kpb.add _).trans (Kpb.add _), pg01 _ _ _, pg1 _ _ _, (hu.add _).add _, hR⟩
    rintro ⟨g, a, rg, σ, T1, vo1, nx1⟩ ⟨p1, p2, p3, p4, p5, p6, p7, p8, p9, p11⟩
    simp only at p1 p2 p3 p4 p5 p6 p7 p8 p9 p11
    have hfin : ∀ (σ' : Bst) (T' : List VObj) (vo' : AV) (nx' : Nat), σ' = R → Kpb T T' → POb T' vo' σ'.out → C (.tup []) (hpB o0 o1 sw sr words fs inp fuel n vo' σ' T') nx' := fun σ' T' vo' nx' e h1 h2 => by
      subst e; exact hC _ _ _ h1 h2
    obtain ⟨g, rfl⟩ : ∃ g', g = g' + 1 := by
      cases g with
      | zero => have := p3.s; omega
      | succ g => exact ⟨g, rfl⟩
    obtain ⟨bk, hbk⟩ : ∃ bk, f.bks.getD a default = bk := ⟨_, rfl⟩
    have hmb : f.bks.getD a default ∈ f.bks := mem_getD p1
    rw [hbk] at hmb
    have hfb := hfit _ hmb
    have hlb := hlen _ hmb
    have hEb := (hE _ hmb).1
    unfold blkF at p11
    rw [hbk] at p11
    obtain ⟨r, hr⟩ : ∃ r, insF call inp fuel bk.ins rg σ = r := ⟨_, rfl⟩
    rw [hr] at p11
    have hu1 := p9.one
    simp only [go_sem,Nat.reduceEqDiff,Nat.reduceAdd,Nat.reduceMul,↓reduceIte,↓dreduceIte,reduceCtorEq,Nat.reduceLeDiff,Nat.reduceLT,Nat.reduceSub,Int.reduceToNat,Int.reduceLE,Int.reduceLT, ↓plen4, ponx, pg0, ps0, one_ref, one_imm, hu1, p4, appK p7, p7, hbk]
    repeat ((with_reducible refine And.intro ?_ ?_); · first | omega | rfl)
    refine VW_loop (fun q : QI => ⟨[(0, .ptr 3 sr 0), (4, .ptr (T.length + 4) nx 0), (5, .ref (T.length + 1 + 4) (nx + 1) 0 f.regs.toNat), (7, .ptr (T1.length + 4) nx1 0), (8, I q.j)], hpB o0 o1 sw sr words fs inp fuel n q.vo q.σ q.T, q.nx⟩)
      (fun q => q.j ≤ bk.ins.length ∧ WfR f.regs.toNat q.rg ∧ WfB inp fuel n q.σ ∧ q.σ.en = 0 ∧ σ.st ≤ q.σ.st ∧ Kpb T q.T ∧ q.T[T.length]? = some ⟨nx, 24, 1, bfL f⟩ ∧ q.T[T.length + 1]? = some ⟨nx + 1, 55, 1, q.rg.map U32⟩ ∧
        q.T[T1.length]? = some ⟨nx1, 60, 1, bkL bk⟩ ∧ POb q.T q.vo q.σ.out ∧ insF call inp fuel (bk.ins.drop q.j) q.rg q.σ = r) (fun q => bk.ins.length - q.j)
      ⟨0, rg, σ, T1 ++ [⟨nx1, 60, 1, bkL bk⟩], vo1, nx1 + 1⟩ ?_ ?_ ?_
    · exact Wk.mk (by simp [get_cons]) ⟨[], by simp [p4]⟩ (Nat.le_refl _)
    · exact ⟨Nat.zero_le _, p2, p3, p4, Nat.le_refl _, p6.trans (Kpb.add _), appK p7 _, appK p8 _, pg0 _ _, p9.add _, hr⟩
    rintro ⟨j, rg2, σ2, T2, vo2, nx2⟩ ⟨s1, s2, s3, s4, s5, s6, s7, s8, s9, s10, s12⟩
    simp only at s1 s2 s3 s4 s5 s6 s7 s8 s9 s10 s12
    have hu2 := s10.one
    have hl2 := s2.n
    by_cases hjl : j < bk.ins.length
    · have hmt := mem_getD hjl
      obtain ⟨ft1, ft2⟩ := hfb _ hmt
      have hdr : bk.ins.drop j = bk.ins.getD j default :: bk.ins.drop (j + 1) := by
        rw [List.drop_eq_getElem_cons hjl]
        simp [List.getD, List.getElem?_eq_getElem hjl]
      rw [hdr, insF_cons] at s12
      obtain ⟨t, ht⟩ : ∃ t, bk.ins.getD j default = t := ⟨_, rfl⟩
      rw [ht] at ft1 ft2 s12
      simp only [go_sem,Nat.reduceEqDiff,Nat.reduceAdd,Nat.reduceMul,↓reduceIte,↓dreduceIte,reduceCtorEq,Nat.reduceLeDiff,Nat.reduceLT,Nat.reduceSub,Int.reduceToNat,Int.reduceLE,Int.reduceLT, ↓plen4, ponx, pg0, ps0, one_ref, one_imm, cellT_U32, hu2, s9, List.length_map, eq_true (show (j : Int) < bk.ins.length by omega)]
      refine step_v o0 o1 sw sr words fs inp fuel n σ2 hfu T2 vo2 nx2 hu2 _ ?_
      by_cases h1 : fuel ≤ σ2.st
      · rw [if_pos h1] at s12
        rw [if_pos h1, decide_eq_false (by simp [h1])]
        simp only [go_sem,Nat.reduceEqDiff,Nat.reduceAdd,Nat.reduceMul,↓reduceIte,↓dreduceIte,reduceCtorEq,Nat.reduceLeDiff,Nat.reduceLT,Nat.reduceSub,Int.reduceToNat,Int.reduceLE,Int.reduceLT, ↓plen4, ponx, pg0, ps0, one_ref, one_imm, cellT_U32, hu2]
        subst s12
        rw [if_neg (show ¬ ((rg2, ({ σ2 with en := 5 } : Bst)).2.en = 0) by simp)] at p11
        exact hfin _ _ _ _ p11 s6 s10
      rw [if_neg h1] at s12
      rw [if_neg h1, decide_eq_true h1]
      simp only [go_sem,Nat.reduceEqDiff,Nat.reduceAdd,Nat.reduceMul,↓reduceIte,↓dreduceIte,reduceCtorEq,Nat.reduceLeDiff,Nat.reduceLT,Nat.reduceSub,Int.reduceToNat,Int.reduceLE,Int.reduceLT, ↓plen4, ponx, pg0, ps0, one_ref, one_imm, cellT_U32, hu2, s9, List.length_map, ht]
      repeat ((with_reducible refine And.intro ?_ ?_); · first | omega | rfl)
      have w2 : WfB inp fuel n { σ2 with st := σ2.st + 1 } := ⟨s3.n, s3.w, s3.o, s3.r, by show σ2.st + 1 ≤ fuel; omega⟩
      have hop := opF_wf hcp (by rw [hrr]; exact ft1) ft2 s2 w2 s4
      refine one_v o0 o1 sw sr words fs inp fuel n k f.regs.toNat hF hin hn t (by rw [hrr]; exact ft1) ft2 rg2 s2 { σ2 with st := σ2.st + 1 } w2 s4 T2 vo2 (T.length + 1) (nx + 1) nx2 s8 s10 _ fun T3 vo3 nx3 g1 g2 g3 => ?_
      rw [hcall] at g1 g3 ⊢
      obtain ⟨o1', o2', o3'⟩ := hop
      replace o3' : σ2.st + 1 ≤ _ := o3'
      generalize opF call inp t rg2 { σ2 with st := σ2.st + 1 } = p at *
      have hu3 := g3.one
      have kT : Kpb T T3 := fun i ob h1 h2 => g2 i ob (s6 i ob h1 h2) h2 (by have := (List.getElem?_eq_some_iff.1 h1).1; omega)
      by_cases h2 : p.2.en = 0
      · rw [if_pos h2] at s12
        simp only [go_sem,Nat.reduceEqDiff,Nat.reduceAdd,Nat.reduceMul,↓reduceIte,↓dreduceIte,reduceCtorEq,Nat.reduceLeDiff,Nat.reduceLT,Nat.reduceSub,Int.reduceToNat,Int.reduceLE,Int.reduceLT, ↓plen4, ponx, pg0, ps0, one_ref, one_imm, cellT_U32, hu3, h2]
        rw [i64_in (by omega) (by omega)]
        have n1 : T.length ≠ T.length + 1 := by omega
        have n2 : T1.length ≠ T.length + 1 := by
          have := (List.getElem?_eq_some_iff.1 p8).1; omega
        refine ⟨⟨j + 1, p.1, p.2, T3, vo3, nx3⟩, ⟨by simp only; omega, o1', o2', h2, by simp only; omega, kT, g2 _ _ s7 (by show 24 ≠ 5; decide) n1, g1, g2 _ _ s9 (by show 60 ≠ 5; decide) n2, g3, s12⟩, by simp only; omega, Wk.mk (by simp [get_cons]) ⟨[], by simp [h2]⟩ (Nat.le_refl _)⟩
      · rw [if_neg h2] at s12
        simp only [go_sem,Nat.reduceEqDiff,Nat.reduceAdd,Nat.reduceMul,↓reduceIte,↓dreduceIte,reduceCtorEq,Nat.reduceLeDiff,Nat.reduceLT,Nat.reduceSub,Int.reduceToNat,Int.reduceLE,Int.reduceLT, ↓plen4, ponx, pg0, ps0, one_ref, one_imm, cellT_U32, hu3, eq_false h2]
        subst s12
        rw [if_neg h2] at p11
        exact hfin _ _ _ _ p11 kT g3
    · obtain rfl : j = bk.ins.length := by omega
      have hnil : bk.ins.drop bk.ins.length = [] := List.drop_eq_nil_of_le (Nat.le_refl _)
      rw [hnil] at s12
      subst s12
      rw [show insF call inp fuel [] rg2 σ2 = (rg2, σ2) from rfl] at p11
      rw [if_pos s4] at p11
      simp only [go_sem,Nat.reduceEqDiff,Nat.reduceAdd,Nat.reduceMul,↓reduceIte,↓dreduceIte,reduceCtorEq,Nat.reduceLeDiff,Nat.reduceLT,Nat.reduceSub,Int.reduceToNat,Int.reduceLE,Int.reduceLT, ↓plen4, ponx, pg0, ps0, one_ref, one_imm, cellT_U32, hu2, s9, List.length_map, eq_false (show ¬ (bk.ins.length : Int) < (bk.ins.length : Int) by omega)]
      refine step_v o0 o1 sw sr words fs inp fuel n σ2 hfu T2 vo2 nx2 hu2 _ ?_
      by_cases h1 : fuel ≤ σ2.st
      · rw [if_pos h1] at p11
        rw [if_pos h1, decide_eq_false (by simp [h1])]
        simp only [go_sem,Nat.reduceEqDiff,Nat.reduceAdd,Nat.reduceMul,↓reduceIte,↓dreduceIte,reduceCtorEq,Nat.reduceLeDiff,Nat.reduceLT,Nat.reduceSub,Int.reduceToNat,Int.reduceLE,Int.reduceLT, ↓plen4, ponx, pg0, ps0, one_ref, one_imm, cellT_U32, hu2]
        exact hfin _ _ _ _ p11 s6 s10
      rw [if_neg h1] at p11
      rw [if_neg h1, decide_eq_true h1]
      by_cases h2 : bk.e = 3
      · rw [if_pos h2] at p11
        simp only [go_sem,Nat.reduceEqDiff,Nat.reduceAdd,Nat.reduceMul,↓reduceIte,↓dreduceIte,reduceCtorEq,Nat.reduceLeDiff,Nat.reduceLT,Nat.reduceSub,Int.reduceToNat,Int.reduceLE,Int.reduceLT, ↓plen4, ponx, pg0, ps0, one_ref, one_imm, cellT_U32, hu2, s9, h2]
        exact hfin _ _ _ _ p11 s6 s10
      rw [if_neg h2] at p11
      have hgo := goB_in hEb h2 rg2
      have hg := ends_go hEb h2
      have w2 : WfB inp fuel n { σ2 with st := σ2.st + 1 } := ⟨s3.n, s3.w, s3.o, s3.r, by show σ2.st + 1 ≤ fuel; omega⟩
      by_cases h3 : bk.e = 2
      · have hv := (hg.2.2 h3).2.2
        by_cases h4 : gR rg2 bk.v = 0
        · have hgo2 : goB bk rg2 = bk.el := by unfold goB; rw [if_pos ⟨h3, h4⟩]
          rw [hgo2] at hgo p11
          have h4' : rg2.getD bk.v.toNat default = 0 := h4
          simp only [go_sem,Nat.reduceEqDiff,Nat.reduceAdd,Nat.reduceMul,↓reduceIte,↓dreduceIte,reduceCtorEq,Nat.reduceLeDiff,Nat.reduceLT,Nat.reduceSub,Int.reduceToNat,Int.reduceLE,Int.reduceLT, ↓plen4, ponx, pg0, ps0, one_ref, one_imm, cellT_U32, hu2, s9, s8, h3, h4', Int.reduceEq]
          repeat ((with_reducible refine And.intro ?_ ?_); · first | omega | rfl)
          refine ⟨⟨g, bk.el.toNat, rg2, { σ2 with st := σ2.st + 1 }, T2, vo2, nx2⟩, ⟨by simp only; omega, s2, w2, s4, by simp only; omega, s6, s7, s8, s10, p11⟩, by simp only; omega, Wk.mk (by simp [get_cons]; omega) ⟨[], by simp⟩ (Nat.le_refl _)⟩
        · have hgo2 : goB bk rg2 = bk.to := by unfold goB; rw [if_neg (fun e => h4 e.2)]
          rw [hgo2] at hgo p11
          have h4' : ¬ rg2.getD bk.v.toNat default = 0 := h4
          simp only [go_sem,Nat.reduceEqDiff,Nat.reduceAdd,Nat.reduceMul,↓reduceIte,↓dreduceIte,reduceCtorEq,Nat.reduceLeDiff,Nat.reduceLT,Nat.reduceSub,Int.reduceToNat,Int.reduceLE,Int.reduceLT, ↓plen4, ponx, pg0, ps0, one_ref, one_imm, cellT_U32, hu2, s9, s8, h3, eq_false h4', Int.reduceEq]
          repeat ((with_reducible refine And.intro ?_ ?_); · first | omega | rfl)
          refine ⟨⟨g, bk.to.toNat, rg2, { σ2 with st := σ2.st + 1 }, T2, vo2, nx2⟩, ⟨by simp only; omega, s2, w2, s4, by simp only; omega, s6, s7, s8, s10, p11⟩, by simp only; omega, Wk.mk (by simp [get_cons]; omega) ⟨[], by simp⟩ (Nat.le_refl _)⟩
      · have hgo2 : goB bk rg2 = bk.to := by unfold goB; rw [if_neg (fun e => h3 e.1)]
        rw [hgo2] at hgo p11
        simp only [go_sem,Nat.reduceEqDiff,Nat.reduceAdd,Nat.reduceMul,↓reduceIte,↓dreduceIte,reduceCtorEq,Nat.reduceLeDiff,Nat.reduceLT,Nat.reduceSub,Int.reduceToNat,Int.reduceLE,Int.reduceLT, ↓plen4, ponx, pg0, ps0, one_ref, one_imm, cellT_U32, hu2, s9, s8, eq_false h2, eq_false h3, Int.reduceEq]
        refine ⟨⟨g, bk.to.toNat, rg2, { σ2 with st := σ2.st + 1 }, T2, vo2, nx2⟩, ⟨by simp only; omega, s2, w2, s4, by simp only; omega, s6, s7, s8, s10, p11⟩, by simp only; omega, Wk.mk (by simp [get_cons]; omega) ⟨[], by simp⟩ (Nat.le_refl _)⟩
end
theorem run24_c (b : BP) (inp : ByteArray) (fuel : Int) (hne : b.funcs ≠ []) (hw : 0 ≤ b.words ∧ b.words ≤ 1048576) (hf : FnsOk b.funcs b.words.toNat) (hl : b.funcs.length ≤ 140737488355328) (hfu : 0 ≤ fuel ∧ fuel ≤ 1000000000) (hin : inp.size ≤ 1000000000) :
    Contract Try.prog 19 [bpA b, strv inp, I fuel] (fun r => r = .agg [I (resB b inp fuel.toNat).en, strv ⟨(resB b inp fuel.toNat).out.toArray⟩, I (resB b inp fuel.toNat).st]) := by
  refine Contract.of_call (VCall.of_body hmix f_scref24_Run (by simp) ?_)
  have hpos := List.length_pos_iff.2 hne
  obtain ⟨fu, rfl⟩ : ∃ fu : Nat, fuel = fu := ⟨fuel.toNat, by omega⟩
  obtain ⟨n, hn⟩ : ∃ n : Nat, b.words = n := ⟨b.words.toNat, by omega⟩
  rw [hn, Int.toNat_natCast] at hf
  rw [Int.toNat_natCast]
  have hz : (List.replicate n [AV.val (.int .u32 0)]).flatten = (List.replicate n (0 : Int)).map U32 := by rw [flat_rep]; simp
  simp only [go_sem,Nat.reduceEqDiff,Nat.reduceAdd,Nat.reduceMul,↓reduceIte,↓dreduceIte,reduceCtorEq,Nat.reduceLeDiff,Nat.reduceLT,Nat.reduceSub,Int.reduceToNat,Int.reduceLE,Int.reduceLT, c_scref24_Run, ↓plen4, one_ref, one_imm, List.length_map, hn, hz, eq_false (show ¬ (b.funcs.length : Int) = 0 by omega), eq_false (show ¬ (fu : Int) < 0 by omega)]
  repeat ((with_reducible refine And.intro ?_ ?_); · first | omega | rfl)
  have hw1 : IntKind.i64.wrap ((b.funcs.length : Int) - 1) = ((b.funcs.length - 1 : Nat) : Int) := by rw [i64_in (by omega) (by omega)]; omega
  rw [hw1]
  have hbeg : begB b = ⟨List.replicate n 0, [], 0, 0, 0⟩ := by unfold begB; rw [hn, Int.toNat_natCast]
  have wb : WfB inp fu n (begB b) := by
    rw [hbeg]
    exact ⟨by simp, (rep_wf n).w, by simp, Nat.zero_le _, Nat.zero_le _⟩
  have wf := funF_wf (inp := inp) (fuel := fu) hf b.funcs.length (Nat.le_refl _) (b.funcs.length - 1) (by omega) (begB b) wb rfl
  have fv := fun_v ⟨0, 44, 1, [I n, fnsB b.funcs]⟩ ⟨1, 49, 1, [I 0, strv ⟨#[]⟩, I 0]⟩ 2 3 n b.funcs inp fu n (by omega) hin (by omega) hf b.funcs.length (Nat.le_refl _) (b.funcs.length - 1) (by omega) (begB b) wb rfl [] nilv 4
  have hfin : finB b inp fu = funF b.funcs inp fu b.funcs.length (b.funcs.length - 1) (begB b) := rfl
  rw [hbeg] at fv wf hfin
  refine fv _ (.inl ⟨rfl, rfl⟩) fun T' vo' nx' g1 g2 => ?_
  have hu := g2.one
  obtain ⟨σ, hσ⟩ : ∃ σ, funF b.funcs inp fu b.funcs.length (b.funcs.length - 1) ⟨List.replicate n 0, [], 0, 0, 0⟩ = σ := ⟨_, rfl⟩
  rw [hσ] at g2 wf hfin ⊢
  have hb2s : ∀ (ob : VObj) (l : List UInt8), (List.map U8 l).take l.length = l.map U8 := fun _ l => List.take_of_length_le (by simp)
  have hres : ∀ (σ' : Bst) (x : ByteArray), x = ⟨σ.out.toArray⟩ → ∀ e : Int, e = (if σ.en = 0 then 1 else σ.en) → ∀ H nx, ∃ y, Frz 0 H nx (.agg [I e, strv x, I σ.st]) y ∧ y = .agg [I (resB b inp fu).en, strv ⟨(resB b inp fu).out.toArray⟩, I (resB b inp fu).st] := fun σ' x hx e he H nx => by
    subst hx; subst he
    exact ⟨_, Frz.pure rfl, by unfold resB; rw [hfin]⟩
  by_cases h : σ.en = 0
  · rcases g2 with ⟨rfl, h2⟩ | ⟨k0, s, rfl, hT⟩
    · simp only [go_sem,Nat.reduceEqDiff,Nat.reduceAdd,Nat.reduceMul,↓reduceIte,↓dreduceIte,reduceCtorEq,Nat.reduceLeDiff,Nat.reduceLT,Nat.reduceSub,Int.reduceToNat,Int.reduceLE,Int.reduceLT, ↓plen4, one_ref, one_imm, h]
      exact hres σ _ (by rw [h2]; rfl) _ (by rw [if_pos h]) _ _
    · simp only [go_sem,Nat.reduceEqDiff,Nat.reduceAdd,Nat.reduceMul,↓reduceIte,↓dreduceIte,reduceCtorEq,Nat.reduceLeDiff,Nat.reduceLT,Nat.reduceSub,Int.reduceToNat,Int.reduceLE,Int.reduceLT, ↓plen4, one_ref, one_imm, h, hT]
      rw [hb2s default]
      simp only [go_sem,Nat.reduceEqDiff,Nat.reduceAdd,Nat.reduceMul,↓reduceIte,↓dreduceIte,reduceCtorEq,Nat.reduceLeDiff,Nat.reduceLT,Nat.reduceSub,Int.reduceToNat,Int.reduceLE,Int.reduceLT, ↓plen4, one_ref, one_imm, b2sT_U8]
      repeat ((with_reducible refine And.intro ?_ ?_); · first | omega | rfl)
      exact hres σ _ rfl _ (by rw [if_pos h]) _ _
  · rcases g2 with ⟨rfl, h2⟩ | ⟨k0, s, rfl, hT⟩
    · simp only [go_sem,Nat.reduceEqDiff,Nat.reduceAdd,Nat.reduceMul,↓reduceIte,↓dreduceIte,reduceCtorEq,Nat.reduceLeDiff,Nat.reduceLT,Nat.reduceSub,Int.reduceToNat,Int.reduceLE,Int.reduceLT, ↓plen4, one_ref, one_imm, eq_false h]
      exact hres σ _ (by rw [h2]; rfl) _ (by rw [if_neg h]) _ _
    · simp only [go_sem,Nat.reduceEqDiff,Nat.reduceAdd,Nat.reduceMul,↓reduceIte,↓dreduceIte,reduceCtorEq,Nat.reduceLeDiff,Nat.reduceLT,Nat.reduceSub,Int.reduceToNat,Int.reduceLE,Int.reduceLT, ↓plen4, one_ref, one_imm, eq_false h, hT]
      rw [hb2s default]
      simp only [go_sem,Nat.reduceEqDiff,Nat.reduceAdd,Nat.reduceMul,↓reduceIte,↓dreduceIte,reduceCtorEq,Nat.reduceLeDiff,Nat.reduceLT,Nat.reduceSub,Int.reduceToNat,Int.reduceLE,Int.reduceLT, ↓plen4, one_ref, one_imm, b2sT_U8]
      repeat ((with_reducible refine And.intro ?_ ?_); · first | omega | rfl)
      exact hres σ _ rfl _ (by rw [if_neg h]) _ _
end Go.Proofs.Ytncjbipnkdlkoaa
namespace Go.Proofs.Ytncjbipnkdlkoaa
set_option linter.unusedSimpArgs false
set_option linter.unusedVariables false
set_option maxRecDepth 10000
open Go.V Go.ChangeShapes Go.WideShapes Go.ChangeAt Go.RowKit
def r_sclaw28_AllocTrue : VC :=
 (.seq
 (.ops [
 ⟨(some 3), none, (.box 38 (.tmp 0))⟩,
 ⟨(some 6), none, (.mv (.const (.bool false)))⟩])
 (.seq
 (.seq
 (.ops [
 ⟨(some 10), none, (.fad 0 true 2 (.tmp 3))⟩,
 ⟨(some 11), none, (.ld true 2 (.tmp 10))⟩,
 ⟨(some 12), none, (.call (.func 8) [(.tmp 11)])⟩,
 ⟨(some 13), none, (.un .not (.tmp 12))⟩,
 ⟨(some 14), none, (.mv (.tmp 13))⟩,
 ⟨(some 15), (some (14, false)), (.fad 4 true 1 (.tmp 3))⟩,
 ⟨(some 16), (some (14, false)), (.fad 0 false 1 (.tmp 15))⟩,
 ⟨(some 17), (some (14, false)), (.ld false 1 (.tmp 16))⟩,
 ⟨(some 18), (some (14, false)), (.len (.tmp 17))⟩,
 ⟨(some 19), (some (14, false)), (.bin .gtr (.tmp 18) (.const (.int .i64 40)))⟩,
 ⟨(some 20), none, (.pick (.tmp 14) (.const (.bool true)) (.tmp 19))⟩,
 ⟨(some 21), none, (.mv (.tmp 20))⟩,
 ⟨(some 22), (some (21, false)), (.fad 5 false 1 (.tmp 3))⟩,
 ⟨(some 23), (some (21, false)), (.ld false 1 (.tmp 22))⟩,
 ⟨(some 24), (some (21, false)), (.bin .gtr (.tmp 23) (.const (.int .i64 20)))⟩,
 ⟨(some 25), none, (.pick (.tmp 21) (.const (.bool true)) (.tmp 24))⟩,
 ⟨(some 26), none, (.mv (.tmp 25))⟩,
 ⟨(some 27), (some (26, false)), (.mv (.tmp 1))⟩,
 ⟨(some 28), (some (26, false)), (.lens (.tmp 27))⟩,
 ⟨(some 29), (some (26, false)), (.bin .gtr (.tmp 28) (.const (.int .i64 60)))⟩,
 ⟨(some 30), none, (.pick (.tmp 26) (.const (.bool true)) (.tmp 29))⟩,
 ⟨(some 31), none, (.mv (.tmp 30))⟩,
 ⟨(some 32), (some (31, false)), (.fad 4 true 1 (.tmp 3))⟩,
 ⟨(some 33), (some (31, false)), (.ld true 1 (.tmp 32))⟩,
 ⟨(some 34), (some (31, false)), (.call (.func 17) [(.tmp 33)])⟩,
 ⟨(some 35), (some (31, false)), (.bin .gtr (.tmp 34) (.const (.int .i64 3000)))⟩,
 ⟨(some 36), none, (.pick (.tmp 31) (.const (.bool true)) (.tmp 35))⟩,
 ⟨(some 37), none, (.mv (.tmp 36))⟩,
 ⟨(some 38), (some (37, false)), (.fad 0 true 2 (.tmp 3))⟩,
 ⟨(some 39), (some (37, false)), (.ld true 2 (.tmp 38))⟩,
 ⟨(some 40), (some (37, false)), (.call (.func 20) [(.tmp 39), (.const (.int .i64 0)), (.const (.int .i64 10))])⟩,
 ⟨(some 41), (some (37, false)), (.un .not (.tmp 40))⟩,
 ⟨(some 42), none, (.pick (.tmp 37) (.const (.bool true)) (.tmp 41))⟩,
 ⟨(some 43), none, (.mv (.tmp 42))⟩,
 ⟨(some 44), (some (43, false)), (.fad 0 true 2 (.tmp 3))⟩,
 ⟨(some 45), (some (43, false)), (.ld true 2 (.tmp 44))⟩,
 ⟨(some 46), (some (43, false)), (.fad 2 true 2 (.tmp 3))⟩,
 ⟨(some 47), (some (43, false)), (.ld true 2 (.tmp 46))⟩,
 ⟨(some 48), (some (43, false)), (.fad 4 true 1 (.tmp 3))⟩,
 ⟨(some 49), (some (43, false)), (.ld true 1 (.tmp 48))⟩,
 ⟨(some 50), (some (43, false)), (.fad 5 false 1 (.tmp 3))⟩,
 ⟨(some 51), (some (43, false)), (.ld false 1 (.tmp 50))⟩,
 ⟨(some 52), (some (43, false)), (.call (.func 14) [(.tmp 45), (.tmp 47), (.tmp 49), (.tmp 51)])⟩,
 ⟨(some 53), (some (43, false)), (.un .not (.tmp 52))⟩,
 ⟨(some 54), none, (.pick (.tmp 43) (.const (.bool true)) (.tmp 53))⟩])
 (.cond (.tmp 54)
 (.seq
 (.ops [
 ⟨(some 55), none, (.call (.func 9) [])⟩,
 ⟨(some 6), none, (.mv (.tmp 55))⟩])
 .ret)
 .skip))
 (.seq
 (.ops [
 ⟨(some 56), none, (.fad 5 false 1 (.tmp 3))⟩,
 ⟨(some 57), none, (.ld false 1 (.tmp 56))⟩,
 ⟨(some 58), none, (.pur .mx [(.tmp 57), (.const (.int .i64 0))])⟩,
 ⟨(some 7), none, (.mv (.tmp 58))⟩])
 (.seq
 (.ops [
 ⟨(some 59), none, (.fad 0 true 2 (.tmp 3))⟩,
 ⟨(some 60), none, (.ld true 2 (.tmp 59))⟩,
 ⟨(some 61), none, (.bsl 24 2 1 [(.int .i64 0), (.slice none 0 0)] [(0, (2, (.tmp 60)))])⟩,
 ⟨(some 62), none, (.bld [(.int .i64 0), (.slice none 0 0)] [(0, (1, (.const (.int .i64 10)))), (1, (1, (.tmp 61)))])⟩,
 ⟨(some 8), none, (.alc 44 [(.int .i64 0), (.slice none 0 0)])⟩,
 ⟨none, none, (.sto true 2 (.tmp 8) (.tmp 62))⟩])
 (.seq
 (.ops [
 ⟨(some 63), none, (.fad 0 true 2 (.tmp 3))⟩,
 ⟨(some 64), none, (.ld true 2 (.tmp 63))⟩,
 ⟨(some 65), none, (.fad 4 true 1 (.tmp 3))⟩,
 ⟨(some 66), none, (.ld true 1 (.tmp 65))⟩,
 ⟨(some 67), none, (.mv (.tmp 7))⟩,
 ⟨(some 68), none, (.call (.func 18) [(.tmp 64), (.tmp 66), (.tmp 67)])⟩,
 ⟨(some 69), none, (.bsl 24 2 1 [(.int .i64 0), (.slice none 0 0)] [(0, (2, (.tmp 68)))])⟩,
 ⟨(some 70), none, (.bld [(.int .i64 0), (.slice none 0 0)] [(0, (1, (.const (.int .i64 10)))), (1, (1, (.tmp 69)))])⟩,
 ⟨(some 9), none, (.alc 44 [(.int .i64 0), (.slice none 0 0)])⟩,
 ⟨none, none, (.sto true 2 (.tmp 9) (.tmp 70))⟩])
 (.seq
 (.par true (.one ⟨(some 71), none, (.call (.func 9) [])⟩ (.one ⟨(some 72), none, (.mv (.tmp 71))⟩ (.one ⟨(some 73), (some (72, true)), (.ld true 2 (.tmp 8))⟩ (.one ⟨(some 74), (some (72, true)), (.mv (.tmp 1))⟩ (.one ⟨(some 75), (some (72, true)), (.mv (.tmp 2))⟩ (.one ⟨(some 76), (some (72, true)), (.conv .i64 (.tmp 75))⟩ (.one ⟨(some 77), (some (72, true)), (.call (.func 19) [(.tmp 73), (.tmp 74), (.tmp 76)])⟩ (.one ⟨(some 78), (some (72, true)), (.ld true 2 (.tmp 9))⟩ (.one ⟨(some 79), (some (72, true)), (.mv (.tmp 1))⟩ (.one ⟨(some 80), (some (72, true)), (.mv (.tmp 2))⟩ (.one ⟨(some 81), (some (72, true)), (.conv .i64 (.tmp 80))⟩ (.one ⟨(some 82), (some (72, true)), (.call (.func 19) [(.tmp 78), (.tmp 79), (.tmp 81)])⟩ (.one ⟨(some 83), (some (72, true)), (.pur (.eqv false [.int, .str, .int]) [(.tmp 77), (.tmp 82)])⟩ (.one ⟨(some 84), none, (.pick (.tmp 72) (.tmp 83) (.const (.bool false)))⟩ (.one ⟨(some 6), none, (.mv (.tmp 84))⟩ .done))))))))))))))))
 .ret))))))
theorem s_sclaw28_AllocTrue : compFq Try.prog false true 7 = some (85, r_sclaw28_AllocTrue, [(.tmp 6)]) := by kernel_rfl
set_option maxHeartbeats 4000000 in
theorem alloctrue_c (f : BF) (L : LD) (pl : List Int) (n : Int) (inp : ByteArray) (fu : Int) (hF : BfOk f) (hL : LOK L) (hpl : pl.length ≤ 140737488351232) (hn : Int64 n) (hfu : 0 ≤ fu ∧ fu ≤ 255) : Contract Try.prog 7 [askA f L pl n, strv inp, Y8 fu] (fun r => r = B true) := by
  refine Contract.of_call (VCall.of_bodyQ hmix s_sclaw28_AllocTrue (by simp) ?_)
  simp only [go_sem,Nat.reduceEqDiff,Nat.reduceAdd,Nat.reduceMul,↓reduceIte,↓dreduceIte,reduceCtorEq,Nat.reduceLeDiff,Nat.reduceLT,Nat.reduceSub,Int.reduceToNat,Int.reduceLE,Int.reduceLT, one_imm, one_ref, r_sclaw28_AllocTrue]
  refine VCall.of_contract (small28_c f hF) (SleL.pure rfl) fun x hx => ?_
  subst hx
  cases hs : small28B f
  · simp only [go_sem,Nat.reduceEqDiff,Nat.reduceAdd,Nat.reduceMul,↓reduceIte,↓dreduceIte,reduceCtorEq,Nat.reduceLeDiff,Nat.reduceLT,Nat.reduceSub,Int.reduceToNat,Int.reduceLE,Int.reduceLT, one_imm, one_ref]
    refine VCall.of_contract awake_c (SleL.pure rfl) fun x hx => ?_
    subst hx
    simp only [go_sem,Nat.reduceEqDiff,Nat.reduceAdd,Nat.reduceMul,↓reduceIte,↓dreduceIte,reduceCtorEq,Nat.reduceLeDiff,Nat.reduceLT,Nat.reduceSub,Int.reduceToNat,Int.reduceLE,Int.reduceLT, one_imm, one_ref]
    exact ⟨_, Frz.pure rfl, rfl⟩
  obtain ⟨hf, h12, h20, ho, hins⟩ := small28_fine hs
  by_cases h40 : 40 < pl.length
  · simp only [go_sem,Nat.reduceEqDiff,Nat.reduceAdd,Nat.reduceMul,↓reduceIte,↓dreduceIte,reduceCtorEq,Nat.reduceLeDiff,Nat.reduceLT,Nat.reduceSub,Int.reduceToNat,Int.reduceLE,Int.reduceLT, one_imm, one_ref, List.length_map, gt_iff_lt, eq_true (show (40 : Int) < pl.length by omega)]
    refine VCall.of_contract awake_c (SleL.pure rfl) fun x hx => ?_
    subst hx
    simp only [go_sem,Nat.reduceEqDiff,Nat.reduceAdd,Nat.reduceMul,↓reduceIte,↓dreduceIte,reduceCtorEq,Nat.reduceLeDiff,Nat.reduceLT,Nat.reduceSub,Int.reduceToNat,Int.reduceLE,Int.reduceLT, one_imm, one_ref]
    exact ⟨_, Frz.pure rfl, rfl⟩
  have f40 : ((40 : Int) < pl.length) = False := eq_false (by omega)
  by_cases h21 : 20 < n
  · simp only [go_sem,Nat.reduceEqDiff,Nat.reduceAdd,Nat.reduceMul,↓reduceIte,↓dreduceIte,reduceCtorEq,Nat.reduceLeDiff,Nat.reduceLT,Nat.reduceSub,Int.reduceToNat,Int.reduceLE,Int.reduceLT, one_imm, one_ref, List.length_map, gt_iff_lt, f40, eq_true h21]
    refine VCall.of_contract awake_c (SleL.pure rfl) fun x hx => ?_
    subst hx
    simp only [go_sem,Nat.reduceEqDiff,Nat.reduceAdd,Nat.reduceMul,↓reduceIte,↓dreduceIte,reduceCtorEq,Nat.reduceLeDiff,Nat.reduceLT,Nat.reduceSub,Int.reduceToNat,Int.reduceLE,Int.reduceLT, one_imm, one_ref]
    exact ⟨_, Frz.pure rfl, rfl⟩
  by_cases h60 : (60 : Int) < inp.size
  · simp only [go_sem,Nat.reduceEqDiff,Nat.reduceAdd,Nat.reduceMul,↓reduceIte,↓dreduceIte,reduceCtorEq,Nat.reduceLeDiff,Nat.reduceLT,Nat.reduceSub,Int.reduceToNat,Int.reduceLE,Int.reduceLT, one_imm, one_ref, List.length_map, gt_iff_lt, f40, eq_false h21, eq_true h60]
    refine VCall.of_contract awake_c (SleL.pure rfl) fun x hx => ?_
    subst hx
    simp only [go_sem,Nat.reduceEqDiff,Nat.reduceAdd,Nat.reduceMul,↓reduceIte,↓dreduceIte,reduceCtorEq,Nat.reduceLeDiff,Nat.reduceLT,Nat.reduceSub,Int.reduceToNat,Int.reduceLE,Int.reduceLT, one_imm, one_ref]
    exact ⟨_, Frz.pure rfl, rfl⟩
  simp only [go_sem,Nat.reduceEqDiff,Nat.reduceAdd,Nat.reduceMul,↓reduceIte,↓dreduceIte,reduceCtorEq,Nat.reduceLeDiff,Nat.reduceLT,Nat.reduceSub,Int.reduceToNat,Int.reduceLE,Int.reduceLT, one_imm, one_ref, List.length_map, gt_iff_lt, f40, eq_false h21, eq_false h60]
  refine VCall.of_contract (rwords_c pl (by omega)) (SleL.pure rfl) fun x hx => ?_
  subst hx
  by_cases h3k : 3000 < wdsI pl
  · simp only [go_sem,Nat.reduceEqDiff,Nat.reduceAdd,Nat.reduceMul,↓reduceIte,↓dreduceIte,reduceCtorEq,Nat.reduceLeDiff,Nat.reduceLT,Nat.reduceSub,Int.reduceToNat,Int.reduceLE,Int.reduceLT, one_imm, one_ref, List.length_map, gt_iff_lt, eq_true h3k]
    refine VCall.of_contract awake_c (SleL.pure rfl) fun x hx => ?_
    subst hx
    simp only [go_sem,Nat.reduceEqDiff,Nat.reduceAdd,Nat.reduceMul,↓reduceIte,↓dreduceIte,reduceCtorEq,Nat.reduceLeDiff,Nat.reduceLT,Nat.reduceSub,Int.reduceToNat,Int.reduceLE,Int.reduceLT, one_imm, one_ref]
    exact ⟨_, Frz.pure rfl, rfl⟩
  simp only [go_sem,Nat.reduceEqDiff,Nat.reduceAdd,Nat.reduceMul,↓reduceIte,↓dreduceIte,reduceCtorEq,Nat.reduceLeDiff,Nat.reduceLT,Nat.reduceSub,Int.reduceToNat,Int.reduceLE,Int.reduceLT, one_imm, one_ref, List.length_map, gt_iff_lt, eq_false h3k]
  refine VCall.of_contract (rone_c f 0 10 (by decide) hF.len (fun b hb => (hF.bk b hb).len)) (SleL.pure rfl) fun x hx => ?_
  subst hx
  cases h1 : oneB f 0 10
  · simp only [go_sem,Nat.reduceEqDiff,Nat.reduceAdd,Nat.reduceMul,↓reduceIte,↓dreduceIte,reduceCtorEq,Nat.reduceLeDiff,Nat.reduceLT,Nat.reduceSub,Int.reduceToNat,Int.reduceLE,Int.reduceLT, one_imm, one_ref]
    refine VCall.of_contract awake_c (SleL.pure rfl) fun x hx => ?_
    subst hx
    simp only [go_sem,Nat.reduceEqDiff,Nat.reduceAdd,Nat.reduceMul,↓reduceIte,↓dreduceIte,reduceCtorEq,Nat.reduceLeDiff,Nat.reduceLT,Nat.reduceSub,Int.reduceToNat,Int.reduceLE,Int.reduceLT, one_imm, one_ref]
    exact ⟨_, Frz.pure rfl, rfl⟩
  simp only [go_sem,Nat.reduceEqDiff,Nat.reduceAdd,Nat.reduceMul,↓reduceIte,↓dreduceIte,reduceCtorEq,Nat.reduceLeDiff,Nat.reduceLT,Nat.reduceSub,Int.reduceToNat,Int.reduceLE,Int.reduceLT, one_imm, one_ref]
  refine VCall.of_contract (acheck_c f L pl n hf hL (by omega)) (SleL.pure rfl) fun x hx => ?_
  subst hx
  cases hA : allocB f L pl n
  · simp only [go_sem,Nat.reduceEqDiff,Nat.reduceAdd,Nat.reduceMul,↓reduceIte,↓dreduceIte,reduceCtorEq,Nat.reduceLeDiff,Nat.reduceLT,Nat.reduceSub,Int.reduceToNat,Int.reduceLE,Int.reduceLT, one_imm, one_ref]
    refine VCall.of_contract awake_c (SleL.pure rfl) fun x hx => ?_
    subst hx
    simp only [go_sem,Nat.reduceEqDiff,Nat.reduceAdd,Nat.reduceMul,↓reduceIte,↓dreduceIte,reduceCtorEq,Nat.reduceLeDiff,Nat.reduceLT,Nat.reduceSub,Int.reduceToNat,Int.reduceLE,Int.reduceLT, one_imm, one_ref]
    exact ⟨_, Frz.pure rfl, rfl⟩
  have hP := (allocB_iff hf L pl n).1 hA
  obtain ⟨n', hn'⟩ : ∃ n' : Int, n' = (if 0 > n then 0 else n) := ⟨_, rfl⟩
  have hn0 : 0 ≤ n' ∧ n' ≤ 20 ∧ n ≤ n' := by rw [hn']; split <;> omega
  have hP' : AllocP f L pl n' := ⟨hP.cl, hP.len, fun v hv => by rcases hP.ok v hv with g | g <;> omega, hP.ap, hP.st, hP.ca⟩
  have hoth := other_c f pl n' hf hP'.len (by omega) hP'.ok
  have hw32 : ∀ k ∈ f.bks, ∀ t ∈ k.ins, In32 t.n := fun k hk t ht => ((hF.bk k hk).ins t ht).n
  have hlen : ∀ k ∈ f.bks, k.ins.length ≤ 140737488355328 := fun k hk => (hF.bk k hk).len
  have ok1 : FnsOk [f] 10 := ⟨fun i hi => by
    have : i = 0 := by simpa using hi
    subst this; exact h1, fun g hg => by rw [List.mem_singleton] at hg; subst hg; exact hlen, fun g hg => by rw [List.mem_singleton] at hg; subst hg; exact hw32⟩
  have h1' := other_one (w := 10) hn0.1 hP' (by omega) h1
  obtain ⟨ow1, ow2⟩ := other_w (pl := pl) (n := n') hlen hw32
  have ok2 : FnsOk [otherF f pl n'] 10 := ⟨fun i hi => by
    have : i = 0 := by simpa using hi
    subst this; exact h1', fun g hg => by rw [List.mem_singleton] at hg; subst hg; exact ow1, fun g hg => by rw [List.mem_singleton] at hg; subst hg; exact ow2⟩
  have hsz : inp.size ≤ 1000000000 := by omega
  obtain ⟨u, rfl⟩ : ∃ u : Nat, fu = u := ⟨fu.toNat, by omega⟩
  have k1 := run24_c ⟨10, [f]⟩ inp u (by simp) ⟨by show (0 : Int) ≤ 10; decide, by show (10 : Int) ≤ 1048576; decide⟩ ok1 (by simp) (by omega) hsz
  have k2 := run24_c ⟨10, [otherF f pl n']⟩ inp u (by simp) ⟨by show (0 : Int) ≤ 10; decide, by show (10 : Int) ≤ 1048576; decide⟩ ok2 (by simp) (by omega) hsz
  have hres : resB ⟨10, [otherF f pl n']⟩ inp u = resB ⟨10, [f]⟩ inp u := other_res (fs := [f]) ok1 (by simp) rfl fun i hi => by
    have : i = 0 := by simpa using hi
    subst this
    exact ⟨hf, L, pl, n', hn0.1, hP', rfl⟩
  rw [Int.toNat_natCast] at k1 k2
  rw [hres] at k2
  generalize resB ⟨10, [f]⟩ inp u = X at k1 k2
  have w0 : IntKind.i64.wrap (u : Int) = u := i64_in (by omega) (by omega)
  simp only [go_sem,Nat.reduceEqDiff,Nat.reduceAdd,Nat.reduceMul,↓reduceIte,↓dreduceIte,reduceCtorEq,Nat.reduceLeDiff,Nat.reduceLT,Nat.reduceSub,Int.reduceToNat,Int.reduceLE,Int.reduceLT, one_imm, one_ref, ← hn', w0]
  refine VCall.of_contract hoth (SleL.pure rfl) fun x hx => ?_
  subst hx
  simp only [go_sem,Nat.reduceEqDiff,Nat.reduceAdd,Nat.reduceMul,↓reduceIte,↓dreduceIte,reduceCtorEq,Nat.reduceLeDiff,Nat.reduceLT,Nat.reduceSub,Int.reduceToNat,Int.reduceLE,Int.reduceLT, one_imm, one_ref, ← hn', w0]
  refine awakeE ?_
  simp only [go_sem,Nat.reduceEqDiff,Nat.reduceAdd,Nat.reduceMul,↓reduceIte,↓dreduceIte,reduceCtorEq,Nat.reduceLeDiff,Nat.reduceLT,Nat.reduceSub,Int.reduceToNat,Int.reduceLE,Int.reduceLT, one_imm, one_ref, w0]
  refine ECall.ofN (k1.vals fun r h => .inr ⟨[.int .i64 X.en, .string ⟨X.out.toArray⟩, .int .i64 X.st], h⟩) (fun H' nx' hA => ⟨_, _, rfl, Frz.agg ⟨_, _, rfl, Frz.pure rfl, _, _, rfl, frz_fun28 (Nat.zero_le _) (hA 1 _ ⟨rfl, by decide⟩ rfl), rfl⟩, _, _, rfl, Frz.pure rfl, _, _, rfl, Frz.pure rfl, rfl⟩) ⟨_, fun _ => Iff.rfl⟩ fun x hx => ?_
  subst hx
  simp only [go_sem,Nat.reduceEqDiff,Nat.reduceAdd,Nat.reduceMul,↓reduceIte,↓dreduceIte,reduceCtorEq,Nat.reduceLeDiff,Nat.reduceLT,Nat.reduceSub,Int.reduceToNat,Int.reduceLE,Int.reduceLT, one_imm, one_ref, w0]
  refine ECall.ofN (k2.vals fun r h => .inr ⟨[.int .i64 X.en, .string ⟨X.out.toArray⟩, .int .i64 X.st], h⟩) (fun H' nx' hA => ⟨_, _, rfl, Frz.agg ⟨_, _, rfl, Frz.pure rfl, _, _, rfl, frz_fun28 (Nat.zero_le _) (hA 3 _ ⟨rfl, by decide⟩ rfl), rfl⟩, _, _, rfl, Frz.pure rfl, _, _, rfl, Frz.pure rfl, rfl⟩) ⟨_, fun _ => Iff.rfl⟩ fun x hx => ?_
  subst hx
  simp only [go_sem,Nat.reduceEqDiff,Nat.reduceAdd,Nat.reduceMul,↓reduceIte,↓dreduceIte,reduceCtorEq,Nat.reduceLeDiff,Nat.reduceLT,Nat.reduceSub,Int.reduceToNat,Int.reduceLE,Int.reduceLT, one_imm, one_ref, w0, beq_self_eq_true]
  refine ⟨_, Frz.pure rfl, ?_⟩
  rw [bytes_refl]
  rfl
set_option maxRecDepth 100000 in
theorem alloctrue_lifted (os : Os) (started : os.Started) (H : Type) (enc : TypeId × Value → H) :
    ReturnsInHanded {} Try.checked os 7 .any (Rows.allocTrueSpec.pre6 enc Try.prog Try.f7 Rows.allocTrueRow.domain false) (Rows.allocTrueSpec.post enc Try.prog Try.f7 false true false false) := by
  refine returnsInHanded_of_change_sized (C := Try.checked) Try.own started (by kernel_rfl) Try.func7
    (ChangeSpec.witness6 (enc := enc) (C := Try.checked) false ⟨#[], #[.agg #[.int .i64 0, .slice none 0 0, .slice none 0 0, .slice none 0 0, .slice none 0 0, .int .i64 0], .string ⟨#[]⟩, .int .u8 0], []⟩ 8 (by kernel_rfl) (by kernel_rfl) (by kernel_rfl) (by kernel_rfl)) ?_
  intro W base args ds gs before hval hW _ hwt _
  refine law_calls (P := Try.prog) (n := 20) (shs := [askSh, .str, .int .u8]) (tb := 4) Try.laidOut rfl (by kernel_rfl) (by kernel_rfl) (by decide +kernel) (by kernel_rfl) (fun ds h => ?_) (fun xs hx => ?_) hval hW hwt
  · match ds, h with
    | [d1, d2, d3], _ => rfl
  · obtain ⟨x, xs', rfl, hx1, hxs⟩ := fitS_cons hx
    obtain ⟨y, ys', rfl, hy, hys⟩ := fitS_cons hxs
    obtain ⟨z, zs', rfl, hz, hzs⟩ := fitS_cons hys
    simp only [Sh.fitL] at hzs
    subst hzs
    obtain ⟨f, L, pl, n, rfl, g1, g2, g3, g4, g5⟩ := ask_of hx1
    simp only [Sh.fit] at hy
    obtain ⟨inp, rfl, hinp⟩ := hy
    obtain ⟨m, rfl, hm⟩ := fit_y hz
    exact alloctrue_c f L pl n inp m g1 g2 g3 g5 hm
theorem alloctrue_holds : Rows.AllocTrueSaid :=
  OpenClaim.holds_of_wide 7 Try.f7 rfl rfl rfl rfl rfl rfl rfl ⟨rfl, rfl, rfl, rfl, rfl⟩ rfl rfl rfl rfl rfl (by kernel_rfl) Try.func7 (by kernel_rfl)
    (of_decide_eq_true (by kernel_rfl)) (by unfold Func.isWrapper; first | (rw [if_pos (by decide +kernel)]; kernel_rfl) | (rw [if_neg (by decide +kernel)]; exact ⟨rfl, rfl⟩))
    (fun os started H enc _ => alloctrue_lifted os started H enc)
end Go.Proofs.Ytncjbipnkdlkoaa
