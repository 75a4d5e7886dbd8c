/-
  Own literals, frozen between statements: instructions, blocks, rows. No condition. A table that is built row by row: its objects. No condition. Allocations: which functions are small; the table by which all matters: contracts. No condition. Allocations: the table by which all matters: contract. No condition. The document's search, plainly: block by block, the last one first, until nothing is added. No condition. Tables of the call's own; the document's empty one: contract. No condition. The least table by the document: contract. No condition. The program's check of an allocation: contract. No condition. Allocations: the example, awake. No condition. AllocHolds: the row. No condition. AllocEach: the row. No condition. AllocMore: the row. No condition.
-/
import Derived.Test.YtncjbipnkdlkoaaQ2
import Derived.Test.YtncjbipnkdlkoaaVY
namespace Go.V
theorem Frz.ptr {n : Nat} {H : List VObj} {nx id s : Nat} {ob : VObj} {ys : List AV} (hid : n ≤ id) (ho : H[id]? = some ob) (hs : ob.s = s) (hz : ob.sz ≠ 0) (h : FrzL n H nx ob.cs ys) :
    Frz n H nx (.ptr id s 0) (.ip (.agg ys)) := fun M hR hH hnx v r => by
  subst hH
  simp only [RV] at r
  obtain ⟨hzz, g, hm, rfl⟩ := r.2.2 ob ho hs
  obtain ⟨vs, g1, g2, g3⟩ := hR.cells ho hzz hm 0 ob.cs.length (by omega)
  simp only [List.drop_zero, List.take_length] at g2
  have hrl := h.rl hR rfl hnx g2
  simp only [RV0]
  refine ⟨g, _, .agg vs.toArray, rfl, ⟨.inr ⟨(hR.lt hm).1, (hR.lt hm).2.1⟩, fun j hj e => by have := hR.inj j id g e hm; omega⟩, ⟨vs, rfl, hrl⟩, fun j u hu => ?_⟩
  have := g3 j u (by simpa [Value.cells] using hu)
  simpa using this
end Go.V
namespace Go.Proofs.Ytncjbipnkdlkoaa
set_option linter.unusedSimpArgs false
set_option linter.unusedVariables false
set_option maxRecDepth 10000
open Go.V

theorem give_all {env env' : List (Nat × AV)} {H : List VObj} {nx : Nat} (he : ∀ p ∈ env', get env p.1 = p.2 ∨ Frz 0 H nx (get env p.1) p.2) : Wk ⟨env, H, nx⟩ ⟨env', [], nx⟩ :=
  Wk.give he (by cases H <;> exact trivial) (Nat.le_refl _)
theorem frz_ins {H : List VObj} {nx id s len : Nat} {ob : VObj} (l : List Tac) (ho : H[id]? = some ob) (hs : ob.s = s) (hz : ob.sz = 8) (hcs : ob.cs = (l.map tacL).flatten) (hl : len = l.length) : Frz 0 H nx (.ref id s 0 len) (inA l) := by
  have h := Frz.refT (n := 0) (nx := nx) (yss := l.map tacL) (zss := l.map tacL) (len := len) (Nat.zero_le _) ho hs hz hcs (by intro q hq; obtain ⟨t, _, rfl⟩ := List.mem_map.1 hq; rfl) (by rw [List.length_map]; exact hl) (FrzLL.pure (by intro q hq; obtain ⟨t, _, rfl⟩ := List.mem_map.1 hq; rfl))
  rw [List.map_map] at h
  exact h
theorem frz_bks {H : List VObj} {nx id s len : Nat} {ob : VObj} (bs : List Bk) (xs : List AV) (hx : xs.length = bs.length) (hf : ∀ i < bs.length, Frz 0 H nx (xs.getD i .dead) (inA (bs.getD i default).ins)) (ho : H[id]? = some ob) (hs : ob.s = s) (hz : ob.sz = 5)
    (hcs : ob.cs = ((xs.zip bs).map fun p => [p.1, I p.2.e, I p.2.v, I p.2.to, I p.2.el]).flatten) (hl : len = bs.length) : Frz 0 H nx (.ref id s 0 len) (bksA bs) := by
  have key : ∀ (xs : List AV) (bs : List Bk), xs.length = bs.length → (∀ i < bs.length, Frz 0 H nx (xs.getD i .dead) (inA (bs.getD i default).ins)) → FrzLL 0 H nx ((xs.zip bs).map fun p => [p.1, I p.2.e, I p.2.v, I p.2.to, I p.2.el]) (bs.map bkL) := by
    intro xs
    induction xs with
    | nil => intro bs h _; cases bs with
      | nil => rfl
      | cons b bs => simp at h
    | cons x xs ih => intro bs h hf; cases bs with
      | nil => simp at h
      | cons b bs =>
        refine ⟨_, _, rfl, ⟨_, _, rfl, hf 0 (by simp), _, _, rfl, Frz.pure rfl, _, _, rfl, Frz.pure rfl, _, _, rfl, Frz.pure rfl, _, _, rfl, Frz.pure rfl, rfl⟩, ih bs (by simpa using h) fun i hi => ?_⟩
        have := hf (i + 1) (by simp; omega)
        simpa using this
  have h := Frz.refT (n := 0) (nx := nx) (len := len) (zss := bs.map bkL) (Nat.zero_le _) ho hs hz hcs (by intro l hl; obtain ⟨p, _, rfl⟩ := List.mem_map.1 hl; rfl) (by rw [List.length_map, List.length_zip, hx, Nat.min_self]; exact hl) (key xs bs hx hf)
  rw [List.map_map] at h
  exact h
theorem frz_rowB {H : List VObj} {nx id s len : Nat} {ob : VObj} (l : List Bool) (ho : H[id]? = some ob) (hs : ob.s = s) (hz : ob.sz = 1) (hcs : ob.cs = l.map B) (hl : len = l.length) : Frz 0 H nx (.ref id s 0 len) (.imm 1 (l.map B)) :=
  Frz.ref (Nat.zero_le _) ho hs hz (by rw [hcs, List.all_eq_true]; intro q hq; obtain ⟨t, _, rfl⟩ := List.mem_map.1 hq; rfl) (by rw [hcs, List.drop_zero, List.take_of_length_le (by simp [hl])]; exact FrzL.pure (by rw [List.all_eq_true]; intro q hq; obtain ⟨t, _, rfl⟩ := List.mem_map.1 hq; rfl))

theorem vals_true {b : Bool} : ∀ r, r = B b → (∃ u, r = .val u) ∨ ∃ us : List Value, r = .agg (us.map .val) := fun r h => .inl ⟨_, h⟩
end Go.Proofs.Ytncjbipnkdlkoaa
namespace Go.Proofs.Ytncjbipnkdlkoaa
set_option linter.unusedSimpArgs false
set_option linter.unusedVariables false
set_option maxRecDepth 10000
open Go.V

/-- In an object nil slices are taken for a slice over an object that is not there yet. -/
theorem virt_at {env : List (Nat × AV)} {H : List VObj} {nx i : Nat} {ob : VObj} {cs' : List AV} (ty sz : Nat) (hsz : sz ≠ 0) (he : ∀ p ∈ env, get env p.1 = p.2) (ho : H[i]? = some ob) (hz : ob.sz ≠ 0) (hl : ob.cs.length = cs'.length)
    (hc : ∀ (j : Nat) x y, ob.cs[j]? = some x → cs'[j]? = some y → x = y ∨ (x = .val (.slice none 0 0) ∧ y = .ref H.length nx 0 0)) : Wk ⟨env, H, nx⟩ ⟨env, H.set i ⟨ob.s, ob.ty, ob.sz, cs'⟩ ++ [⟨nx, ty, sz, []⟩], nx + 1⟩ := by
  refine Wk.virt ty sz hsz (fun p hp => .inl (he p hp)) ⟨H.set i ⟨ob.s, ob.ty, ob.sz, cs'⟩, rfl, by simp, fun j ob' h => ?_⟩ rfl
  rw [List.getElem?_set] at h
  by_cases e : i = j
  · subst e
    rw [if_pos rfl, if_pos (List.getElem?_eq_some_iff.1 ho).1] at h
    cases h
    exact ⟨ob, ho, rfl, rfl, rfl, hl, fun h => absurd h hz, hc⟩
  · rw [if_neg e] at h
    exact ⟨ob', h, rfl, rfl, rfl, rfl, fun _ => rfl, fun _ x y hx hy => .inl (by rw [hx] at hy; exact Option.some.inj hy)⟩
structure RQ where
  b : Nat
  s1 : Nat
  s2 : Nat
  nx : Nat
abbrev lvR (L : LD) (K s0 : Nat) (x : RQ) : List VObj := [⟨s0, 29, 1, [.ref (K + 1) x.s1 0 x.b, .ref (K + 2) x.s2 0 x.b]⟩, ⟨x.s1, 64, 1, (L.inn.take x.b).map bools⟩, ⟨x.s2, 64, 1, (L.out.take x.b).map bools⟩]
theorem rows_snoc {m : List (List Bool)} {b : Nat} (hb : b < m.length) : List.take b ((m.take b).map bools) ++ [bools (m.getD b [])] = (m.take (b + 1)).map bools := by
  rw [List.take_of_length_le (by simp; omega), List.take_add_one, List.map_append]
  simp [List.getD, List.getElem?_eq_getElem hb]
theorem lv_virt (L : LD) (H : List VObj) (nx : Nat) (env : List (Nat × AV)) (he : ∀ p ∈ env, get env p.1 = p.2) : Wk ⟨env, H ++ [⟨nx, 29, 1, [nilv, nilv]⟩], nx + 1⟩ ⟨env, H ++ lvR L H.length nx ⟨0, nx + 1, nx + 1 + 1, nx + 1 + 1 + 1⟩, nx + 1 + 1 + 1⟩ := by
  have h1 := virt_at (env := env) (H := H ++ [⟨nx, 29, 1, [nilv, nilv]⟩]) (nx := nx + 1) (i := H.length) (ob := ⟨nx, 29, 1, [nilv, nilv]⟩) (cs' := [.ref (H.length + 1) (nx + 1) 0 0, nilv]) 64 1 (by decide) he (by rw [app_get0]; rfl) (by simp) rfl (fun j x y hx hy => by
    match j with
    | 0 => simp at hx hy; subst hx; subst hy; exact .inr ⟨rfl, by simp⟩
    | 1 => simp at hx hy; subst hx; subst hy; exact .inl rfl
    | j + 2 => simp at hx)
  rw [app_set0, List.append_assoc] at h1
  have h2 := virt_at (env := env) (H := H ++ [⟨nx, 29, 1, [.ref (H.length + 1) (nx + 1) 0 0, nilv]⟩, ⟨nx + 1, 64, 1, []⟩]) (nx := nx + 1 + 1) (i := H.length) (ob := ⟨nx, 29, 1, [.ref (H.length + 1) (nx + 1) 0 0, nilv]⟩)
    (cs' := [.ref (H.length + 1) (nx + 1) 0 0, .ref (H.length + 2) (nx + 1 + 1) 0 0]) 64 1 (by decide) he (by rw [app_get0]; rfl) (by simp) rfl (fun j x y hx hy => by
    match j with
    | 0 => simp at hx hy; subst hx; subst hy; exact .inl rfl
    | 1 => simp at hx hy; subst hx; subst hy; exact .inr ⟨rfl, by simp⟩
    | j + 2 => simp at hx)
  rw [app_set0, List.append_assoc] at h2
  exact h1.trans h2
end Go.Proofs.Ytncjbipnkdlkoaa
namespace Go.Proofs.Ytncjbipnkdlkoaa
set_option linter.unusedSimpArgs false
set_option linter.unusedVariables false
set_option maxRecDepth 10000
open Go.V

theorem CW.snoc' {n : Nat} {H : List VObj} {nx : Nat} {xs : List AV} {x y : AV} (h : Frz n H nx x y) : CW n H nx (xs ++ [x]) (xs ++ [y]) := by
  refine ⟨by simp, fun i a b h1 h2 => ?_⟩
  rcases Nat.lt_trichotomy i xs.length with hi | hi | hi
  · rw [List.getElem?_append_left hi] at h1 h2
    rw [h1] at h2; exact .inl (Option.some.inj h2)
  · subst hi
    simp at h1 h2; subst h1; subst h2; exact .inr h
  · rw [List.getElem?_append_right (by omega)] at h1
    have : i - xs.length = (i - xs.length - 1) + 1 := by omega
    rw [this] at h1; simp at h1

/-- How many blocks and instructions a function has. -/
def szI (f : BF) (k : Nat) : Int := (f.bks.length : Int) + ((f.bks.take k).map fun b => (b.ins.length : Int)).sum
theorem szI_step (f : BF) {k : Nat} (h : k < f.bks.length) : szI f (k + 1) = szI f k + (f.bks.getD k default).ins.length := by
  unfold szI
  have e : f.bks.take (k + 1) = f.bks.take k ++ [f.bks.getD k default] := by rw [List.take_add_one]; simp [List.getD, List.getElem?_eq_getElem h]
  rw [e]; simp; omega
theorem szI_mono (f : BF) : ∀ {k j : Nat}, k ≤ j → szI f k ≤ szI f j := by
  intro k j h
  induction h with
  | refl => exact Int.le_refl _
  | step h ih =>
    rename_i j
    by_cases hj : j < f.bks.length
    · rw [szI_step f hj]; omega
    · have e : f.bks.take (j + 1) = f.bks.take j := by rw [List.take_of_length_le (by omega), List.take_of_length_le (by omega)]
      unfold szI at ih ⊢
      rw [Nat.succ_eq_add_one, e]
      exact ih
theorem szI_le (f : BF) (hF : BfOk f) : ∀ (k : Nat), k ≤ f.bks.length → szI f k ≤ f.bks.length + (k : Int) * 140737488355328 := by
  intro k
  induction k with
  | zero => intro _; simp [szI]
  | succ k ih =>
    intro hk
    rw [szI_step f (by omega)]
    have := ih (by omega)
    have := (hF.bk _ (mem_getD (show k < f.bks.length by omega))).len
    omega
theorem size_c (f : BF) (hF : BfOk f) (hb : f.bks.length ≤ 1000) : Contract Try.prog 21 [bfA f] (fun r => r = I (szI f f.bks.length)) := by
  refine Contract.of_call (VCall.of_body hmix f_scref24_SizeFunc (by simp) ?_)
  simp only [go_sem,Nat.reduceEqDiff,Nat.reduceAdd,Nat.reduceMul,↓reduceIte,↓dreduceIte,reduceCtorEq,Nat.reduceLeDiff,Nat.reduceLT,Nat.reduceSub,Int.reduceToNat,Int.reduceLE,Int.reduceLT, c_scref24_SizeFunc, one_imm, one_ref, List.length_map]
  refine VW_loop (fun k : Nat => ⟨[(1, .ptr 0 0 0), (3, I (szI f k)), (4, I k)], [⟨0, 24, 1, bfL f⟩], 1⟩) (fun k => k ≤ f.bks.length) (fun k => f.bks.length - k) 0 (Wk.mk (by simp [get_cons, szI]) ⟨[], rfl⟩ (Nat.le_refl _)) (Nat.zero_le _) ?_
  intro k hk
  by_cases hlt : k < f.bks.length
  · have hst := szI_step f hlt
    have h1 := szI_le f hF (k + 1) (by omega)
    have h3 : szI f 0 = f.bks.length := by simp [szI]
    have h4 := szI_mono f (Nat.zero_le k)
    have h2 : 0 ≤ szI f k := by omega
    simp only [go_sem,Nat.reduceEqDiff,Nat.reduceAdd,Nat.reduceMul,↓reduceIte,↓dreduceIte,reduceCtorEq,Nat.reduceLeDiff,Nat.reduceLT,Nat.reduceSub,Int.reduceToNat,Int.reduceLE,Int.reduceLT, one_imm, one_ref, List.length_map, eq_true (show (k : Int) < f.bks.length by omega)]
    repeat ((with_reducible refine And.intro ?_ ?_); · omega)
    rw [i64_in (n := (k : Int) + 1) (by omega) (by omega), i64_in (n := szI f k + _) (by omega) (by omega), ← hst]
    exact ⟨k + 1, by omega, by omega, Wk.mk (by simp [get_cons]) ⟨[], rfl⟩ (Nat.le_refl _)⟩
  · obtain rfl : k = f.bks.length := by omega
    simp only [go_sem,Nat.reduceEqDiff,Nat.reduceAdd,Nat.reduceMul,↓reduceIte,↓dreduceIte,reduceCtorEq,Nat.reduceLeDiff,Nat.reduceLT,Nat.reduceSub,Int.reduceToNat,Int.reduceLE,Int.reduceLT, one_imm, one_ref, List.length_map, eq_false (show ¬ (f.bks.length : Int) < f.bks.length by omega)]
    exact ⟨_, Frz.pure rfl, rfl⟩

def small28B (f : BF) : Bool := decide (f.bks.length ≤ 12) && (decide (f.regs ≤ 20) && (decide (szI f f.bks.length ≤ 120) && oneB f 64 2000))
theorem small28_c (f : BF) (hF : BfOk f) : Contract Try.prog 8 [bfA f] (fun r => r = B (small28B f)) := by
  refine Contract.of_call (VCall.of_body hmix f_sclaw28_small (by simp) ?_)
  by_cases h1 : (f.bks.length : Int) ≤ 12
  · by_cases h2 : f.regs ≤ 20
    · simp only [go_sem,Nat.reduceEqDiff,Nat.reduceAdd,Nat.reduceMul,↓reduceIte,↓dreduceIte,reduceCtorEq,Nat.reduceLeDiff,Nat.reduceLT,Nat.reduceSub,Int.reduceToNat,Int.reduceLE,Int.reduceLT, c_sclaw28_small, one_imm, one_ref, List.length_map, eq_true h1, eq_true h2]
      refine VCall.of_contract (size_c f hF (by omega)) (SleL.pure rfl) fun r hr => ?_
      subst hr
      by_cases h3 : szI f f.bks.length ≤ 120
      · simp only [go_sem,Nat.reduceEqDiff,Nat.reduceAdd,Nat.reduceMul,↓reduceIte,↓dreduceIte,reduceCtorEq,Nat.reduceLeDiff,Nat.reduceLT,Nat.reduceSub,Int.reduceToNat,Int.reduceLE,Int.reduceLT, one_imm, one_ref, eq_true h3]
        refine VCall.of_contract (rone_c f 64 2000 (by decide) hF.len (fun b hb => (hF.bk b hb).len)) (SleL.pure rfl) fun r hr => ?_
        subst hr
        simp only [go_sem,Nat.reduceEqDiff,Nat.reduceAdd,Nat.reduceMul,↓reduceIte,↓dreduceIte,reduceCtorEq,Nat.reduceLeDiff,Nat.reduceLT,Nat.reduceSub,Int.reduceToNat,Int.reduceLE,Int.reduceLT, one_imm, one_ref]
        refine ⟨_, Frz.pure rfl, ?_⟩
        unfold small28B
        rw [decide_eq_true h2, decide_eq_true h3, decide_eq_true (show f.bks.length ≤ 12 by omega)]; rfl
      · simp only [go_sem,Nat.reduceEqDiff,Nat.reduceAdd,Nat.reduceMul,↓reduceIte,↓dreduceIte,reduceCtorEq,Nat.reduceLeDiff,Nat.reduceLT,Nat.reduceSub,Int.reduceToNat,Int.reduceLE,Int.reduceLT, one_imm, one_ref, eq_false h3]
        refine ⟨_, Frz.pure rfl, ?_⟩
        unfold small28B
        rw [decide_eq_false h3]; simp
    · simp only [go_sem,Nat.reduceEqDiff,Nat.reduceAdd,Nat.reduceMul,↓reduceIte,↓dreduceIte,reduceCtorEq,Nat.reduceLeDiff,Nat.reduceLT,Nat.reduceSub,Int.reduceToNat,Int.reduceLE,Int.reduceLT, c_sclaw28_small, one_imm, one_ref, List.length_map, eq_true h1, eq_false h2]
      refine ⟨_, Frz.pure rfl, ?_⟩
      unfold small28B
      rw [decide_eq_false h2]; simp
  · simp only [go_sem,Nat.reduceEqDiff,Nat.reduceAdd,Nat.reduceMul,↓reduceIte,↓dreduceIte,reduceCtorEq,Nat.reduceLeDiff,Nat.reduceLT,Nat.reduceSub,Int.reduceToNat,Int.reduceLE,Int.reduceLT, c_sclaw28_small, one_imm, one_ref, List.length_map, eq_false h1]
    refine ⟨_, Frz.pure rfl, ?_⟩
    unfold small28B
    rw [decide_eq_false (show ¬ f.bks.length ≤ 12 by omega)]; rfl
theorem small28_fine {f : BF} (h : small28B f = true) : Fine f ∧ f.bks.length ≤ 12 ∧ f.regs ≤ 20 ∧ oneB f 64 2000 = true ∧ ∀ b ∈ f.bks, b.ins.length ≤ 120 := by
  unfold small28B at h
  simp only [Bool.and_eq_true, decide_eq_true_eq] at h
  obtain ⟨h1, h2, h3, h4⟩ := h
  have hins : ∀ b ∈ f.bks, b.ins.length ≤ 120 := fun b hb => by
    obtain ⟨k, hk, e⟩ := List.getElem_of_mem hb
    have g1 := szI_step f hk
    have g2 := szI_mono f (Nat.zero_le k)
    have g3 := szI_mono f (show k + 1 ≤ f.bks.length by omega)
    have h0 : szI f 0 = f.bks.length := by simp [szI]
    have : f.bks.getD k default = b := by simp [List.getD, List.getElem?_eq_getElem hk, e]
    rw [this] at g1
    omega
  exact ⟨one_fine h4 (by omega) (fun b hb => by have := hins b hb; omega), h1, h2, h4, hins⟩

/-- That all registers matter everywhere. -/
def everyL (f : BF) : LD := ⟨List.replicate f.n (List.replicate f.r true), List.replicate f.n (List.replicate f.r true)⟩
theorem every_I (f : BF) {b v : Nat} (hb : b < f.n) (hv : v < f.r) : (everyL f).I b v = true := by
  unfold LD.I everyL gB
  simp [List.getD, List.getElem?_replicate, hb, hv]
theorem every_O (f : BF) {b v : Nat} (hb : b < f.n) (hv : v < f.r) : (everyL f).O b v = true := by
  unfold LD.O everyL gB
  simp [List.getD, List.getElem?_replicate, hb, hv]
theorem snocT (n : Nat) : (List.replicate n AV.dead) = List.replicate n AV.dead := rfl
theorem every_closed {f : BF} (hf : Fine f) : ClosedP f (everyL f) := by
  refine ⟨⟨by simp [everyL], by simp [everyL], ?_, ?_⟩, { ahead := fun b hb v hv _ => every_I f hb hv, way := fun b hb t ht v hv _ => every_O f hb hv }⟩
  · intro l hl; simp [everyL] at hl; rw [hl.2]; simp
  · intro l hl; simp [everyL] at hl; rw [hl.2]; simp
theorem every_take (f : BF) {b : Nat} (hb : b < f.n) : List.take b ((List.replicate f.n (List.replicate f.r true)).take b |>.map bools) ++ [bools (List.replicate f.r true)] = ((List.replicate f.n (List.replicate f.r true)).take (b + 1)).map bools := by
  rw [← rows_snoc (by simpa using hb)]
  congr 3
  simp [List.getD, List.getElem?_replicate, hb]
structure VQ where
  v : Nat
  s : Nat
  nx : Nat
end Go.Proofs.Ytncjbipnkdlkoaa
namespace Go.Proofs.Ytncjbipnkdlkoaa
set_option linter.unusedSimpArgs false
set_option linter.unusedVariables false
set_option maxRecDepth 10000
open Go.V

set_option maxHeartbeats 4000000 in
theorem every_c (f : BF) (hf : Fine f) : Contract Try.prog 11 [bfA f] (fun r => r = liveA (everyL f)) := by
  refine Contract.of_call (VCall.of_body hmix f_sclaw28_every (by simp) ?_)
  have hmx : (2000000 : Nat) ≤ maxLen := by decide
  have hr0 := hf.r0
  have hr4 : f.r ≤ 4000 := by have := hf.r1; unfold BF.r; omega
  have hregs : f.regs = (f.r : Int) := by unfold BF.r; omega
  have hn5 : f.n ≤ 500 := hf.b1
  have hnl : (f.bks.length : Int) = f.n := rfl
  simp only [go_sem,Nat.reduceEqDiff,Nat.reduceAdd,Nat.reduceMul,↓reduceIte,↓dreduceIte,reduceCtorEq,Nat.reduceLeDiff,Nat.reduceLT,Nat.reduceSub,Int.reduceToNat,Int.reduceLE,Int.reduceLT, c_sclaw28_every, one_imm, one_ref, List.length_map]
  refine VW_loop (fun x : RQ => ⟨[(1, .ptr 0 0 0), (2, .ptr 1 1 0), (3, .ptr 2 2 0), (4, I x.b)], [⟨0, 24, 1, bfL f⟩, ⟨1, 29, 1, [nilv, nilv]⟩] ++ lvR (everyL f) 2 2 x, x.nx⟩) (fun x => x.b ≤ f.n) (fun x => f.n - x.b) ⟨0, 3, 4, 5⟩ ?_ (Nat.zero_le _) ?_
  · have w := lv_virt (everyL f) [⟨0, 24, 1, bfL f⟩, ⟨1, 29, 1, [nilv, nilv]⟩] 2 [(1, .ptr 0 0 0), (2, .ptr 1 1 0), (3, .ptr 2 2 0), (4, I ((0 : Nat) : Int))] (by simp [get_cons])
    refine Wk.trans ?_ w
    exact Wk.mk (by simp [get_cons]) ⟨[], by simp⟩ (Nat.le_refl _)
  rintro ⟨b, s1, s2, nx⟩ hb
  simp only at hb
  by_cases hlt : b < f.n
  · simp only [go_sem,Nat.reduceEqDiff,Nat.reduceAdd,Nat.reduceMul,↓reduceIte,↓dreduceIte,reduceCtorEq,Nat.reduceLeDiff,Nat.reduceLT,Nat.reduceSub,Int.reduceToNat,Int.reduceLE,Int.reduceLT, lvR, one_imm, one_ref, List.length_map, hnl, List.cons_append, List.nil_append, eq_true (show (b : Int) < f.n by omega)]
    refine VW_loop (fun q : VQ => ⟨[(1, .ptr 0 0 0), (2, .ptr 1 1 0), (3, .ptr 2 2 0), (4, I b), (5, .ref 5 q.s 0 q.v), (6, I q.v)], [⟨0, 24, 1, bfL f⟩, ⟨1, 29, 1, [nilv, nilv]⟩] ++ lvR (everyL f) 2 2 ⟨b, s1, s2, nx⟩ ++ [⟨q.s, 4, 1, (List.replicate q.v true).map B⟩], q.nx⟩) (fun q => q.v ≤ f.r) (fun q => f.r - q.v) ⟨0, nx, nx + 1⟩
      (Wk.virt 4 1 (by decide) (by simp [get_cons]) ⟨_, rfl, by simp, fun j ob' ho => ⟨ob', ho, rfl, rfl, rfl, rfl, fun _ => rfl, fun i x y hx hy => .inl (by rw [hx] at hy; exact Option.some.inj hy)⟩⟩ rfl) (Nat.zero_le _) ?_
    rintro ⟨v, s, nx2⟩ hv
    simp only at hv
    by_cases hvr : v < f.r
    · simp only [go_sem,Nat.reduceEqDiff,Nat.reduceAdd,Nat.reduceMul,↓reduceIte,↓dreduceIte,reduceCtorEq,Nat.reduceLeDiff,Nat.reduceLT,Nat.reduceSub,Int.reduceToNat,Int.reduceLE,Int.reduceLT, lvR, one_imm, one_ref, List.length_map, hregs, List.cons_append, List.nil_append, eq_true (show (v : Int) < f.r by omega)]
      repeat ((with_reducible refine And.intro ?_ ?_); · first | omega | (simp; omega))
      rw [i64_in (by omega) (by omega)]
      have e : List.take v (List.map B (List.replicate v true)) ++ [AV.val (.bool true)] = (List.replicate (v + 1) true).map B := by
        rw [List.take_of_length_le (by simp), List.replicate_succ', List.map_append]; rfl
      rw [e]
      exact ⟨⟨v + 1, nx2 + 1, nx2 + 1 + 1⟩, by simp only; omega, by simp only; omega, Wk.mk (by simp [get_cons]) ⟨[_], rfl⟩ (Nat.le_refl _)⟩
    · obtain rfl : v = f.r := by omega
      simp only [go_sem,Nat.reduceEqDiff,Nat.reduceAdd,Nat.reduceMul,↓reduceIte,↓dreduceIte,reduceCtorEq,Nat.reduceLeDiff,Nat.reduceLT,Nat.reduceSub,Int.reduceToNat,Int.reduceLE,Int.reduceLT, lvR, one_imm, one_ref, List.length_map, hregs, List.cons_append, List.nil_append, eq_false (show ¬ (f.r : Int) < f.r by omega)]
      rw [i64_in (n := (b : Int) + 1) (by omega) (by omega)]
      have hi : ∀ {n : Nat} {H : List VObj} {nx : Nat}, n ≤ 5 → H[5]? = some ⟨s, 4, 1, (List.replicate f.r true).map B⟩ → CW n H nx (List.take b (List.map bools (List.take b (everyL f).inn)) ++ [AV.ref 5 s 0 f.r]) (List.map bools (List.take (b + 1) (everyL f).inn)) := fun h1 h2 => by
        have e := every_take f hlt
        unfold everyL
        rw [← e]
        exact CW.snoc' (frz_bools h1 h2 (by simp))
      have ho : ∀ {n : Nat} {H : List VObj} {nx : Nat}, n ≤ 5 → H[5]? = some ⟨s, 4, 1, (List.replicate f.r true).map B⟩ → CW n H nx (List.take b (List.map bools (List.take b (everyL f).out)) ++ [AV.ref 5 s 0 f.r]) (List.map bools (List.take (b + 1) (everyL f).out)) := hi
      repeat' (with_reducible apply And.intro)
      all_goals first | omega | skip
      all_goals
        exact ⟨⟨b + 1, _, _, _⟩, by simp only; omega, by simp only; omega, Wk.give (by simp [get_cons]) ⟨rfl, rfl, rfl, fun _ => rfl, CW.refl _, rfl, rfl, rfl, fun _ => rfl, CW.refl _, rfl, rfl, rfl, fun _ => rfl, CW.refl _, rfl, rfl, rfl, (fun h => absurd h (Nat.succ_ne_zero 0)), hi (Nat.le_refl _) rfl, rfl, rfl, rfl, (fun h => absurd h (Nat.succ_ne_zero 0)), ho (Nat.le_refl _) rfl, trivial⟩ (Nat.le_refl _)⟩
  · obtain rfl : b = f.n := by omega
    have tk1 : (everyL f).inn.take f.n = (everyL f).inn := List.take_of_length_le (by simp [everyL])
    have tk2 : (everyL f).out.take f.n = (everyL f).out := List.take_of_length_le (by simp [everyL])
    simp only [go_sem,Nat.reduceEqDiff,Nat.reduceAdd,Nat.reduceMul,↓reduceIte,↓dreduceIte,reduceCtorEq,Nat.reduceLeDiff,Nat.reduceLT,Nat.reduceSub,Int.reduceToNat,Int.reduceLE,Int.reduceLT, lvR, one_imm, one_ref, List.length_map, hnl, List.cons_append, List.nil_append, eq_false (show ¬ (f.n : Int) < f.n by omega), tk1, tk2]
    exact ⟨_, Frz.agg ⟨_, _, rfl, rows_frz (m := (everyL f).inn) (Nat.zero_le _) rfl (by simp [everyL]), _, _, rfl, rows_frz (m := (everyL f).out) (Nat.zero_le _) rfl (by simp [everyL]), rfl⟩, rfl⟩
end Go.Proofs.Ytncjbipnkdlkoaa
namespace Go.Proofs.Ytncjbipnkdlkoaa
set_option linter.unusedSimpArgs false
set_option linter.unusedVariables false
open Go.V

/-- A pass in the midst: the rows, and whether any was added to. -/
structure PV where
  I : List (List Bool)
  O : List (List Bool)
  m : Bool
def inOf (f : BF) (I O : List (List Bool)) (b : Nat) : List Bool := aheadL (f.bk b) (newO f I O b)
def stepR (f : BF) (p : PV) (b : Nat) : PV := ⟨p.I.set b (orL (p.I.getD b []) (inOf f p.I p.O b)), p.O.set b (newO f p.I p.O b), p.m || decide (orL (p.I.getD b []) (inOf f p.I p.O b) ≠ p.I.getD b [])⟩
def passR (f : BF) (I O : List (List Bool)) : Nat → PV
  | 0 => ⟨I, O, false⟩
  | c + 1 => stepR f (passR f I O c) (f.n - 1 - c)

structure RInv (f : BF) (I O : List (List Bool)) : Prop where
  sz : SizedP f ⟨I, O⟩
  un : Under f ⟨I, O⟩
section
variable {f : BF}
theorem RInv.olen (hf : Fine f) {I O : List (List Bool)} (h : RInv f I O) {b : Nat} (hb : b < f.n) : (newO f I O b).length = f.r := newO_len (σ := ⟨I, O, []⟩) hf h.sz hb
theorem RInv.alen (hf : Fine f) {I O : List (List Bool)} (h : RInv f I O) {b : Nat} (hb : b < f.n) : (inOf f I O b).length = f.r := by unfold inOf; rw [aheadL_len, h.olen hf hb]
theorem RInv.step (hf : Fine f) {p : PV} (h : RInv f p.I p.O) {b : Nat} (hb : b < f.n) : RInv f (stepR f p b).I (stepR f p b).O := by
  have hbO : b < p.O.length := by rw [show p.O.length = f.n from h.sz.o]; exact hb
  have hil : (p.I.getD b []).length = f.r := h.sz.il hb
  have hs1 := h.sz.setO (b := b) (h.olen hf hb)
  refine ⟨hs1.setI (by rw [orL_len, hil]), under_in hf hs1 (under_out hf h.sz h.un hb) hb fun v hv e => ?_⟩
  rw [gB_or _ _ (by rw [hil]; exact hv), Bool.or_eq_true] at e
  rcases e with e | e
  · exact .inl e
  · refine .inr ?_
    rw [row_set hbO, if_pos rfl]
    exact e
theorem RInv.pass (hf : Fine f) {I O : List (List Bool)} (h : RInv f I O) : ∀ c, c ≤ f.n → RInv f (passR f I O c).I (passR f I O c).O
  | 0, _ => h
  | c + 1, hc => RInv.step hf (RInv.pass hf h c (by omega)) (by omega)
theorem or_self_ge {a b : List Bool} {v : Nat} (hv : v < a.length) (e : orL a b = a) (h : gB b v = true) : gB a v = true := by
  rw [← e, gB_or _ _ hv, h, Bool.or_true]

theorem pass_mono (hf : Fine f) {I O : List (List Bool)} (h : RInv f I O) : ∀ c, c ≤ f.n → unset (passR f I O c).I ≤ unset I ∧ ((passR f I O c).m = true → unset (passR f I O c).I < unset I)
  | 0, _ => ⟨Nat.le_refl _, fun e => by simp [passR] at e⟩
  | c + 1, hc => by
    obtain ⟨h1, h2⟩ := pass_mono hf h c (by omega)
    have hI := h.pass hf c (by omega)
    have hb : f.n - 1 - c < f.n := by omega
    have hu := unset_set (m := (passR f I O c).I) (b := f.n - 1 - c) (l := orL ((passR f I O c).I.getD (f.n - 1 - c) []) (inOf f (passR f I O c).I (passR f I O c).O (f.n - 1 - c)))
      (by rw [show (passR f I O c).I.length = f.n from hI.sz.i]; exact hb) (by rw [orL_len]) fun v e => by rw [gB_or _ _ (gB_le e), e]; rfl
    refine ⟨Nat.le_trans hu.1 h1, fun e => ?_⟩
    have e' : ((passR f I O c).m || decide (orL ((passR f I O c).I.getD (f.n - 1 - c) []) (inOf f (passR f I O c).I (passR f I O c).O (f.n - 1 - c)) ≠ (passR f I O c).I.getD (f.n - 1 - c) [])) = true := e
    rw [Bool.or_eq_true, decide_eq_true_eq] at e'
    rcases e' with e' | e'
    · exact Nat.lt_of_le_of_lt hu.1 (h2 e')
    · exact Nat.lt_of_lt_of_le (hu.2 (fun g => e' g.symm)) h1

/-- A pass that adds nothing. -/
theorem pass_still (hf : Fine f) {I O : List (List Bool)} (h : RInv f I O) : ∀ c, c ≤ f.n → (passR f I O c).m = false → (passR f I O c).I = I ∧
    ∀ b < f.n, f.n - c ≤ b → (∀ k ∈ nxt (f.bk b), ∀ v < f.r, gB (I.getD k.toNat []) v = true → gB ((passR f I O c).O.getD b []) v = true) ∧ ∀ v < f.r, gB (aheadL (f.bk b) ((passR f I O c).O.getD b [])) v = true → gB (I.getD b []) v = true
  | 0, _, _ => ⟨rfl, fun b hb h => by omega⟩
  | c + 1, hc, hm => by
    have hm' : ((passR f I O c).m || decide (orL ((passR f I O c).I.getD (f.n - 1 - c) []) (inOf f (passR f I O c).I (passR f I O c).O (f.n - 1 - c)) ≠ (passR f I O c).I.getD (f.n - 1 - c) [])) = false := hm
    rw [Bool.or_eq_false_iff, decide_eq_false_iff_not] at hm'
    obtain ⟨h1, h2⟩ := pass_still hf h c (by omega) hm'.1
    have hI := h.pass hf c (by omega)
    have hsame : orL ((passR f I O c).I.getD (f.n - 1 - c) []) (inOf f (passR f I O c).I (passR f I O c).O (f.n - 1 - c)) = (passR f I O c).I.getD (f.n - 1 - c) [] := Classical.not_not.1 hm'.2
    have hb : f.n - 1 - c < f.n := by omega
    have hOl : f.n - 1 - c < (passR f I O c).O.length := by rw [show (passR f I O c).O.length = f.n from hI.sz.o]; exact hb
    have hIl : f.n - 1 - c < (passR f I O c).I.length := by rw [show (passR f I O c).I.length = f.n from hI.sz.i]; exact hb
    have hset : (passR f I O (c + 1)).I = I := by
      show (passR f I O c).I.set (f.n - 1 - c) _ = I
      rw [hsame, h1]
      rw [h1] at hIl
      have : I.getD (f.n - 1 - c) [] = I[f.n - 1 - c] := by simp [List.getD, List.getElem?_eq_getElem hIl]
      rw [this, List.set_getElem_self]
    refine ⟨hset, fun b hb' hlo => ?_⟩
    have hO : (passR f I O (c + 1)).O.getD b [] = if f.n - 1 - c = b then newO f (passR f I O c).I (passR f I O c).O (f.n - 1 - c) else (passR f I O c).O.getD b [] := row_set hOl
    rw [hO]
    by_cases e : f.n - 1 - c = b
    · subst e
      rw [if_pos rfl]
      refine ⟨fun k hk v hv g => ?_, fun v hv g => ?_⟩
      · refine newO_way (σ := ⟨(passR f I O c).I, (passR f I O c).O, []⟩) hf hI.sz hb hk hv ?_
        rw [h1]; exact g
      · rw [← h1]
        exact or_self_ge (by rw [show ((passR f I O c).I.getD (f.n - 1 - c) []).length = f.r from hI.sz.il hb]; exact hv) hsame g
    · rw [if_neg e]
      exact h2 b hb' (by omega)

theorem pass_least (hf : Fine f) {I O : List (List Bool)} (h : RInv f I O) (hm : (passR f I O f.n).m = false) : Least f ⟨(passR f I O f.n).I, (passR f I O f.n).O⟩ := by
  have hI := h.pass hf f.n (Nat.le_refl _)
  obtain ⟨h1, h2⟩ := pass_still hf h f.n (Nat.le_refl _) hm
  refine ⟨⟨hI.sz, ⟨fun b hb k hk v hv e => ?_, fun b hb v hv e => ?_⟩⟩, hI.un⟩
  · have e' : gB ((passR f I O f.n).I.getD k.toNat []) v = true := e
    rw [h1] at e'
    exact (h2 b hb (by omega)).1 k hk v hv e'
  · show gB ((passR f I O f.n).I.getD b []) v = true
    rw [h1]
    refine (h2 b hb (by omega)).2 v hv ?_
    rw [gB_ahead hf hb ((passR f I O f.n).O.getD b []) (hI.sz.ol hb) hv]
    exact e
theorem begin_r (f : BF) : RInv f (beginS f).I (beginS f).O := ⟨(begin_inv f).sz, (begin_inv f).un⟩
end
end Go.Proofs.Ytncjbipnkdlkoaa
namespace Go.Proofs.Ytncjbipnkdlkoaa
set_option linter.unusedSimpArgs false
set_option linter.unusedVariables false
set_option maxRecDepth 10000
open Go.V

/-- A table in memory: so many rows of so many. -/
structure MT (n r : Nat) (H : List VObj) (k s : Nat) (g : Nat → Nat × Nat) (m : List (List Bool)) : Prop where
  l : H[k]? = some ⟨s, 64, 1, (List.range n).map fun b => .ref (g b).1 (g b).2 0 r⟩
  r : ∀ b < n, H[(g b).1]? = some ⟨(g b).2, 4, 1, (m.getD b []).map B⟩
  d : ∀ b < n, ∀ c < n, (g b).1 = (g c).1 → b = c
theorem MT.app {n r : Nat} {H : List VObj} {k s : Nat} {g : Nat → Nat × Nat} {m : List (List Bool)} (h : MT n r H k s g m) (R : List VObj) : MT n r (H ++ R) k s g m :=
  ⟨app_old h.l R, fun b hb => app_old (h.r b hb) R, h.d⟩
theorem cellT_row {n r b : Nat} {g : Nat → Nat × Nat} {C : AV → Prop} : cellT ((List.range n).map fun b => AV.ref (g b).1 (g b).2 0 r) b false 1 C .mk = (b < n ∧ C (.ref (g b).1 (g b).2 0 r)) := by
  rw [cellT_map (fun _ => rfl)]
  apply propext
  rw [List.length_range]
  refine ⟨fun ⟨h1, h2⟩ => ⟨h1, ?_⟩, fun ⟨h1, h2⟩ => ⟨h1, ?_⟩⟩
  · rw [range_get h1] at h2; exact h2
  · rw [range_get h1]; exact h2

structure NQ where
  i : Nat
  s : Nat
  T : List VObj
  g : Nat → Nat × Nat
  nx : Nat
theorem none_v (n r : Nat) (hn : n ≤ 500) (hr : r ≤ 4000) (H : List VObj) (nx : Nat) (C : AV → List VObj → Nat → Prop)
    (hC : ∀ s g R nx', MT n r (H ++ R) H.length s g (List.replicate n (List.replicate r false)) → (∀ b < n, H.length < (g b).1) → C (.ref H.length s 0 n) (H ++ R) nx') :
    VCall Try.prog 22 [I n, I r] H nx C := by
  refine VCall.of_body hmix f_scref27_none (by simp) ?_
  have hmx : (200000 : Nat) ≤ maxLen := by decide
  simp only [go_sem,Nat.reduceEqDiff,Nat.reduceAdd,Nat.reduceMul,↓reduceIte,↓dreduceIte,reduceCtorEq,Nat.reduceLeDiff,Nat.reduceLT,Nat.reduceSub,Int.reduceToNat,Int.reduceLE,Int.reduceLT, c_scref27_none, one_imm, one_ref]
  refine VW_loop (fun x : NQ => ⟨[(0, I n), (1, I r), (5, .ref H.length x.s 0 x.i), (6, I x.i)], H ++ ⟨x.s, 64, 1, (List.range x.i).map fun b => .ref (x.g b).1 (x.g b).2 0 r⟩ :: x.T, x.nx⟩)
    (fun x => x.i ≤ n ∧ (∀ b < x.i, H.length < (x.g b).1 ∧ (H ++ ⟨x.s, 64, 1, (List.range x.i).map fun b => .ref (x.g b).1 (x.g b).2 0 r⟩ :: x.T)[(x.g b).1]? = some ⟨(x.g b).2, 4, 1, (List.replicate r false).map B⟩) ∧
      ∀ b < x.i, ∀ c < x.i, (x.g b).1 = (x.g c).1 → b = c) (fun x => n - x.i) ⟨0, nx, [], fun _ => (0, 0), nx + 1⟩
    (Wk.virt 64 1 (by decide) (by simp [get_cons]) ⟨H, by simp, rfl, fun j ob' ho => ⟨ob', ho, rfl, rfl, rfl, rfl, fun _ => rfl, fun i x y hx hy => .inl (by rw [hx] at hy; exact Option.some.inj hy)⟩⟩ rfl)
    ⟨by simp, by simp, by simp⟩ ?_
  rintro ⟨i, s, T, g, nx⟩ ⟨hi, hg, hd⟩
  simp only at hi hg hd
  by_cases hlt : i < n
  · simp only [go_sem,Nat.reduceEqDiff,Nat.reduceAdd,Nat.reduceMul,↓reduceIte,↓dreduceIte,reduceCtorEq,Nat.reduceLeDiff,Nat.reduceLT,Nat.reduceSub,Int.reduceToNat,Int.reduceLE,Int.reduceLT, one_imm, one_ref, rep_B, eq_true (show (i : Int) < n by omega), app_get, app_get0, app_set0, List.append_assoc, List.length_append]
    repeat ((with_reducible refine And.intro ?_ ?_); · first | omega | exact ⟨rfl, rfl, rfl⟩)
    rw [i64_in (by omega) (by omega)]
    have hle : ((List.range i).map fun b => AV.ref (g b).1 (g b).2 0 r).length = i := by simp
    refine ⟨⟨i + 1, nx + 1 + 1, T ++ [⟨nx, 4, 1, (List.replicate r false).map B⟩, ⟨nx + 1, 64, 1, [.ref (H.length + (T.length + 1)) nx 0 r]⟩], fun b => if b = i then (H.length + (T.length + 1), nx) else g b, nx + 1 + 1 + 1⟩, ⟨by simp only; omega, fun b hb => ?_, fun b hb c hc e => ?_⟩, by simp only; omega, Wk.mk (by simp [get_cons]) ⟨[], ?_⟩ (Nat.le_refl _)⟩
    · simp only at hb ⊢
      by_cases e : b = i
      · subst e
        rw [if_pos rfl]
        refine ⟨by omega, ?_⟩
        simp only [app_get, List.getElem?_cons_succ, app_get0, List.getElem?_cons_zero]
      · rw [if_neg e]
        have hb' := hg b (by omega)
        refine ⟨hb'.1, ?_⟩
        have h2 := hb'.2
        obtain ⟨j, hj⟩ : ∃ j, (g b).1 = H.length + (j + 1) := ⟨(g b).1 - H.length - 1, by have := hb'.1; omega⟩
        rw [hj, app_get, List.getElem?_cons_succ] at h2 ⊢
        exact app_old h2 _
    · simp only at hb hc e
      by_cases e1 : b = i
      · by_cases e2 : c = i
        · rw [e1, e2]
        · rw [if_pos e1, if_neg e2] at e
          obtain ⟨h1, h2⟩ := hg c (by omega)
          have := (List.getElem?_eq_some_iff.1 h2).1
          simp at this; omega
      · by_cases e2 : c = i
        · rw [if_neg e1, if_pos e2] at e
          obtain ⟨h1, h2⟩ := hg b (by omega)
          have := (List.getElem?_eq_some_iff.1 h2).1
          simp at this; omega
        · rw [if_neg e1, if_neg e2] at e
          exact hd b (by omega) c (by omega) e
    · rw [List.append_nil]
      have key : ((List.range i).map fun b => AV.ref (g b).1 (g b).2 0 r).take i ++ [AV.ref (H.length + (T.length + 1)) nx 0 r] =
          (List.range (i + 1)).map fun b => AV.ref (if b = i then (H.length + (T.length + 1), nx) else g b).1 (if b = i then (H.length + (T.length + 1), nx) else g b).2 0 r := by
        rw [List.take_of_length_le (by rw [hle]; omega), List.range_succ, List.map_append]
        congr 1
        · refine List.map_congr_left fun b hb => ?_
          have : b ≠ i := by have := List.mem_range.1 hb; omega
          rw [if_neg this]
        · simp
      exact congrArg (fun c => H ++ VObj.mk (nx + 1 + 1) 64 1 c :: (T ++ [⟨nx, 4, 1, (List.replicate r false).map B⟩, ⟨nx + 1, 64, 1, [.ref (H.length + (T.length + 1)) nx 0 r]⟩])) key
  · obtain rfl : i = n := by omega
    simp only [go_sem,Nat.reduceEqDiff,Nat.reduceAdd,Nat.reduceMul,↓reduceIte,↓dreduceIte,reduceCtorEq,Nat.reduceLeDiff,Nat.reduceLT,Nat.reduceSub,Int.reduceToNat,Int.reduceLE,Int.reduceLT, eq_false (show ¬ (i : Int) < i by omega)]
    refine hC s g _ nx ⟨by rw [app_get0]; rfl, fun b hb => ?_, hd⟩ fun b hb => (hg b hb).1
    rw [(hg b hb).2, List.getD, List.getElem?_replicate, if_pos hb]
    rfl
end Go.Proofs.Ytncjbipnkdlkoaa
namespace Go.Proofs.Ytncjbipnkdlkoaa
set_option linter.unusedSimpArgs false
set_option linter.unusedVariables false
set_option maxRecDepth 10000
open Go.V

def orP (x y : List Bool) (k : Nat) : List Bool := (List.range x.length).map fun i => if i < k then gB x i || gB y i else gB x i
theorem orP_len (x y : List Bool) (k : Nat) : (orP x y k).length = x.length := by simp [orP]
theorem gB_orP (x y : List Bool) (k : Nat) {i : Nat} (hi : i < x.length) : gB (orP x y k) i = if i < k then gB x i || gB y i else gB x i := by
  unfold orP; rw [gB, List.getD]; simp [hi]
theorem orP_zero (x y : List Bool) : orP x y 0 = x := gB_ext (orP_len _ _ _) fun v hv => by
  rw [orP_len] at hv; rw [gB_orP _ _ _ hv, if_neg (by omega)]
theorem orP_all (x y : List Bool) {k : Nat} (hk : x.length ≤ k) : orP x y k = orL x y := gB_ext (by rw [orP_len, orL_len]) fun v hv => by
  rw [orP_len] at hv; rw [gB_orP _ _ _ hv, if_pos (by omega), gB_or _ _ hv]
theorem orP_set (x y : List Bool) {k : Nat} (hk : k < x.length) {w : Bool} (hw : w = (gB x k || gB y k)) : (orP x y k).set k w = orP x y (k + 1) := gB_ext (by simp [orP]) fun v hv => by
  have hv' : v < x.length := by simpa [orP] using hv
  rw [gB_set _ _ _ _ (by rw [orP_len]; exact hv'), gB_orP _ _ _ hv', gB_orP _ _ _ hv']
  by_cases e : k = v
  · subst e; rw [if_pos rfl, if_pos (by omega)]; exact hw
  · rw [if_neg e]
    by_cases h : v < k
    · rw [if_pos h, if_pos (by omega)]
    · rw [if_neg h, if_neg (by omega)]
theorem orP_skip (x y : List Bool) {k : Nat} (hk : k < x.length) (hw : gB x k = (gB x k || gB y k)) : orP x y k = orP x y (k + 1) := by
  rw [← orP_set x y hk hw]
  exact gB_ext (by simp) fun v hv => by
    have hv' : v < x.length := by rw [orP_len] at hv; exact hv
    rw [gB_set _ _ _ _ hv]
    by_cases e : k = v
    · subst e; rw [if_pos rfl, gB_orP _ _ _ hv', if_neg (by omega)]
    · rw [if_neg e]

def moreP (x a : List Bool) (k : Nat) : Bool := (List.range k).any fun i => gB a i && !gB x i
theorem moreP_step (x a : List Bool) (k : Nat) : moreP x a (k + 1) = (moreP x a k || (gB a k && !gB x k)) := by
  unfold moreP; rw [List.range_succ, List.any_append]; simp
theorem moreP_all (x a : List Bool) : moreP x a x.length = decide (orL x a ≠ x) := by
  rw [Bool.eq_iff_iff, decide_eq_true_iff]
  unfold moreP
  rw [List.any_eq_true]
  constructor
  · rintro ⟨i, hi, h⟩ e
    have hi := List.mem_range.1 hi
    have h3 := gB_or x a hi
    rw [e] at h3
    rw [Bool.and_eq_true, Bool.not_eq_true'] at h
    rw [h.1, h.2] at h3
    cases h3
  · intro h
    refine Classical.byContradiction fun hn => h (gB_ext (orL_len _ _) fun v hv => ?_)
    rw [orL_len] at hv
    rw [gB_or _ _ hv]
    cases h1 : gB x v
    · cases h2 : gB a v
      · rfl
      · exact absurd ⟨v, List.mem_range.2 hv, by rw [h1, h2]; rfl⟩ hn
    · rfl
structure RK where
  kl : Nat
  sl : Nat
  k1 : Nat
  s1 : Nat
  k2 : Nat
  s2 : Nat
  g1 : Nat → Nat × Nat
  g2 : Nat → Nat × Nat
structure RS (f : BF) (H : List VObj) (q : RK) (I O : List (List Bool)) : Prop where
  fb : H[0]? = some ⟨0, 24, 1, bfL f⟩
  rl : H[1]? = some ⟨1, 29, 1, [nilv, nilv]⟩
  lv : H[q.kl]? = some ⟨q.sl, 29, 1, [.ref q.k1 q.s1 0 f.n, .ref q.k2 q.s2 0 f.n]⟩
  mi : MT f.n f.r H q.k1 q.s1 q.g1 I
  mo : MT f.n f.r H q.k2 q.s2 q.g2 O
  dio : ∀ b < f.n, ∀ c < f.n, (q.g1 b).1 ≠ (q.g2 c).1
section
variable {f : BF} {H : List VObj} {q : RK} {I O : List (List Bool)}
theorem RS.app (h : RS f H q I O) (R : List VObj) : RS f (H ++ R) q I O := ⟨app_old h.fb R, app_old h.rl R, app_old h.lv R, h.mi.app R, h.mo.app R, h.dio⟩
theorem RS.setO (h : RS f H q I O) (hl : O.length = f.n) {b : Nat} (hb : b < f.n) (l : List Bool) : RS f (H.set (q.g2 b).1 ⟨(q.g2 b).2, 4, 1, l.map B⟩) q I (O.set b l) := by
  have k : KeepT [4] H (H.set (q.g2 b).1 ⟨(q.g2 b).2, 4, 1, l.map B⟩) := KeepT.set (h.mo.r b hb) (by simp)
  have hO : b < O.length := by omega
  refine ⟨k _ _ h.fb (by simp), k _ _ h.rl (by simp), k _ _ h.lv (by simp), ⟨k _ _ h.mi.l (by simp), fun c hc => ?_, h.mi.d⟩, ⟨k _ _ h.mo.l (by simp), fun c hc => ?_, h.mo.d⟩, h.dio⟩
  · rw [set_ne (fun e => h.dio c hc b hb e.symm)]; exact h.mi.r c hc
  · rw [row_set hO]
    by_cases e : b = c
    · subst e; rw [if_pos rfl]; exact set_get (h.mo.r b hb)
    · rw [if_neg e, set_ne (fun g => e (h.mo.d b hb c hc g))]; exact h.mo.r c hc
theorem RS.setI (h : RS f H q I O) (hl : I.length = f.n) {b : Nat} (hb : b < f.n) (l : List Bool) : RS f (H.set (q.g1 b).1 ⟨(q.g1 b).2, 4, 1, l.map B⟩) q (I.set b l) O := by
  have k : KeepT [4] H (H.set (q.g1 b).1 ⟨(q.g1 b).2, 4, 1, l.map B⟩) := KeepT.set (h.mi.r b hb) (by simp)
  have hI : b < I.length := by omega
  refine ⟨k _ _ h.fb (by simp), k _ _ h.rl (by simp), k _ _ h.lv (by simp), ⟨k _ _ h.mi.l (by simp), fun c hc => ?_, h.mi.d⟩, ⟨k _ _ h.mo.l (by simp), fun c hc => ?_, h.mo.d⟩, h.dio⟩
  · rw [row_set hI]
    by_cases e : b = c
    · subst e; rw [if_pos rfl]; exact set_get (h.mi.r b hb)
    · rw [if_neg e, set_ne (fun g => e (h.mi.d b hb c hc g))]; exact h.mi.r c hc
  · rw [set_ne (fun e => h.dio b hb c hc e)]; exact h.mo.r c hc
end

theorem MT.keep {n r : Nat} {H H' : List VObj} {k s : Nat} {g : Nat → Nat × Nat} {m : List (List Bool)} {ts : List Nat} (h : MT n r H k s g m) (kp : KeepT ts H H') (h1 : 64 ∉ ts) (h2 : 4 ∉ ts) : MT n r H' k s g m :=
  ⟨kp _ _ h.l h1, fun b hb => kp _ _ (h.r b hb) h2, h.d⟩
theorem MT.frz {n r : Nat} {H : List VObj} {k s nx : Nat} {g : Nat → Nat × Nat} {m : List (List Bool)} (h : MT n r H k s g m) (hm : m.length = n) (hr : ∀ l ∈ m, l.length = r) : Frz 0 H nx (.ref k s 0 n) (rowsA m) := by
  refine frz_whole (Nat.zero_le _) h.l (by simp [hm]) (by simp [hm]) (by simp [AV.one]) fun i x y hx hy => ?_
  have hi : i < n := by have := (List.getElem?_eq_some_iff.1 hx).1; simpa using this
  simp only [List.getElem?_map, List.getElem?_range hi, Option.map_some, Option.some.injEq] at hx
  rw [List.getElem?_map, List.getElem?_eq_getElem (show i < m.length by omega), Option.map_some, Option.some.injEq] at hy
  subst hx; subst hy
  have e : m.getD i [] = m[i] := by simp [List.getD, List.getElem?_eq_getElem (show i < m.length by omega)]
  have ho := h.r i hi
  rw [e] at ho
  exact frz_bools (Nat.zero_le _) ho (hr _ (List.getElem_mem _)).symm
structure MQ where
  H : List VObj
  I : List (List Bool)
  O : List (List Bool)
  m : Bool
  nx : Nat
structure CMQ where
  c : Nat
  H : List VObj
  nx : Nat
def _root_.Go.V.VC.tl : VC → VC
  | .seq _ y => y
  | x => x
theorem rof_tail (f : BF) (hf : Fine f) (L : LD) (hL : Least f L) (env : List (Nat × AV)) (H : List VObj) (nx : Nat) (q : RK) (he1 : get env 1 = .ptr 0 0 0) (he2 : get env 2 = .ptr 1 1 0) (he3 : get env 3 = I f.n) (he4 : get env 4 = .ptr q.kl q.sl 0)
    (hRS : RS f H q (beginS f).I (beginS f).O) : VW Try.prog c_scref27_Of.tl.tl.tl (retQ Try.prog [VR.cell 2 true 2] fun r H nx => ∃ y, Frz 0 H nx r y ∧ y = liveA L) ⟨env, H, nx⟩ := by
  have hr0 := hf.r0
  have hr4 : f.r ≤ 4000 := by have := hf.r1; unfold BF.r; omega
  have hregs : f.regs = (f.r : Int) := by unfold BF.r; omega
  have hn5 : f.n ≤ 500 := hf.b1
  have hlen : (f.bks.length : Int) = f.n := rfl
  have hfb := hRS.fb
  simp only [go_sem,Nat.reduceEqDiff,Nat.reduceAdd,Nat.reduceMul,↓reduceIte,↓dreduceIte,reduceCtorEq,Nat.reduceLeDiff,Nat.reduceLT,Nat.reduceSub,Int.reduceToNat,Int.reduceLE,Int.reduceLT, c_scref27_Of, VC.tl, he1, he2, he3, he4, hfb]
  refine VCall.of_contract (refnext_c f hf.b1) (SleL.pure rfl) fun x hx => ?_
  subst hx
  simp only [go_sem,Nat.reduceEqDiff,Nat.reduceAdd,Nat.reduceMul,↓reduceIte,↓dreduceIte,reduceCtorEq,Nat.reduceLeDiff,Nat.reduceLT,Nat.reduceSub,Int.reduceToNat,Int.reduceLE,Int.reduceLT]
  refine VW_loop (fun x : MQ => ⟨[(1, .ptr 0 0 0), (2, .ptr 1 1 0), (3, I f.n), (4, .ptr q.kl q.sl 0), (5, nextA f), (6, B x.m)], x.H, x.nx⟩) (fun x => RS f x.H q x.I x.O ∧ RInv f x.I x.O ∧ (x.m = false → Least f ⟨x.I, x.O⟩)) (fun x => if x.m then unset x.I + 1 else 0)
    ⟨H, (beginS f).I, (beginS f).O, true, nx⟩ (Wk.mk (by simp [get_cons, he1, he2, he3, he4]) ⟨[], by simp⟩ (Nat.le_refl _)) ⟨hRS, begin_r f, fun e => by cases e⟩ ?_
  clear hRS hfb
  rintro ⟨H, I0, O0, m, nx⟩ ⟨hRS, hRI, hm⟩
  simp only at hRS hRI hm
  cases m
  · have hLL : (⟨I0, O0⟩ : LD) = L := (hm rfl).unique hL
    subst hLL
    have hlv := hRS.lv
    have hrl := hRS.rl
    have l1 := lt_of hrl
    have kp : KeepT [29] H (H.set 1 ⟨1, 29, 1, [.ref q.k1 q.s1 0 f.n, .ref q.k2 q.s2 0 f.n]⟩) := KeepT.set hrl (by simp)
    simp only [go_sem,Nat.reduceEqDiff,Nat.reduceAdd,Nat.reduceMul,↓reduceIte,↓dreduceIte,reduceCtorEq,Nat.reduceLeDiff,Nat.reduceLT,Nat.reduceSub,Int.reduceToNat,Int.reduceLE,Int.reduceLT, hlv, hrl, List.getElem?_set, l1]
    repeat ((with_reducible refine And.intro ?_ ?_); · omega)
    refine ⟨_, Frz.agg (ys := [rowsA I0, rowsA O0]) ?_, rfl⟩
    exact ⟨_, _, rfl, (hRS.mi.keep kp (by simp) (by simp)).frz hRI.sz.i hRI.sz.ir, _, _, rfl, (hRS.mo.keep kp (by simp) (by simp)).frz hRI.sz.o hRI.sz.or, rfl⟩
  · simp only [go_sem,Nat.reduceEqDiff,Nat.reduceAdd,Nat.reduceMul,↓reduceIte,↓dreduceIte,reduceCtorEq,Nat.reduceLeDiff,Nat.reduceLT,Nat.reduceSub,Int.reduceToNat,Int.reduceLE,Int.reduceLT]
    rw [i64_in (by omega) (by omega)]
    refine VW_loop (fun x : CMQ => ⟨[(1, .ptr 0 0 0), (2, .ptr 1 1 0), (3, I f.n), (4, .ptr q.kl q.sl 0), (5, nextA f), (6, B (passR f I0 O0 x.c).m), (7, I ((f.n : Int) - 1 - x.c))], x.H, x.nx⟩) (fun x => x.c ≤ f.n ∧ RS f x.H q (passR f I0 O0 x.c).I (passR f I0 O0 x.c).O) (fun x => f.n - x.c)
      ⟨0, H, nx⟩ (Wk.mk (by simp [get_cons, passR]) ⟨[], by simp⟩ (Nat.le_refl _)) ⟨by simp, hRS⟩ ?_
    clear hRS
    rintro ⟨c, H, nx⟩ ⟨hc, hRS⟩
    simp only at hc hRS
    by_cases hlt : c < f.n
    · have hP := hRI.pass hf c (by omega)
      have e1 : ((f.n : Int) - 1 - c).toNat = f.n - 1 - c := by omega
      obtain ⟨b, hbe⟩ : ∃ b, b = f.n - 1 - c := ⟨_, rfl⟩
      have hb : b < f.n := by omega
      have hbn : b < f.bks.length := hb
      have hbk : f.bks.getD b default = f.bk b := rfl
      have hbi : (f.n : Int) - 1 - c = b := by omega
      have hnext : passR f I0 O0 (c + 1) = stepR f (passR f I0 O0 c) b := by rw [hbe]; rfl
      rw [hbi]
      generalize passR f I0 O0 c = p at hRS hP hnext ⊢
      have hil : (p.I.getD b []).length = f.r := hP.sz.il hb
      have hol : (p.O.getD b []).length = f.r := hP.sz.ol hb
      have hfb := hRS.fb
      have hlv := hRS.lv
      have hmil := hRS.mi.l
      have hmol := hRS.mo.l
      have hob := hRS.mo.r b hb
      have f1 := ty_ne hob hfb (by simp)
      have f2 := ty_ne hob hlv (by simp)
      have f3 := ty_ne hob hmil (by simp)
      have f4 := ty_ne hob hmol (by simp)
      have l1 := lt_of hob
      have hnl := nxt_len (f.bk b)
      have hto := hf.to _ (BF.mem hb)
      have hlen2 : (f.bks.map fun b => ints (nxt b)).length = f.n := by simp [BF.n]
      simp only [go_sem,Nat.reduceEqDiff,Nat.reduceAdd,Nat.reduceMul,↓reduceIte,↓dreduceIte,reduceCtorEq,Nat.reduceLeDiff,Nat.reduceLT,Nat.reduceSub,Int.reduceToNat,Int.reduceLE,Int.reduceLT, eq_true (show (0 : Int) ≤ (b : Int) by omega)]
      refine VW_loop (fun j : Nat => ⟨[(1, .ptr 0 0 0), (2, .ptr 1 1 0), (3, I f.n), (4, .ptr q.kl q.sl 0), (5, nextA f), (6, B p.m), (7, I b), (8, I j)], H.set (q.g2 b).1 ⟨(q.g2 b).2, 4, 1, (gath p.I (p.O.getD b []) ((nxt (f.bk b)).take j)).map B⟩, nx⟩) (fun j => j ≤ (nxt (f.bk b)).length) (fun j => (nxt (f.bk b)).length - j) 0
        (Wk.mk (by simp [get_cons]) ⟨[], by rw [List.append_nil]; exact (set_of_get hob).symm⟩ (Nat.le_refl _)) (by omega) ?_
      intro j hj
      by_cases hl2 : j < (nxt (f.bk b)).length
      · have hk := hto _ (mem_getD hl2)
        have hgt := gath_take p.I (p.O.getD b []) _ hl2
        have hgl := gath_len p.I ((nxt (f.bk b)).take j) (p.O.getD b [])
        generalize hkk : (nxt (f.bk b)).getD j default = k at hk hgt ⊢
        have hkn : k.toNat < f.n := by unfold BF.n; omega
        have hik := hRS.mi.r k.toNat hkn
        have hkl : (p.I.getD k.toNat []).length = f.r := hP.sz.il hkn
        have f5 : ((q.g2 b).1 = (q.g1 k.toNat).1) = False := eq_false fun e => hRS.dio _ hkn b hb e.symm
        generalize hx : gath p.I (p.O.getD b []) ((nxt (f.bk b)).take j) = x at hgt hgl ⊢
        rw [hol] at hgl
        have hgt' : gath p.I (p.O.getD b []) ((nxt (f.bk b)).take (j + 1)) = orL x (p.I.getD k.toNat []) := hgt
        generalize hy : p.I.getD k.toNat [] = y at hik hkl hgt'
        simp only [go_sem,Nat.reduceEqDiff,Nat.reduceAdd,Nat.reduceMul,↓reduceIte,↓dreduceIte,reduceCtorEq,Nat.reduceLeDiff,Nat.reduceLT,Nat.reduceSub,Int.reduceToNat,Int.reduceLE,Int.reduceLT, one_imm, one_ref, hbk, hkk, List.length_map, eq_true (show (j : Int) < (nxt (f.bk b)).length by omega)]
        repeat ((with_reducible refine And.intro ?_ ?_); · omega)
        refine VW_loop (fun v : Nat => ⟨[(1, .ptr 0 0 0), (2, .ptr 1 1 0), (3, I f.n), (4, .ptr q.kl q.sl 0), (5, nextA f), (6, B p.m), (7, I b), (8, I j), (9, I v)], H.set (q.g2 b).1 ⟨(q.g2 b).2, 4, 1, (orP x y v).map B⟩, nx⟩) (fun v => v ≤ f.r) (fun v => f.r - v) 0
          (Wk.mk (by simp [get_cons]) ⟨[], by rw [orP_zero, List.append_nil]⟩ (Nat.le_refl _)) (by omega) ?_
        intro v hv
        by_cases hl3 : v < f.r
        · have hgx : gB (orP x y v) v = gB x v := by rw [gB_orP _ _ _ (by omega), if_neg (by omega)]
          cases h5 : gB x v
          · have hst : (orP x y v).set v (gB y v) = orP x y (v + 1) := orP_set x y (by omega) (by rw [h5]; rfl)
            simp only [go_sem,Nat.reduceEqDiff,Nat.reduceAdd,Nat.reduceMul,↓reduceIte,↓dreduceIte,reduceCtorEq,Nat.reduceLeDiff,Nat.reduceLT,Nat.reduceSub,Int.reduceToNat,Int.reduceLE,Int.reduceLT, hfb, hlv, hmil, hmol, hik, one_imm, one_ref, cellT_row, hbk, hkk, hregs, List.length_map, eq_true (show (v : Int) < f.r by omega), List.getElem?_set, f1, f2, f3, f4, f5, l1, gB_getD, hgx, h5, set_B, hst, orP_len, List.set_set]
            repeat ((with_reducible refine And.intro ?_ ?_); · omega)
            rw [i64_in (by omega) (by omega)]
            exact ⟨v + 1, by omega, by omega, Wk.mk (by simp [get_cons]) ⟨[], by simp⟩ (Nat.le_refl _)⟩
          · have hst : (orP x y v).set v true = orP x y (v + 1) := orP_set x y (by omega) (by rw [h5]; rfl)
            simp only [go_sem,Nat.reduceEqDiff,Nat.reduceAdd,Nat.reduceMul,↓reduceIte,↓dreduceIte,reduceCtorEq,Nat.reduceLeDiff,Nat.reduceLT,Nat.reduceSub,Int.reduceToNat,Int.reduceLE,Int.reduceLT, hfb, hlv, hmil, hmol, hik, one_imm, one_ref, cellT_row, hbk, hkk, hregs, List.length_map, eq_true (show (v : Int) < f.r by omega), List.getElem?_set, f1, f2, f3, f4, f5, l1, gB_getD, hgx, h5, set_B, hst, orP_len, List.set_set]
            repeat ((with_reducible refine And.intro ?_ ?_); · omega)
            rw [i64_in (by omega) (by omega)]
            exact ⟨v + 1, by omega, by omega, Wk.mk (by simp [get_cons]) ⟨[], by simp⟩ (Nat.le_refl _)⟩
        · obtain rfl : v = f.r := by omega
          simp only [go_sem,Nat.reduceEqDiff,Nat.reduceAdd,Nat.reduceMul,↓reduceIte,↓dreduceIte,reduceCtorEq,Nat.reduceLeDiff,Nat.reduceLT,Nat.reduceSub,Int.reduceToNat,Int.reduceLE,Int.reduceLT, hfb, one_imm, one_ref, hregs, List.getElem?_set, f1, eq_false (show ¬ (f.r : Int) < f.r by omega)]
          rw [i64_in (by omega) (by omega)]
          refine ⟨j + 1, by omega, by omega, Wk.mk (by simp [get_cons]) ⟨[], ?_⟩ (Nat.le_refl _)⟩
          rw [List.append_nil, hgt', orP_all x y (by omega)]
      · obtain rfl : j = (nxt (f.bk b)).length := by omega
        rw [List.take_length, show gath p.I (p.O.getD b []) (nxt (f.bk b)) = newO f p.I p.O b from rfl]
        have hob1 := set_get (x := ⟨(q.g2 b).2, 4, 1, (newO f p.I p.O b).map B⟩) hob
        have hRS1 := hRS.setO hP.sz.o hb (newO f p.I p.O b)
        have holn := hP.olen hf hb
        have haln := hP.alen hf hb
        generalize H.set (q.g2 b).1 ⟨(q.g2 b).2, 4, 1, (newO f p.I p.O b).map B⟩ = H1 at hob1 hRS1 ⊢
        have hfb1 := hRS1.fb
        have hlv1 := hRS1.lv
        have hmol1 := hRS1.mo.l
        have hrg := hf.regs hb (l := newO f p.I p.O b) holn
        have hln := hf.len _ (BF.mem hb)
        simp only [go_sem,Nat.reduceEqDiff,Nat.reduceAdd,Nat.reduceMul,↓reduceIte,↓dreduceIte,reduceCtorEq,Nat.reduceLeDiff,Nat.reduceLT,Nat.reduceSub,Int.reduceToNat,Int.reduceLE,Int.reduceLT, hfb1, hlv1, hmol1, one_imm, one_ref, hbk, cellT_row, List.length_map, eq_false (show ¬ ((nxt (f.bk b)).length : Int) < (nxt (f.bk b)).length by omega)]
        repeat ((with_reducible refine And.intro ?_ ?_); · omega)
        refine rahead_v (f.bk b) (newO f p.I p.O b) _ _ _ (by omega) (by omega) hrg.2 hrg.1 (fun R nx' => frz_bools (Nat.zero_le _) (app_old hob1 R) (by rw [holn])) _ fun R nx2 => ?_
        rw [show aheadL (f.bk b) (newO f p.I p.O b) = inOf f p.I p.O b from rfl]
        have hRS2 := hRS1.app R
        generalize H1 ++ R = H2 at hRS2 ⊢
        clear hob1 hRS1 hfb1 hlv1 hmol1
        have hib2 := hRS2.mi.r b hb
        have hfb2 := hRS2.fb
        have hlv2 := hRS2.lv
        have hmil2 := hRS2.mi.l
        have g1 := ty_ne hib2 hfb2 (by simp)
        have g2 := ty_ne hib2 hlv2 (by simp)
        have g3 := ty_ne hib2 hmil2 (by simp)
        have l2 := lt_of hib2
        have hRS3 := hRS2.setI hP.sz.i hb (orL (p.I.getD b []) (inOf f p.I p.O b))
        have hfin : stepR f p b = ⟨p.I.set b (orL (p.I.getD b []) (inOf f p.I p.O b)), p.O.set b (newO f p.I p.O b), p.m || moreP (p.I.getD b []) (inOf f p.I p.O b) f.r⟩ := by
          unfold stepR; rw [← hil, moreP_all]
        generalize p.I.getD b [] = x at hib2 hil hRS3 hfin
        generalize inOf f p.I p.O b = y at haln hRS3 hfin ⊢
        simp only [go_sem,Nat.reduceEqDiff,Nat.reduceAdd,Nat.reduceMul,↓reduceIte,↓dreduceIte,reduceCtorEq,Nat.reduceLeDiff,Nat.reduceLT,Nat.reduceSub,Int.reduceToNat,Int.reduceLE,Int.reduceLT, one_imm, one_ref]
        refine VW_loop (fun v : Nat => ⟨[(1, .ptr 0 0 0), (2, .ptr 1 1 0), (3, I f.n), (4, .ptr q.kl q.sl 0), (5, nextA f), (6, B (p.m || moreP x y v)), (7, I b), (10, bools y), (11, I v)], H2.set (q.g1 b).1 ⟨(q.g1 b).2, 4, 1, (orP x y v).map B⟩, nx2⟩) (fun v => v ≤ f.r) (fun v => f.r - v) 0
          (Wk.mk (by simp [get_cons, moreP]) ⟨[], by rw [orP_zero, List.append_nil]; exact (set_of_get hib2).symm⟩ (Nat.le_refl _)) (by omega) ?_
        intro v hv
        by_cases hl3 : v < f.r
        · have hgx : gB (orP x y v) v = gB x v := by rw [gB_orP _ _ _ (by omega), if_neg (by omega)]
          have hms := moreP_step x y v
          cases h5 : gB y v
          · have hsk := orP_skip x y (k := v) (by omega) (by rw [h5, Bool.or_false])
            rw [h5] at hms
            simp only [go_sem,Nat.reduceEqDiff,Nat.reduceAdd,Nat.reduceMul,↓reduceIte,↓dreduceIte,reduceCtorEq,Nat.reduceLeDiff,Nat.reduceLT,Nat.reduceSub,Int.reduceToNat,Int.reduceLE,Int.reduceLT, hfb2, one_imm, one_ref, hregs, List.length_map, eq_true (show (v : Int) < f.r by omega), List.getElem?_set, g1, g2, g3, l2, gB_getD, h5]
            repeat ((with_reducible refine And.intro ?_ ?_); · omega)
            rw [i64_in (by omega) (by omega)]
            refine ⟨v + 1, by omega, by omega, Wk.mk (by simp [get_cons, hms]) ⟨[], by simp [hsk]⟩ (Nat.le_refl _)⟩
          · cases h6 : gB x v
            · have hst : (orP x y v).set v true = orP x y (v + 1) := orP_set x y (by omega) (by rw [h5]; simp)
              rw [h5, h6] at hms
              simp only [go_sem,Nat.reduceEqDiff,Nat.reduceAdd,Nat.reduceMul,↓reduceIte,↓dreduceIte,reduceCtorEq,Nat.reduceLeDiff,Nat.reduceLT,Nat.reduceSub,Int.reduceToNat,Int.reduceLE,Int.reduceLT, hfb2, hlv2, hmil2, one_imm, one_ref, cellT_row, hregs, List.length_map, eq_true (show (v : Int) < f.r by omega), List.getElem?_set, g1, g2, g3, l2, gB_getD, h5, hgx, h6, set_B, hst, orP_len, List.set_set]
              repeat ((with_reducible refine And.intro ?_ ?_); · omega)
              rw [i64_in (by omega) (by omega)]
              refine ⟨v + 1, by omega, by omega, Wk.mk (by simp [get_cons, hms]) ⟨[], by simp⟩ (Nat.le_refl _)⟩
            · have hsk := orP_skip x y (k := v) (by omega) (by rw [h6, Bool.true_or])
              rw [h5, h6] at hms
              simp only [go_sem,Nat.reduceEqDiff,Nat.reduceAdd,Nat.reduceMul,↓reduceIte,↓dreduceIte,reduceCtorEq,Nat.reduceLeDiff,Nat.reduceLT,Nat.reduceSub,Int.reduceToNat,Int.reduceLE,Int.reduceLT, hfb2, hlv2, hmil2, one_imm, one_ref, cellT_row, hregs, List.length_map, eq_true (show (v : Int) < f.r by omega), List.getElem?_set, g1, g2, g3, l2, gB_getD, h5, hgx, h6, orP_len]
              repeat ((with_reducible refine And.intro ?_ ?_); · omega)
              rw [i64_in (by omega) (by omega)]
              refine ⟨v + 1, by omega, by omega, Wk.mk (by simp [get_cons, hms]) ⟨[], by simp [hsk]⟩ (Nat.le_refl _)⟩
        · obtain rfl : v = f.r := by omega
          simp only [go_sem,Nat.reduceEqDiff,Nat.reduceAdd,Nat.reduceMul,↓reduceIte,↓dreduceIte,reduceCtorEq,Nat.reduceLeDiff,Nat.reduceLT,Nat.reduceSub,Int.reduceToNat,Int.reduceLE,Int.reduceLT, hfb2, one_imm, one_ref, hregs, List.getElem?_set, g1, eq_false (show ¬ (f.r : Int) < f.r by omega)]
          rw [i64_in (by omega) (by omega), orP_all x y (by omega)]
          refine ⟨⟨c + 1, _, nx2⟩, ⟨by simp only; omega, ?_⟩, by simp only; omega, Wk.mk (by simp [get_cons, hnext, hfin]; omega) ⟨[], by rw [List.append_nil]⟩ (Nat.le_refl _)⟩
          simp only [hnext, hfin]
          exact hRS3
    · obtain rfl : c = f.n := by omega
      simp only [go_sem,Nat.reduceEqDiff,Nat.reduceAdd,Nat.reduceMul,↓reduceIte,↓dreduceIte,reduceCtorEq,Nat.reduceLeDiff,Nat.reduceLT,Nat.reduceSub,Int.reduceToNat,Int.reduceLE,Int.reduceLT, eq_false (show ¬ (0 : Int) ≤ (f.n : Int) - 1 - f.n by omega)]
      have hpm := pass_mono hf hRI f.n (Nat.le_refl _)
      refine ⟨⟨H, (passR f I0 O0 f.n).I, (passR f I0 O0 f.n).O, (passR f I0 O0 f.n).m, nx⟩, ⟨hRS, hRI.pass hf f.n (Nat.le_refl _), fun e => pass_least hf hRI e⟩, ?_, Wk.mk (by simp [get_cons]) ⟨[], by simp⟩ (Nat.le_refl _)⟩
      simp only
      split
      · rename_i e; have := hpm.2 e; omega
      · omega
/-- What was there stays. -/
def Kept (H H' : List VObj) : Prop := ∀ (i : Nat) (ob : VObj), H[i]? = some ob → H'[i]? = some ob
theorem Kept.stab {H H' : List VObj} (h : Kept H H') : Stab (fun _ => True) 1 H H' := fun id ob _ ho => ⟨ob, h id ob ho, rfl, rfl⟩
theorem Kept.app (H R : List VObj) : Kept H (H ++ R) := fun _ _ h => app_old h R
theorem Kept.trans {A B C : List VObj} (h : Kept A B) (k : Kept B C) : Kept A C := fun i ob ho => k i ob (h i ob ho)
theorem MT.kept {n r : Nat} {H H' : List VObj} {k s : Nat} {g : Nat → Nat × Nat} {m : List (List Bool)} (h : MT n r H k s g m) (kp : Kept H H') : MT n r H' k s g m := ⟨kp _ _ h.l, fun b hb => kp _ _ (h.r b hb), h.d⟩
theorem MT.lt {n r : Nat} {H : List VObj} {k s : Nat} {g : Nat → Nat × Nat} {m : List (List Bool)} (h : MT n r H k s g m) {b : Nat} (hb : b < n) : (g b).1 < H.length := (List.getElem?_eq_some_iff.1 (h.r b hb)).1
theorem MT.lv {n r : Nat} {H : List VObj} {k s kl : Nat} {g : Nat → Nat × Nat} {m : List (List Bool)} {o o' : VObj} (h : MT n r H k s g m) (ho : H[kl]? = some o) (ht : o.ty = 29) : MT n r (H.set kl o') k s g m :=
  h.keep (ts := [29]) (KeepT.set ho (by rw [ht]; simp)) (by simp) (by simp)
theorem rof_c (f : BF) (hf : Fine f) (L : LD) (hL : Least f L) : Contract Try.prog 10 [bfA f] (fun x => x = liveA L) := by
  refine Contract.of_call (VCall.of_body hmix f_scref27_Of (by simp) ?_)
  have hr0 := hf.r0
  have hr4 : f.r ≤ 4000 := by have := hf.r1; unfold BF.r; omega
  have hregs : f.regs = (f.r : Int) := by unfold BF.r; omega
  have hn5 : f.n ≤ 500 := hf.b1
  have hlen : (f.bks.length : Int) = f.n := rfl
  have hv1 : ∀ (H : List VObj) (nx : Nat) (C : AV → List VObj → Nat → Prop), (∀ s g H' nx', MT f.n f.r H' H.length s g (beginS f).I → (∀ b < f.n, H.length < (g b).1) → Kept H H' → C (.ref H.length s 0 f.n) H' nx') →
      VCall Try.prog 22 [I f.bks.length, I f.regs] H nx C := fun H nx C hC => by
    rw [hregs, hlen]
    exact none_v f.n f.r hn5 hr4 H nx C fun s g R nx' h1 h2 => hC s g _ nx' h1 h2 (Kept.app _ _)
  have hc : c_scref27_Of = VC.seq _ (VC.seq _ (VC.seq _ c_scref27_Of.tl.tl.tl)) := rfl
  have htail := rof_tail f hf L hL
  obtain ⟨D, hD⟩ : ∃ D, D = c_scref27_Of.tl.tl.tl := ⟨_, rfl⟩
  rw [← hD] at htail
  rw [hc, ← hD]
  simp only [go_sem,Nat.reduceEqDiff,Nat.reduceAdd,Nat.reduceMul,↓reduceIte,↓dreduceIte,reduceCtorEq,Nat.reduceLeDiff,Nat.reduceLT,Nat.reduceSub,Int.reduceToNat,Int.reduceLE,Int.reduceLT, one_imm, one_ref, List.length_map]
  repeat' (with_reducible apply And.intro)
  all_goals
    refine hv1 _ _ _ ?_
    intro s1 g1 H1 nx1 m1 p1 kp1
    refine ⟨kp1.stab, ?_⟩
    have a0 := kp1 0 _ rfl
    have a1 := kp1 1 _ rfl
    have c0 := app_old a0
    have z1 : 2 ≤ H1.length := by have := (List.getElem?_eq_some_iff.1 m1.l).1; (try simp at this); omega
    simp only [go_sem,Nat.reduceEqDiff,Nat.reduceAdd,Nat.reduceMul,↓reduceIte,↓dreduceIte,reduceCtorEq,Nat.reduceLeDiff,Nat.reduceLT,Nat.reduceSub,Int.reduceToNat,Int.reduceLE,Int.reduceLT, one_imm, one_ref, a0, c0]
    repeat' (with_reducible apply And.intro)
    all_goals
      refine hv1 _ _ _ ?_
      intro s2 g2 H2 nx2 m2 p2 kp2
      refine ⟨kp2.stab, ?_⟩
      have kp12 : Kept H1 H2 := by first | exact kp2 | exact (Kept.app _ _).trans kp2
      have hdio : ∀ b < f.n, ∀ c < f.n, (g1 b).1 ≠ (g2 c).1 := fun b hb c hc => by
        have h1 := m1.lt hb
        have h2 := p2 c hc
        try simp only [List.length_append] at h2
        omega
      have z2 : 2 ≤ H2.length := by have := (List.getElem?_eq_some_iff.1 m2.l).1; (try simp at this); omega
      have b0 := kp12 _ _ a0
      have b1 := kp12 _ _ a1
      have mm1 := m1.kept kp12
      first
      | (have b2 := kp12 _ _ (kp1 2 _ rfl)
         simp only [go_sem,Nat.reduceEqDiff,Nat.reduceAdd,Nat.reduceMul,↓reduceIte,↓dreduceIte,reduceCtorEq,Nat.reduceLeDiff,Nat.reduceLT,Nat.reduceSub,Int.reduceToNat,Int.reduceLE,Int.reduceLT, one_imm, one_ref, b2]
         repeat' (with_reducible apply And.intro)
         all_goals first | omega | (refine htail _ _ _ ⟨2, 2, 3, s1, H1.length, s2, g1, g2⟩ ?_ ?_ ?_ ?_ ?_ <;> first | rfl | exact ⟨by rw [set_ne (by omega)]; exact b0, by rw [set_ne (by omega)]; exact b1, set_get b2, mm1.lv b2 rfl, m2.lv b2 rfl, hdio⟩))
      | (simp only [go_sem,Nat.reduceEqDiff,Nat.reduceAdd,Nat.reduceMul,↓reduceIte,↓dreduceIte,reduceCtorEq,Nat.reduceLeDiff,Nat.reduceLT,Nat.reduceSub,Int.reduceToNat,Int.reduceLE,Int.reduceLT, one_imm, one_ref, app_get0, app_set0]
         repeat' (with_reducible apply And.intro)
         all_goals first | omega | (refine htail _ _ _ ⟨H2.length, nx2, 2, s1, H1.length, s2, g1, g2⟩ ?_ ?_ ?_ ?_ ?_ <;> first | rfl | exact ⟨app_old b0 _, app_old b1 _, by rw [app_get0]; rfl, mm1.app _, m2.app _, hdio⟩))
      | (have b2 := kp2 H1.length _ (by rw [app_get0]; rfl)
         have q1 : 1 < H1.length := (List.getElem?_eq_some_iff.1 a1).1
         rw [List.length_append] at m2 ⊢
         simp only [go_sem,Nat.reduceEqDiff,Nat.reduceAdd,Nat.reduceMul,↓reduceIte,↓dreduceIte,reduceCtorEq,Nat.reduceLeDiff,Nat.reduceLT,Nat.reduceSub,Int.reduceToNat,Int.reduceLE,Int.reduceLT, one_imm, one_ref, b2]
         repeat' (with_reducible apply And.intro)
         all_goals first | omega | (refine htail _ _ _ ⟨H1.length, nx1, 2, s1, H1.length + 1, s2, g1, g2⟩ ?_ ?_ ?_ ?_ ?_ <;> first | rfl | exact ⟨by rw [set_ne (by omega)]; exact b0, by rw [set_ne (by omega)]; exact b1, set_get b2, mm1.lv b2 rfl, m2.lv b2 rfl, hdio⟩))
end Go.Proofs.Ytncjbipnkdlkoaa
namespace Go.Proofs.Ytncjbipnkdlkoaa
set_option linter.unusedSimpArgs false
set_option linter.unusedVariables false
set_option maxRecDepth 10000
open Go.V

theorem head_mapC' {ks : List Int} {s : Nat} {r : Loop} : ((mapC ks s).head? = some (AV.lp r)) = False := eq_false (head_mapC ks s r)
theorem mapC_half {ks : List Int} {s : Nat} : (mapC ks s).length / 2 = ks.length := by rw [mapC_len]; omega
theorem mapOK_C {ks : List Int} {s : Nat} : mapOK .i64 (mapC ks s) = True := eq_true (mapOK_mapC ks s)
theorem upd0 {p : Int} {ks : List Int} (h : p ∉ ks) : updA (.int .i64 p) (I (ks.length : Nat)) (mapC ks 0) = mapC (ks ++ [p]) 0 := by
  have := upd_mapC (p := p) ks 0 h
  rw [Nat.zero_add] at this; exact this
def idsF (pl : List Int) (k : Nat) : List Int := (List.range pl.length).map fun v => if v < k then (idN pl v : Int) else 0
theorem idsF_len (pl : List Int) (k : Nat) : (idsF pl k).length = pl.length := by simp [idsF]
theorem idsF_zero (pl : List Int) : idsF pl 0 = List.replicate pl.length 0 := List.ext_getElem (by simp [idsF]) fun i h1 h2 => by simp [idsF]
theorem idsF_all (pl : List Int) : idsF pl pl.length = idsL pl := List.ext_getElem (by simp [idsF]) fun i h1 h2 => by
  have : i < pl.length := by simpa [idsF] using h1
  simp [idsF, idsL, this]
theorem idsF_set (pl : List Int) (k : Nat) : (idsF pl k).set k (idN pl k : Int) = idsF pl (k + 1) := List.ext_getElem (by simp [idsF]) fun i h1 h2 => by
  rw [List.getElem_set]
  simp only [idsF, List.getElem_map, List.getElem_range]
  by_cases h : k = i
  · subst h; simp
  · rw [if_neg h]
    by_cases h3 : i < k
    · rw [if_pos h3, if_pos (by omega)]
    · rw [if_neg h3, if_neg (by omega)]
def takB (pl : List Int) (row : List Bool) (v : Nat) : List Bool := (List.range (seenK pl).length).map fun c => decide (∃ u < v, gB row u = true ∧ idN pl u = c)
theorem takB_len (pl : List Int) (row : List Bool) (v : Nat) : (takB pl row v).length = (seenK pl).length := by simp [takB]
theorem takB_get (pl : List Int) (row : List Bool) (v : Nat) {c : Nat} (hc : c < (seenK pl).length) : gB (takB pl row v) c = decide (∃ u < v, gB row u = true ∧ idN pl u = c) := by
  unfold takB
  rw [gB, List.getD, List.getElem?_map, List.getElem?_range hc]; rfl
theorem takB_zero (pl : List Int) (row : List Bool) : takB pl row 0 = List.replicate (seenK pl).length false := gB_ext (by simp [takB]) fun c hc => by
  rw [takB_len] at hc
  rw [takB_get _ _ _ hc, gB_rep]; simp
theorem takB_skip (pl : List Int) (row : List Bool) {v : Nat} (h : gB row v = false) : takB pl row v = takB pl row (v + 1) := gB_ext (by simp [takB]) fun c hc => by
  rw [takB_len] at hc
  rw [takB_get _ _ _ hc, takB_get _ _ _ hc]
  congr 1
  apply propext
  refine ⟨fun ⟨u, h1, h2⟩ => ⟨u, by omega, h2⟩, fun ⟨u, h1, h2⟩ => ⟨u, ?_, h2⟩⟩
  by_cases e : u = v
  · subst e; rw [h] at h2; exact absurd h2.1 (by decide)
  · omega
theorem takB_set (pl : List Int) (row : List Bool) {v : Nat} (h : gB row v = true) : (takB pl row v).set (idN pl v) true = takB pl row (v + 1) := gB_ext (by simp [takB]) fun c hc => by
  rw [List.length_set, takB_len] at hc
  rw [gB_set _ _ _ _ (by rw [takB_len]; exact hc), takB_get _ _ _ hc, takB_get _ _ _ hc]
  by_cases e : idN pl v = c
  · rw [if_pos e]; symm; exact decide_eq_true ⟨v, by omega, h, e⟩
  · rw [if_neg e]
    congr 1
    apply propext
    refine ⟨fun ⟨u, h1, h2⟩ => ⟨u, by omega, h2⟩, fun ⟨u, h1, h2⟩ => ⟨u, ?_, h2⟩⟩
    by_cases e2 : u = v
    · subst e2; exact absurd h2.2 e
    · omega
theorem cntL_none (pl : List Int) (r : Nat) : cntL' pl (List.replicate r false) = List.replicate (seenK pl).length 0 := List.ext_getElem (by simp [cntL']) fun i h1 h2 => by
  simp only [cntL', List.getElem_map, List.getElem_range, List.getElem_replicate, (cntK_none pl r i).1]; rfl
theorem five_of {H : List VObj} {a b c d e : VObj} (h0 : H[0]? = some a) (h1 : H[1]? = some b) (h2 : H[2]? = some c) (h3 : H[3]? = some d) (h4 : H[4]? = some e) : ∃ tl, H = [a, b, c, d, e] ++ tl := by
  match H, h0, h1, h2, h3, h4 with
  | a' :: b' :: c' :: d' :: e' :: tl, h0, h1, h2, h3, h4 =>
    simp at h0 h1 h2 h3 h4
    exact ⟨tl, by subst h0 h1 h2 h3 h4; rfl⟩

set_option maxHeartbeats 2000000 in
theorem acheck_c (f : BF) (L : LD) (pl : List Int) (n : Int) (hf : Fine f) (hL : LOK L) (hl : pl.length ≤ 140737488355328) : Contract Try.prog 14 [bfA f, liveA L, alA pl, I n] (fun r => r = B (allocB f L pl n)) := by
  refine Contract.of_call (VCall.of_body hmix f_alloc_Check (by simp) ?_)
  have hnn : f.bks.length = f.n := rfl
  have hn5 := hf.b1
  rw [hnn] at hn5
  have hr4 := hf.r1
  have hr0 := hf.r0
  have hmx : (2000000 : Nat) ≤ maxLen := by decide
  have hpos : 0 < f.n := List.length_pos_iff.2 hf.b0
  have hregs : (f.r : Int) = f.regs := by unfold BF.r; omega
  simp only [go_sem,Nat.reduceEqDiff,Nat.reduceAdd,Nat.reduceMul,↓reduceIte,↓dreduceIte,reduceCtorEq,Nat.reduceLeDiff,Nat.reduceLT,Nat.reduceSub,Int.reduceToNat,Int.reduceLE,Int.reduceLT, one_imm, one_ref, List.length_map, c_alloc_Check]
  refine VCall.of_contract (check_c f L hf hL) (SleL.pure rfl) fun x hx => ?_
  subst hx
  cases hc : checkB f L
  · simp only [go_sem,Nat.reduceEqDiff,Nat.reduceAdd,Nat.reduceMul,↓reduceIte,↓dreduceIte,reduceCtorEq,Nat.reduceLeDiff,Nat.reduceLT,Nat.reduceSub,Int.reduceToNat,Int.reduceLE,Int.reduceLT, one_imm, one_ref, List.length_map]
    exact ⟨_, Frz.pure rfl, by simp [allocB, hc]⟩
  have hcl := (checkB_iff hf L).1 hc
  have hli : L.inn.length = f.n := hcl.sz.i
  have hi0 : (L.inn.getD 0 default).length = f.r := hcl.sz.il hpos
  by_cases hpl : (pl.length : Int) = f.regs
  case neg =>
    simp only [go_sem,Nat.reduceEqDiff,Nat.reduceAdd,Nat.reduceMul,↓reduceIte,↓dreduceIte,reduceCtorEq,Nat.reduceLeDiff,Nat.reduceLT,Nat.reduceSub,Int.reduceToNat,Int.reduceLE,Int.reduceLT, one_imm, one_ref, List.length_map, eq_false hpl]
    exact ⟨_, Frz.pure rfl, by simp [allocB, placesB, hpl]⟩
  have hplr : pl.length = f.r := by omega
  have hz1 : (List.replicate f.r [AV.val (.int .i64 0)]).flatten = (idsF pl 0).map I := by rw [idsF_zero, flat_rep, hplr]; simp
  simp only [go_sem,Nat.reduceEqDiff,Nat.reduceAdd,Nat.reduceMul,↓reduceIte,↓dreduceIte,reduceCtorEq,Nat.reduceLeDiff,Nat.reduceLT,Nat.reduceSub,Int.reduceToNat,Int.reduceLE,Int.reduceLT, one_imm, one_ref, List.length_map, hpl, ← hregs, hz1]
  repeat ((with_reducible refine And.intro ?_ ?_); · first | omega | (simp; omega))
  refine VW_loop (fun k : Nat => ⟨[(3, I n), (4, .ptr 0 0 0), (5, .ptr 1 1 0), (6, .ptr 2 2 0), (9, .mref 3 3), (10, .ref 4 4 0 f.r), (38, ints pl), (39, I pl.length), (40, I k)], [⟨0, 24, 1, bfL f⟩, ⟨1, 29, 1, [rowsA L.inn, rowsA L.out]⟩, ⟨2, 33, 1, [ints pl]⟩, ⟨3, 0, 0, mapC (seenK (pl.take k)) 0⟩, ⟨4, 3, 1, (idsF pl k).map I⟩], 5⟩)
    (fun k => k ≤ pl.length ∧ (pl.take k).all (okP n) = true) (fun k => pl.length - k) 0 (Wk.mk (by simp [get_cons, hplr]) ⟨[], by simp [seenK, mapC]; exact hregs⟩ (Nat.le_refl _)) ⟨Nat.zero_le _, rfl⟩ ?_
  rintro k ⟨hk, hq⟩
  by_cases hlt : k < pl.length
  · have hgo : okP n (pl.getD k default) = true → (pl.take (k + 1)).all (okP n) = true := fun e => all_step hlt hq e
    have hno : okP n (pl.getD k default) = false → allocB f L pl n = false := fun e => by
      unfold allocB placesB; rw [all_stop hlt e]; simp
    have hst := seenK_take pl hlt
    have hio := idN_old pl hlt
    have hin := idN_new pl hlt
    have hsl := seenK_len (pl.take k)
    rw [List.length_take] at hsl
    have his := idsF_set pl k
    have hil := idsF_len pl k
    generalize hp : pl.getD k default = p at hgo hno hst hio hin
    have hiff := okP_iff (n := n) (p := p)
    have hlk := eq_true (show (k : Int) < (pl.length : Int) by omega)
    by_cases h1 : 1 ≤ p
    · by_cases h2 : p ≤ n
      · have hgo' := hgo (hiff.2 (by omega))
        by_cases hm : p ∈ seenK (pl.take k)
        · rw [if_pos hm] at hst
          have hio' := hio hm
          simp only [go_sem,Nat.reduceEqDiff,Nat.reduceAdd,Nat.reduceMul,↓reduceIte,↓dreduceIte,reduceCtorEq,Nat.reduceLeDiff,Nat.reduceLT,Nat.reduceSub,Int.reduceToNat,Int.reduceLE,Int.reduceLT, one_imm, one_ref, List.length_map, hlk, hp, lookT_mapC, Option.isSome_some, eq_true hm, hio', Nat.zero_add, set_map, his, eq_true h1, eq_true h2]
          repeat ((with_reducible refine And.intro ?_ ?_); · first | omega | (simp; omega))
          rw [i64_in (n := (k : Int) + 1) (by omega) (by omega)]
          exact ⟨k + 1, ⟨by omega, hgo'⟩, by omega, Wk.mk (by simp [get_cons]) ⟨[], by simp [hst]⟩ (Nat.le_refl _)⟩
        · rw [if_neg hm] at hst
          have hin' := hin hm
          simp only [go_sem,Nat.reduceEqDiff,Nat.reduceAdd,Nat.reduceMul,↓reduceIte,↓dreduceIte,reduceCtorEq,Nat.reduceLeDiff,Nat.reduceLT,Nat.reduceSub,Int.reduceToNat,Int.reduceLE,Int.reduceLT, one_imm, one_ref, List.length_map, hlk, hp, lookT_mapC, Option.isSome_none, eq_false hm, head_mapC', mapC_half, mapOK_C, upd0 hm, hin', set_map, his, eq_true h1, eq_true h2]
          repeat ((with_reducible refine And.intro ?_ ?_); · first | omega | (simp; omega))
          rw [← hin', upd0 hm, hin']
          rw [i64_in (n := (k : Int) + 1) (by omega) (by omega)]
          exact ⟨k + 1, ⟨by omega, hgo'⟩, by omega, Wk.mk (by simp [get_cons]) ⟨[], by simp [hst]⟩ (Nat.le_refl _)⟩
      · simp only [go_sem,Nat.reduceEqDiff,Nat.reduceAdd,Nat.reduceMul,↓reduceIte,↓dreduceIte,reduceCtorEq,Nat.reduceLeDiff,Nat.reduceLT,Nat.reduceSub,Int.reduceToNat,Int.reduceLE,Int.reduceLT, one_imm, one_ref, List.length_map, hlk, hp, eq_true h1, eq_false h2, eq_true (show (-4000 : Int) ≤ p by omega), eq_false (show ¬ p ≤ -1 by omega)]
        repeat ((with_reducible refine And.intro ?_ ?_); · first | omega | (simp; omega))
        refine ⟨_, Frz.pure rfl, ?_⟩
        rw [hno (by cases e : okP n p with | false => rfl | true => have := hiff.1 e; omega)]
    · by_cases h3 : -4000 ≤ p
      · by_cases h4 : p ≤ -1
        · have hgo' := hgo (hiff.2 (by omega))
          by_cases hm : p ∈ seenK (pl.take k)
          · rw [if_pos hm] at hst
            have hio' := hio hm
            simp only [go_sem,Nat.reduceEqDiff,Nat.reduceAdd,Nat.reduceMul,↓reduceIte,↓dreduceIte,reduceCtorEq,Nat.reduceLeDiff,Nat.reduceLT,Nat.reduceSub,Int.reduceToNat,Int.reduceLE,Int.reduceLT, one_imm, one_ref, List.length_map, hlk, hp, lookT_mapC, Option.isSome_some, eq_true hm, hio', Nat.zero_add, set_map, his, eq_false h1, eq_true h3, eq_true h4]
            repeat ((with_reducible refine And.intro ?_ ?_); · first | omega | (simp; omega))
            rw [i64_in (n := (k : Int) + 1) (by omega) (by omega)]
            exact ⟨k + 1, ⟨by omega, hgo'⟩, by omega, Wk.mk (by simp [get_cons]) ⟨[], by simp [hst]⟩ (Nat.le_refl _)⟩
          · rw [if_neg hm] at hst
            have hin' := hin hm
            simp only [go_sem,Nat.reduceEqDiff,Nat.reduceAdd,Nat.reduceMul,↓reduceIte,↓dreduceIte,reduceCtorEq,Nat.reduceLeDiff,Nat.reduceLT,Nat.reduceSub,Int.reduceToNat,Int.reduceLE,Int.reduceLT, one_imm, one_ref, List.length_map, hlk, hp, lookT_mapC, Option.isSome_none, eq_false hm, head_mapC', mapC_half, mapOK_C, upd0 hm, hin', set_map, his, eq_false h1, eq_true h3, eq_true h4]
            repeat ((with_reducible refine And.intro ?_ ?_); · first | omega | (simp; omega))
            rw [← hin', upd0 hm, hin']
            rw [i64_in (n := (k : Int) + 1) (by omega) (by omega)]
            exact ⟨k + 1, ⟨by omega, hgo'⟩, by omega, Wk.mk (by simp [get_cons]) ⟨[], by simp [hst]⟩ (Nat.le_refl _)⟩
        · simp only [go_sem,Nat.reduceEqDiff,Nat.reduceAdd,Nat.reduceMul,↓reduceIte,↓dreduceIte,reduceCtorEq,Nat.reduceLeDiff,Nat.reduceLT,Nat.reduceSub,Int.reduceToNat,Int.reduceLE,Int.reduceLT, one_imm, one_ref, List.length_map, hlk, hp, eq_false h1, eq_true h3, eq_false h4]
          repeat ((with_reducible refine And.intro ?_ ?_); · first | omega | (simp; omega))
          refine ⟨_, Frz.pure rfl, ?_⟩
          rw [hno (by cases e : okP n p with | false => rfl | true => have := hiff.1 e; omega)]
      · simp only [go_sem,Nat.reduceEqDiff,Nat.reduceAdd,Nat.reduceMul,↓reduceIte,↓dreduceIte,reduceCtorEq,Nat.reduceLeDiff,Nat.reduceLT,Nat.reduceSub,Int.reduceToNat,Int.reduceLE,Int.reduceLT, one_imm, one_ref, List.length_map, hlk, hp, eq_false h1, eq_false h3]
        repeat ((with_reducible refine And.intro ?_ ?_); · first | omega | (simp; omega))
        refine ⟨_, Frz.pure rfl, ?_⟩
        rw [hno (by cases e : okP n p with | false => rfl | true => have := hiff.1 e; omega)]
  have hok : pl.all (okP n) = true := all_end (by omega) hq
  obtain rfl : k = pl.length := by omega
  have hpb : placesB pl f.regs n = true := by unfold placesB; rw [hok, decide_eq_true hpl]; rfl
  obtain ⟨row, hrow⟩ : ∃ row, L.inn.getD 0 default = row := ⟨_, rfl⟩
  rw [hrow] at hi0
  have hz2 : (List.replicate (seenK pl).length [AV.val (.bool false)]).flatten = (takB pl row 0).map B := by rw [takB_zero, rep_B]
  have hsk := seenK_len pl
  rw [List.take_of_length_le (Nat.le_refl _), idsF_all]
  simp only [go_sem,Nat.reduceEqDiff,Nat.reduceAdd,Nat.reduceMul,↓reduceIte,↓dreduceIte,reduceCtorEq,Nat.reduceLeDiff,Nat.reduceLT,Nat.reduceSub,Int.reduceToNat,Int.reduceLE,Int.reduceLT, one_imm, one_ref, List.length_map, eq_false (show ¬ (pl.length : Int) < (pl.length : Int) by omega), head_mapC', mapC_half, hz2, hrow]
  repeat ((with_reducible refine And.intro ?_ ?_); · first | omega | (simp; omega))
  refine VW_loop (fun v : Nat => ⟨[(4, .ptr 0 0 0), (5, .ptr 1 1 0), (6, .ptr 2 2 0), (9, .mref 3 3), (10, .ref 4 4 0 f.r), (15, .ref 5 5 0 (seenK pl).length), (86, bools row), (87, I row.length), (88, I v)], [⟨0, 24, 1, bfL f⟩, ⟨1, 29, 1, [rowsA L.inn, rowsA L.out]⟩, ⟨2, 33, 1, [ints pl]⟩, ⟨3, 0, 0, mapC (seenK pl) 0⟩, ⟨4, 3, 1, (idsL pl).map I⟩, ⟨5, 4, 1, (takB pl row v).map B⟩], 6⟩)
    (fun v => v ≤ row.length ∧ apI pl row v) (fun v => row.length - v) 0 (Wk.mk (by simp [get_cons]) ⟨[], by simp⟩ (Nat.le_refl _)) ⟨Nat.zero_le _, fun j hj => by omega⟩ ?_
  rintro v ⟨hv, hap⟩
  by_cases hlv : v < row.length
  · have e0 : row.getD v default = gB row v := rfl
    have hvl := eq_true (show (v : Int) < (row.length : Int) by omega)
    cases hg : gB row v
    · simp only [go_sem,Nat.reduceEqDiff,Nat.reduceAdd,Nat.reduceMul,↓reduceIte,↓dreduceIte,reduceCtorEq,Nat.reduceLeDiff,Nat.reduceLT,Nat.reduceSub,Int.reduceToNat,Int.reduceLE,Int.reduceLT, one_imm, one_ref, List.length_map, hvl, e0, hg]
      repeat ((with_reducible refine And.intro ?_ ?_); · first | omega | (simp; omega))
      rw [i64_in (n := (v : Int) + 1) (by omega) (by omega)]
      refine ⟨v + 1, ⟨by omega, fun j hj i hi a b => ?_⟩, by omega, Wk.mk (by simp [get_cons]) ⟨[], by rw [takB_skip pl row hg]; simp⟩ (Nat.le_refl _)⟩
      by_cases e : j = v
      · subst e; rw [hg] at a; cases a
      · exact hap j (by omega) i hi a b
    · have hid := idN_lt pl (show v < pl.length by omega)
      have hidg := idsL_get pl (show v < pl.length by omega)
      have htl := takB_len pl row v
      have htg := takB_get pl row v hid
      have e2 : (takB pl row v).getD (idN pl v) default = gB (takB pl row v) (idN pl v) := rfl
      cases ht : gB (takB pl row v) (idN pl v)
      · simp only [go_sem,Nat.reduceEqDiff,Nat.reduceAdd,Nat.reduceMul,↓reduceIte,↓dreduceIte,reduceCtorEq,Nat.reduceLeDiff,Nat.reduceLT,Nat.reduceSub,Int.reduceToNat,Int.reduceLE,Int.reduceLT, one_imm, one_ref, List.length_map, hvl, e0, hg, hidg, e2, ht, htl, set_B, takB_set pl row hg]
        repeat ((with_reducible refine And.intro ?_ ?_); · first | omega | (simp; omega))
        rw [i64_in (n := (v : Int) + 1) (by omega) (by omega)]
        refine ⟨v + 1, ⟨by omega, fun j hj i hi a b => ?_⟩, by omega, Wk.mk (by simp [get_cons]) ⟨[], by simp⟩ (Nat.le_refl _)⟩
        by_cases e : j = v
        · subst e
          rw [ht] at htg
          intro e3
          exact of_decide_eq_false htg.symm ⟨i, hi, b, ((idN_eq pl (by omega) (by omega)).2 e3).symm⟩
        · exact hap j (by omega) i hi a b
      · simp only [go_sem,Nat.reduceEqDiff,Nat.reduceAdd,Nat.reduceMul,↓reduceIte,↓dreduceIte,reduceCtorEq,Nat.reduceLeDiff,Nat.reduceLT,Nat.reduceSub,Int.reduceToNat,Int.reduceLE,Int.reduceLT, one_imm, one_ref, List.length_map, hvl, e0, hg, hidg, e2, ht, htl]
        repeat ((with_reducible refine And.intro ?_ ?_); · first | omega | (simp; omega))
        refine ⟨_, Frz.pure rfl, ?_⟩
        rw [ht] at htg
        obtain ⟨u, hu1, hu2, hu3⟩ := of_decide_eq_true htg.symm
        have hapf : apartB pl row = false := decide_eq_false fun e => e v hlv u hu1 hg hu2 ((idN_eq pl (by omega) (by omega)).1 hu3.symm)
        have : allocB f L pl n = false := by
          unfold allocB
          rw [hrow, hapf]; simp
        rw [this]
  have hapb : apartB pl row = true := decide_eq_true fun j hj => hap j (by omega)
  simp only [go_sem,Nat.reduceEqDiff,Nat.reduceAdd,Nat.reduceMul,↓reduceIte,↓dreduceIte,reduceCtorEq,Nat.reduceLeDiff,Nat.reduceLT,Nat.reduceSub,Int.reduceToNat,Int.reduceLE,Int.reduceLT, one_imm, one_ref, List.length_map, hnn, eq_false (show ¬ (v : Int) < (row.length : Int) by omega)]
  refine VW_loop (fun x : WQ => ⟨[(4, .ptr 0 0 0), (5, .ptr 1 1 0), (6, .ptr 2 2 0), (9, .mref 3 3), (10, .ref 4 4 0 f.r), (110, bksA f.bks), (111, I f.n), (112, I x.k)], [⟨0, 24, 1, bfL f⟩, ⟨1, 29, 1, [rowsA L.inn, rowsA L.out]⟩, ⟨2, 33, 1, [ints pl]⟩, ⟨3, 0, 0, mapC (seenK pl) 0⟩, ⟨4, 3, 1, (idsL pl).map I⟩], x.nx⟩)
    (fun x => x.k ≤ f.n ∧ blkAll f L pl x.k) (fun x => f.n - x.k) ⟨0, [], 6⟩ (Wk.mk (by simp [get_cons]) ⟨[⟨5, 4, 1, (takB pl row v).map B⟩], by simp⟩ (Nat.le_refl _)) ⟨Nat.zero_le _, fun i hi => absurd hi (Nat.not_lt_zero i)⟩ ?_
  rintro ⟨b, H0, nx⟩ ⟨hb, hp2⟩
  simp only at hb hp2
  by_cases hbl : b < f.n
  · have hbk : f.bks.getD b default = f.bk b := rfl
    have hob : b < L.out.length := by rw [hcl.sz.o]; exact hbl
    have hlo : (L.out.getD b default).length = f.r := hcl.sz.ol hbl
    have hrg := hf.regs hbl hlo
    have hlen := hf.len _ (BF.mem hbl)
    have hz3 : (List.replicate f.r [AV.val (.bool false)]).flatten = (List.replicate pl.length false).map B := by rw [rep_B, hplr]
    have hz4 : (List.replicate (seenK pl).length [AV.val (.int .i64 0)]).flatten = (cntL' pl (List.replicate pl.length false)).map I := by rw [cntL_none, flat_rep]; simp
    have hg0 : cntG pl (List.replicate pl.length false) = 0 := (cntK_none pl pl.length 0).2
    have hp4 : pl.length ≤ 4000 := by omega
    have hol2 : (L.out.getD b default).length = pl.length := by omega
    have hlen2 : (f.bk b).ins.length ≤ 1000000 := by omega
    have hrv : (f.bk b).e = 2 → 0 ≤ (f.bk b).v ∧ (f.bk b).v < pl.length := by rw [← hol2]; exact hrg.2
    have hrt2 : ∀ t ∈ (f.bk b).ins, RegT t pl.length := by rw [← hol2]; exact hrg.1
    have hblk : blkAB f L pl b = blkK (f.bk b) (L.out.getD b default) pl := rfl
    simp only [go_sem,Nat.reduceEqDiff,Nat.reduceAdd,Nat.reduceMul,↓reduceIte,↓dreduceIte,reduceCtorEq,Nat.reduceLeDiff,Nat.reduceLT,Nat.reduceSub,Int.reduceToNat,Int.reduceLE,Int.reduceLT, one_imm, one_ref, List.length_map, hbk, ← hregs, head_mapC', mapC_half, hz3, hz4, eq_true (show (b : Int) < (f.n : Int) by omega)]
    repeat' (with_reducible apply And.intro)
    all_goals first | omega | skip
    all_goals
      rw [← hplr]
      first
      | refine wblock_v (pl := pl) (q := ⟨6, nx + 1, 7, nx + 1 + 1, 8, nx + 1 + 1 + 1, 4, 4⟩) (f.bk b) (L.out.getD b default) hp4 hol2 hlen2 hrv hrt2 _ _ ⟨by rw [hg0]; rfl, rfl, rfl, rfl, by simp⟩ _ fun H' nx' kp => ?_
      | refine wblock_v (pl := pl) (q := ⟨6, nx + 1, 8, nx + 1 + 1 + 1, 7, nx + 1 + 1, 4, 4⟩) (f.bk b) (L.out.getD b default) hp4 hol2 hlen2 hrv hrt2 _ _ ⟨by rw [hg0]; rfl, rfl, rfl, rfl, by simp⟩ _ fun H' nx' kp => ?_
      | refine wblock_v (pl := pl) (q := ⟨7, nx + 1 + 1, 6, nx + 1, 8, nx + 1 + 1 + 1, 4, 4⟩) (f.bk b) (L.out.getD b default) hp4 hol2 hlen2 hrv hrt2 _ _ ⟨by rw [hg0]; rfl, rfl, rfl, rfl, by simp⟩ _ fun H' nx' kp => ?_
      | refine wblock_v (pl := pl) (q := ⟨8, nx + 1 + 1 + 1, 6, nx + 1, 7, nx + 1 + 1, 4, 4⟩) (f.bk b) (L.out.getD b default) hp4 hol2 hlen2 hrv hrt2 _ _ ⟨by rw [hg0]; rfl, rfl, rfl, rfl, by simp⟩ _ fun H' nx' kp => ?_
      | refine wblock_v (pl := pl) (q := ⟨7, nx + 1 + 1, 8, nx + 1 + 1 + 1, 6, nx + 1, 4, 4⟩) (f.bk b) (L.out.getD b default) hp4 hol2 hlen2 hrv hrt2 _ _ ⟨by rw [hg0]; rfl, rfl, rfl, rfl, by simp⟩ _ fun H' nx' kp => ?_
      | refine wblock_v (pl := pl) (q := ⟨8, nx + 1 + 1 + 1, 7, nx + 1 + 1, 6, nx + 1, 4, 4⟩) (f.bk b) (L.out.getD b default) hp4 hol2 hlen2 hrv hrt2 _ _ ⟨by rw [hg0]; rfl, rfl, rfl, rfl, by simp⟩ _ fun H' nx' kp => ?_
      obtain ⟨tl, rfl⟩ := five_of (kp 0 _ rfl (by simp) (by simp) (by simp)) (kp 1 _ rfl (by simp) (by simp) (by simp)) (kp 2 _ rfl (by simp) (by simp) (by simp)) (kp 3 _ rfl (by simp) (by simp) (by simp)) (kp 4 _ rfl (by simp) (by simp) (by simp))
      cases hB : blkK (f.bk b) (L.out.getD b default) pl
      · simp only [go_sem,Nat.reduceEqDiff,Nat.reduceAdd,Nat.reduceMul,↓reduceIte,↓dreduceIte,reduceCtorEq,Nat.reduceLeDiff,Nat.reduceLT,Nat.reduceSub,Int.reduceToNat,Int.reduceLE,Int.reduceLT, one_imm, one_ref, List.length_map]
        refine ⟨_, Frz.pure rfl, ?_⟩
        have : allocB f L pl n = false := by
          unfold allocB
          rw [List.all_eq_false.2 ⟨b, List.mem_range.2 hbl, by rw [hblk, hB]; decide⟩]; simp
        rw [this]
      · simp only [go_sem,Nat.reduceEqDiff,Nat.reduceAdd,Nat.reduceMul,↓reduceIte,↓dreduceIte,reduceCtorEq,Nat.reduceLeDiff,Nat.reduceLT,Nat.reduceSub,Int.reduceToNat,Int.reduceLE,Int.reduceLT, one_imm, one_ref, List.length_map]
        rw [i64_in (by omega) (by omega)]
        refine ⟨⟨b + 1, [], nx'⟩, ⟨by simp only; omega, fun j hj => ?_⟩, by simp only; omega, Wk.mk (by simp [get_cons]) ⟨tl, by simp⟩ (Nat.le_refl _)⟩
        simp only at hj
        by_cases e : j = b
        · rw [e, hblk]; exact hB
        · exact hp2 j (by omega)
  · simp only [go_sem,Nat.reduceEqDiff,Nat.reduceAdd,Nat.reduceMul,↓reduceIte,↓dreduceIte,reduceCtorEq,Nat.reduceLeDiff,Nat.reduceLT,Nat.reduceSub,Int.reduceToNat,Int.reduceLE,Int.reduceLT, one_imm, one_ref, List.length_map, eq_false (show ¬ (b : Int) < (f.n : Int) by omega)]
    refine ⟨_, Frz.pure rfl, ?_⟩
    have : allocB f L pl n = true := by
      unfold allocB
      rw [hc, hpb, hrow, hapb, List.all_eq_true.2 fun i hi => hp2 i (by have := List.mem_range.1 hi; omega)]; rfl
    rw [this]
end Go.Proofs.Ytncjbipnkdlkoaa
namespace Go.Proofs.Ytncjbipnkdlkoaa
set_option linter.unusedSimpArgs false
set_option linter.unusedVariables false
set_option maxRecDepth 10000
open Go.V

def exA : BF := ⟨2, [⟨[⟨1, 0, 0, 0, 0, 0, 0, 1⟩, ⟨1, 1, 0, 0, 0, 0, 0, 2⟩, ⟨9, 0, 0, 0, 0, 0, 0, 0⟩, ⟨9, 0, 1, 0, 0, 0, 0, 0⟩], 3, 0, 0, 0⟩]⟩
def exK : LD := ⟨[[false, false]], [[false, false]]⟩
theorem exA_fine : Fine exA := (small28_fine (by decide)).1
theorem exA_least : Least exA exK := by
  refine ⟨(checkB_iff exA_fine exK).1 (by decide), fun I O h b hb v hv => ?_⟩
  have hb' : b = 0 := by have : exA.n = 1 := rfl; omega
  have hv' : v = 0 ∨ v = 1 := by have : exA.r = 2 := rfl; omega
  subst hb'
  rcases hv' with rfl | rfl <;> exact ⟨fun e => absurd e (by decide), fun e => absurd e (by decide)⟩
theorem vals_true' {b : Bool} : ∀ r, r = B b → (∃ u, r = .val u) ∨ ∃ us : List Value, r = .agg (us.map .val) := fun r h => .inl ⟨_, h⟩
theorem vals_int {n : Int} : ∀ r, r = I n → (∃ u, r = .val u) ∨ ∃ us : List Value, r = .agg (us.map .val) := fun r h => .inl ⟨_, h⟩

set_option maxHeartbeats 4000000 in
theorem awake_c : Contract Try.prog 9 [] (fun r => r = B true) := by
  have hq := f_sclaw28_awake
  unfold compF compFp at hq
  refine Contract.of_call (VCall.of_bodyS (pt := false) (pf := false) hmix hq (by simp) ?_)
  have hok : LOK exK := ⟨by decide, by decide, by decide, by decide⟩
  simp only [go_sem,Nat.reduceEqDiff,Nat.reduceAdd,Nat.reduceMul,↓reduceIte,↓dreduceIte,reduceCtorEq,Nat.reduceLeDiff,Nat.reduceLT,Nat.reduceSub,Int.reduceToNat,Int.reduceLE,Int.reduceLT, c_sclaw28_awake, VWs_seq, VWs_ret, VWs_ops, VWs_cond]
  refine ⟨⟨[(0, B false)], [], 0⟩, Wk.mk (by simp [get_cons]) ⟨[], by simp⟩ (Nat.le_refl _), ?_⟩
  simp only [go_sem,Nat.reduceEqDiff,Nat.reduceAdd,Nat.reduceMul,↓reduceIte,↓dreduceIte,reduceCtorEq,Nat.reduceLeDiff,Nat.reduceLT,Nat.reduceSub,Int.reduceToNat,Int.reduceLE,Int.reduceLT, VWs_seq, VWs_ret, VWs_ops, VWs_cond, one_imm, one_ref]
  refine ⟨⟨[(1, .ip (.agg (bkL (exA.bks.getD 0 default)))), (0, B false)], [], 2⟩, give_all fun p hp => ?_, ?_⟩
  · simp only [List.mem_cons, List.not_mem_nil, or_false] at hp
    rcases hp with rfl | rfl
    · right
      refine Frz.ptr (id := 1) (Nat.zero_le _) rfl rfl (by decide) ⟨_, _, rfl, frz_ins (exA.bks.getD 0 default).ins rfl rfl rfl rfl rfl, FrzL.pure rfl⟩
    · left; rfl
  simp only [go_sem,Nat.reduceEqDiff,Nat.reduceAdd,Nat.reduceMul,↓reduceIte,↓dreduceIte,reduceCtorEq,Nat.reduceLeDiff,Nat.reduceLT,Nat.reduceSub,Int.reduceToNat,Int.reduceLE,Int.reduceLT, VWs_seq, VWs_ret, VWs_ops, VWs_cond, one_imm, one_ref]
  refine ⟨⟨[(2, .ip (.agg (bfL exA))), (0, B false)], [], _⟩, give_all fun p hp => ?_, ?_⟩
  · simp only [List.mem_cons, List.not_mem_nil, or_false] at hp
    rcases hp with rfl | rfl
    · right
      refine Frz.ptr (id := 1) (Nat.zero_le _) rfl rfl (by decide) ⟨_, _, rfl, Frz.pure rfl, _, _, rfl, frz_bks exA.bks [inA (exA.bks.getD 0 default).ins] rfl ?_ rfl rfl rfl rfl rfl, rfl⟩
      intro i hi
      have : i = 0 := by have : exA.bks.length = 1 := rfl; omega
      subst this
      exact Frz.pure rfl
    · left; rfl
  simp only [go_sem,Nat.reduceEqDiff,Nat.reduceAdd,Nat.reduceMul,↓reduceIte,↓dreduceIte,reduceCtorEq,Nat.reduceLeDiff,Nat.reduceLT,Nat.reduceSub,Int.reduceToNat,Int.reduceLE,Int.reduceLT, VWs_seq, VWs_ret, VWs_ops, VWs_cond, one_imm, one_ref]
  refine VCall.of_contract (rof_c exA exA_fine exK exA_least) (SleL.pure rfl) fun x hx => ?_
  subst hx
  simp only [go_sem,Nat.reduceEqDiff,Nat.reduceAdd,Nat.reduceMul,↓reduceIte,↓dreduceIte,reduceCtorEq,Nat.reduceLeDiff,Nat.reduceLT,Nat.reduceSub,Int.reduceToNat,Int.reduceLE,Int.reduceLT, VWs_seq, VWs_ret, VWs_ops, VWs_cond, one_imm, one_ref]
  refine ⟨⟨[(2, .ip (.agg (bfL exA))), (3, .ip (liveA exK)), (0, B false)], [], _⟩, give_all fun p hp => ?_, ?_⟩
  · simp only [List.mem_cons, List.not_mem_nil, or_false] at hp
    rcases hp with rfl | rfl | rfl
    · left; rfl
    · right
      exact Frz.ptr (id := 0) (Nat.zero_le _) rfl rfl (by decide) (FrzL.pure rfl)
    · left; rfl
  simp only [go_sem,Nat.reduceEqDiff,Nat.reduceAdd,Nat.reduceMul,↓reduceIte,↓dreduceIte,reduceCtorEq,Nat.reduceLeDiff,Nat.reduceLT,Nat.reduceSub,Int.reduceToNat,Int.reduceLE,Int.reduceLT, VWs_seq, VWs_ret, VWs_ops, VWs_cond, one_imm, one_ref]
  refine VCall.of_contract (of28_c exA exK 2 exA_fine exA_least.cl (by decide) (by decide)) (SleL.pure rfl) fun x hx => ?_
  obtain ⟨pl, rfl, hP⟩ := hx
  have hb := (allocB_iff exA_fine exK pl 2).2 hP
  have hpl : pl.length ≤ 140737488355328 := by rw [hP.len]; decide
  simp only [go_sem,Nat.reduceEqDiff,Nat.reduceAdd,Nat.reduceMul,↓reduceIte,↓dreduceIte,reduceCtorEq,Nat.reduceLeDiff,Nat.reduceLT,Nat.reduceSub,Int.reduceToNat,Int.reduceLE,Int.reduceLT, VWs_seq, VWs_ret, VWs_ops, VWs_cond, one_imm, one_ref]
  refine ⟨⟨[(2, .ip (.agg (bfL exA))), (3, .ip (liveA exK)), (4, .ip (alA pl)), (0, B false)], [], _⟩, give_all fun p hp => ?_, ?_⟩
  · simp only [List.mem_cons, List.not_mem_nil, or_false] at hp
    rcases hp with rfl | rfl | rfl | rfl
    · left; rfl
    · left; rfl
    · right
      exact Frz.ptr (id := 0) (Nat.zero_le _) rfl rfl (Nat.succ_ne_zero 0) (FrzL.pure rfl)
    · left; rfl
  simp only [go_sem,Nat.reduceEqDiff,Nat.reduceAdd,Nat.reduceMul,↓reduceIte,↓dreduceIte,reduceCtorEq,Nat.reduceLeDiff,Nat.reduceLT,Nat.reduceSub,Int.reduceToNat,Int.reduceLE,Int.reduceLT, VWs_seq, VWs_ret, VWs_ops, VWs_cond, one_imm, one_ref]
  refine VCall.of_contract (rcheck28_c exA exK pl 2 exA_fine hok hpl) (SleL.pure rfl) fun x hx => ?_
  rw [hb] at hx
  subst hx
  simp only [go_sem,Nat.reduceEqDiff,Nat.reduceAdd,Nat.reduceMul,↓reduceIte,↓dreduceIte,reduceCtorEq,Nat.reduceLeDiff,Nat.reduceLT,Nat.reduceSub,Int.reduceToNat,Int.reduceLE,Int.reduceLT, VWs_seq, VWs_ret, VWs_ops, VWs_cond, one_imm, one_ref]
  refine VCall.of_contract (acheck_c exA exK pl 2 exA_fine hok hpl) (SleL.pure rfl) fun x hx => ?_
  rw [hb] at hx
  subst hx
  simp only [go_sem,Nat.reduceEqDiff,Nat.reduceAdd,Nat.reduceMul,↓reduceIte,↓dreduceIte,reduceCtorEq,Nat.reduceLeDiff,Nat.reduceLT,Nat.reduceSub,Int.reduceToNat,Int.reduceLE,Int.reduceLT, VWs_seq, VWs_ret, VWs_ops, VWs_cond, one_imm, one_ref]
  refine VCall.of_contractN ((acheck_c exA exK [1, 1] 2 exA_fine hok (by decide)).vals fun r h => vals_true' r h) ?_ fun x hx => ?_
  · exact ⟨_, _, rfl, Frz.pure rfl, _, _, rfl, Frz.pure rfl, _, _, rfl, Frz.agg ⟨_, _, rfl, frz_ints (l := [1, 1]) (Nat.zero_le _) rfl rfl, rfl⟩, _, _, rfl, Frz.pure rfl, rfl⟩
  replace hx : x = B false := hx
  subst hx
  simp only [go_sem,Nat.reduceEqDiff,Nat.reduceAdd,Nat.reduceMul,↓reduceIte,↓dreduceIte,reduceCtorEq,Nat.reduceLeDiff,Nat.reduceLT,Nat.reduceSub,Int.reduceToNat,Int.reduceLE,Int.reduceLT, VWs_seq, VWs_ret, VWs_ops, VWs_cond, one_imm, one_ref]
  refine VCall.of_contractN ((acheck_c exA exK [2, -5] 2 exA_fine hok (by decide)).vals fun r h => vals_true' r h) ?_ fun x hx => ?_
  · exact ⟨_, _, rfl, Frz.pure rfl, _, _, rfl, Frz.pure rfl, _, _, rfl, Frz.agg ⟨_, _, rfl, frz_ints (l := [2, -5]) (Nat.zero_le _) rfl rfl, rfl⟩, _, _, rfl, Frz.pure rfl, rfl⟩
  replace hx : x = B true := hx
  subst hx
  simp only [go_sem,Nat.reduceEqDiff,Nat.reduceAdd,Nat.reduceMul,↓reduceIte,↓dreduceIte,reduceCtorEq,Nat.reduceLeDiff,Nat.reduceLT,Nat.reduceSub,Int.reduceToNat,Int.reduceLE,Int.reduceLT, VWs_seq, VWs_ret, VWs_ops, VWs_cond, one_imm, one_ref]
  refine VCall.of_contractN ((awords_c [2, -5] (by decide)).vals fun r h => vals_int r h) ?_ fun x hx => ?_
  · exact ⟨_, _, rfl, Frz.agg ⟨_, _, rfl, frz_ints (l := [2, -5]) (Nat.zero_le _) rfl rfl, rfl⟩, rfl⟩
  replace hx : x = I 5 := hx
  subst hx
  simp only [go_sem,Nat.reduceEqDiff,Nat.reduceAdd,Nat.reduceMul,↓reduceIte,↓dreduceIte,reduceCtorEq,Nat.reduceLeDiff,Nat.reduceLT,Nat.reduceSub,Int.reduceToNat,Int.reduceLE,Int.reduceLT, VWs_seq, VWs_ret, VWs_ops, VWs_cond, one_imm, one_ref]
  refine ⟨⟨[(0, B true)], [], _⟩, Wk.mk (by simp [get_cons]) ⟨_, (List.nil_append _).symm⟩ (Nat.le_refl _), ?_⟩
  simp only [go_sem,Nat.reduceEqDiff,Nat.reduceAdd,Nat.reduceMul,↓reduceIte,↓dreduceIte,reduceCtorEq,Nat.reduceLeDiff,Nat.reduceLT,Nat.reduceSub,Int.reduceToNat,Int.reduceLE,Int.reduceLT, VWs_seq, VWs_ret, VWs_ops, VWs_cond, one_imm, one_ref]
  exact ⟨_, Frz.pure rfl, rfl⟩
end Go.Proofs.Ytncjbipnkdlkoaa
namespace Go.Proofs.Ytncjbipnkdlkoaa
set_option linter.unusedSimpArgs false
set_option linter.unusedVariables false
set_option maxRecDepth 10000
open Go.V Go.ChangeShapes Go.WideShapes Go.ChangeAt Go.RowKit

theorem awakeE {H : List VObj} {nx : Nat} {A : Nat → Prop} {C : AV → List VObj → Nat → Prop} (h : C (B true) H nx) : ECallT Try.prog A 9 [] H nx C .mk :=
  ECall.of awake_c (SleL.pure rfl) ⟨_, fun _ => Iff.rfl⟩ fun x hx => by subst hx; exact h
theorem SizedP.ok {f : BF} (hf : Fine f) {L : LD} (h : SizedP f L) : LOK L := by
  have h1 := hf.b1
  have h2 := hf.r1
  have h3 := hf.r0
  have hn : f.n = f.bks.length := rfl
  have hr : f.r ≤ 4000 := by unfold BF.r; omega
  have a1 := h.i
  have a2 := h.o
  exact ⟨by omega, by omega, fun l hl => by have := h.ir l hl; omega, fun l hl => by have := h.or l hl; omega⟩
theorem allocholds_c (f : BF) (n : Int) (all : Bool) (hF : BfOk f) (hn : 0 ≤ n ∧ n ≤ 255) : Contract Try.prog 3 [bfA f, Y8 n, B all] (fun r => r = B true) := by
  refine Contract.of_call (VCall.of_body hmix f_sclaw28_AllocHolds (by simp) ?_)
  simp only [go_sem,Nat.reduceEqDiff,Nat.reduceAdd,Nat.reduceMul,↓reduceIte,↓dreduceIte,reduceCtorEq,Nat.reduceLeDiff,Nat.reduceLT,Nat.reduceSub,Int.reduceToNat,Int.reduceLE,Int.reduceLT, one_imm, one_ref, c_sclaw28_AllocHolds]
  refine VCall.of_contract (small28_c f hF) (SleL.pure rfl) fun x hx => ?_
  subst hx
  cases hs : small28B f
  · simp only [go_sem,Nat.reduceEqDiff,Nat.reduceAdd,Nat.reduceMul,↓reduceIte,↓dreduceIte,reduceCtorEq,Nat.reduceLeDiff,Nat.reduceLT,Nat.reduceSub,Int.reduceToNat,Int.reduceLE,Int.reduceLT, one_imm, one_ref]
    refine VCall.of_contract awake_c (SleL.pure rfl) fun x hx => ?_
    subst hx
    simp only [go_sem,Nat.reduceEqDiff,Nat.reduceAdd,Nat.reduceMul,↓reduceIte,↓dreduceIte,reduceCtorEq,Nat.reduceLeDiff,Nat.reduceLT,Nat.reduceSub,Int.reduceToNat,Int.reduceLE,Int.reduceLT, one_imm, one_ref]
    exact ⟨_, Frz.pure rfl, rfl⟩
  obtain ⟨hf, h12, h20, ho, hins⟩ := small28_fine hs
  have hr : f.r ≤ 64 := by unfold BF.r; omega
  obtain ⟨L, hL⟩ := least_exists hf
  have h17 : 0 ≤ n.tmod 17 ∧ n.tmod 17 ≤ 16 := by
    rw [Int.tmod_eq_emod_of_nonneg hn.1]; omega
  generalize hk : n.tmod 17 = k at h17
  have w1 : IntKind.i64.wrap k = k := i64_in (by omega) (by omega)
  have w2 : IntKind.u8.wrap k = k := by rw [IntKind.wrap_u8]; omega
  simp only [go_sem,Nat.reduceEqDiff,Nat.reduceAdd,Nat.reduceMul,↓reduceIte,↓dreduceIte,reduceCtorEq,Nat.reduceLeDiff,Nat.reduceLT,Nat.reduceSub,Int.reduceToNat,Int.reduceLE,Int.reduceLT, one_imm, one_ref]
  refine VCall.of_contract (rof_c f hf L hL) (SleL.pure rfl) fun x hx => ?_
  subst hx
  have main : ∀ M : LD, ClosedP f M → ∀ (r : AV), (∃ pl, r = alA pl ∧ AllocP f M pl k) → ∃ pl, r = alA pl ∧ allocB f M pl k = true ∧ pl.length ≤ 140737488355328 := fun M hM r ⟨pl, h1, h2⟩ => ⟨pl, h1, (allocB_iff hf M pl k).2 h2, by rw [h2.len]; omega⟩
  cases all
  · simp only [go_sem,Nat.reduceEqDiff,Nat.reduceAdd,Nat.reduceMul,↓reduceIte,↓dreduceIte,reduceCtorEq,Nat.reduceLeDiff,Nat.reduceLT,Nat.reduceSub,Int.reduceToNat,Int.reduceLE,Int.reduceLT, one_imm, one_ref, hk, w1, w2, Int.reduceEq]
    have hok : LOK L := hL.cl.sz.ok hf
    refine VCall.of_contract (of28_c f L k hf hL.cl hr (by omega)) (SleL.pure rfl) fun x hx => ?_
    obtain ⟨pl, rfl, hB, hpl⟩ := main L hL.cl x hx
    simp only [go_sem,Nat.reduceEqDiff,Nat.reduceAdd,Nat.reduceMul,↓reduceIte,↓dreduceIte,reduceCtorEq,Nat.reduceLeDiff,Nat.reduceLT,Nat.reduceSub,Int.reduceToNat,Int.reduceLE,Int.reduceLT, one_imm, one_ref, hk, w1, w2]
    refine VCall.of_contract awake_c (SleL.pure rfl) fun x hx => ?_
    subst hx
    simp only [go_sem,Nat.reduceEqDiff,Nat.reduceAdd,Nat.reduceMul,↓reduceIte,↓dreduceIte,reduceCtorEq,Nat.reduceLeDiff,Nat.reduceLT,Nat.reduceSub,Int.reduceToNat,Int.reduceLE,Int.reduceLT, one_imm, one_ref, hk, w1, w2]
    refine VCall.of_contract (rcheck28_c f L pl k hf hok hpl) (SleL.pure rfl) fun x hx => ?_
    rw [hB] at hx
    subst hx
    simp only [go_sem,Nat.reduceEqDiff,Nat.reduceAdd,Nat.reduceMul,↓reduceIte,↓dreduceIte,reduceCtorEq,Nat.reduceLeDiff,Nat.reduceLT,Nat.reduceSub,Int.reduceToNat,Int.reduceLE,Int.reduceLT, one_imm, one_ref, hk, w1, w2]
    refine VCall.of_contract (acheck_c f L pl k hf hok hpl) (SleL.pure rfl) fun x hx => ?_
    rw [hB] at hx
    subst hx
    simp only [go_sem,Nat.reduceEqDiff,Nat.reduceAdd,Nat.reduceMul,↓reduceIte,↓dreduceIte,reduceCtorEq,Nat.reduceLeDiff,Nat.reduceLT,Nat.reduceSub,Int.reduceToNat,Int.reduceLE,Int.reduceLT, one_imm, one_ref, hk, w1, w2]
    exact ⟨_, Frz.pure rfl, rfl⟩
  · simp only [go_sem,Nat.reduceEqDiff,Nat.reduceAdd,Nat.reduceMul,↓reduceIte,↓dreduceIte,reduceCtorEq,Nat.reduceLeDiff,Nat.reduceLT,Nat.reduceSub,Int.reduceToNat,Int.reduceLE,Int.reduceLT, one_imm, one_ref, hk, w1, w2, Int.reduceEq]
    refine VCall.of_contract (every_c f hf) (SleL.pure rfl) fun x hx => ?_
    subst hx
    simp only [go_sem,Nat.reduceEqDiff,Nat.reduceAdd,Nat.reduceMul,↓reduceIte,↓dreduceIte,reduceCtorEq,Nat.reduceLeDiff,Nat.reduceLT,Nat.reduceSub,Int.reduceToNat,Int.reduceLE,Int.reduceLT, one_imm, one_ref, hk, w1, w2, Int.reduceEq]
    have hok : LOK (everyL f) := (every_closed hf).sz.ok hf
    refine VCall.of_contract (of28_c f (everyL f) k hf (every_closed hf) hr (by omega)) (SleL.pure rfl) fun x hx => ?_
    obtain ⟨pl, rfl, hB, hpl⟩ := main (everyL f) (every_closed hf) x hx
    simp only [go_sem,Nat.reduceEqDiff,Nat.reduceAdd,Nat.reduceMul,↓reduceIte,↓dreduceIte,reduceCtorEq,Nat.reduceLeDiff,Nat.reduceLT,Nat.reduceSub,Int.reduceToNat,Int.reduceLE,Int.reduceLT, one_imm, one_ref, hk, w1, w2]
    refine VCall.of_contract awake_c (SleL.pure rfl) fun x hx => ?_
    subst hx
    simp only [go_sem,Nat.reduceEqDiff,Nat.reduceAdd,Nat.reduceMul,↓reduceIte,↓dreduceIte,reduceCtorEq,Nat.reduceLeDiff,Nat.reduceLT,Nat.reduceSub,Int.reduceToNat,Int.reduceLE,Int.reduceLT, one_imm, one_ref, hk, w1, w2]
    refine VCall.of_contract (rcheck28_c f (everyL f) pl k hf hok hpl) (SleL.pure rfl) fun x hx => ?_
    rw [hB] at hx
    subst hx
    simp only [go_sem,Nat.reduceEqDiff,Nat.reduceAdd,Nat.reduceMul,↓reduceIte,↓dreduceIte,reduceCtorEq,Nat.reduceLeDiff,Nat.reduceLT,Nat.reduceSub,Int.reduceToNat,Int.reduceLE,Int.reduceLT, one_imm, one_ref, hk, w1, w2]
    refine VCall.of_contract (acheck_c f (everyL f) pl k hf hok hpl) (SleL.pure rfl) fun x hx => ?_
    rw [hB] at hx
    subst hx
    simp only [go_sem,Nat.reduceEqDiff,Nat.reduceAdd,Nat.reduceMul,↓reduceIte,↓dreduceIte,reduceCtorEq,Nat.reduceLeDiff,Nat.reduceLT,Nat.reduceSub,Int.reduceToNat,Int.reduceLE,Int.reduceLT, one_imm, one_ref, hk, w1, w2]
    exact ⟨_, Frz.pure rfl, rfl⟩

set_option maxRecDepth 100000 in
theorem allocholds_lifted (os : Os) (started : os.Started) (H : Type) (enc : TypeId × Value → H) :
    ReturnsInHanded {} Try.checked os 3 .any (Rows.allocHoldsSpec.pre6 enc Try.prog Try.f3 Rows.allocHoldsRow.domain false) (Rows.allocHoldsSpec.post enc Try.prog Try.f3 false true false false) := by
  refine returnsInHanded_of_change_sized (C := Try.checked) Try.own started (by kernel_rfl) Try.func3
    (ChangeSpec.witness6 (enc := enc) (C := Try.checked) false ⟨#[], #[.agg #[.int .i64 0, .slice none 0 0], .int .u8 0, .bool false], []⟩ 8 (by kernel_rfl) (by kernel_rfl) (by kernel_rfl) (by kernel_rfl)) ?_
  intro W base args ds gs before hval hW _ hwt _
  refine law_calls (P := Try.prog) (n := 20) (shs := [bfSh, .int .u8, .bool]) (tb := 4) Try.laidOut rfl (by kernel_rfl) (by kernel_rfl) (by decide +kernel) (by kernel_rfl) (fun ds h => ?_) (fun xs hx => ?_) hval hW hwt
  · match ds, h with
    | [d1, d2, d3], _ => rfl
  · obtain ⟨x, xs', rfl, hx1, hxs⟩ := fitS_cons hx
    obtain ⟨y, ys', rfl, hy, hys⟩ := fitS_cons hxs
    obtain ⟨z, zs', rfl, hz, hzs⟩ := fitS_cons hys
    simp only [Sh.fitL] at hzs
    subst hzs
    obtain ⟨f, rfl, hF⟩ := bf_of hx1
    obtain ⟨n, rfl, hn⟩ := fit_y hy
    obtain ⟨b, rfl⟩ := fit_b hz
    exact allocholds_c f n b hF hn

theorem allocholds_holds : Rows.AllocHoldsSaid :=
  OpenClaim.holds_of_wide 3 Try.f3 rfl rfl rfl rfl rfl rfl rfl ⟨rfl, rfl, rfl, rfl, rfl⟩ rfl rfl rfl rfl rfl (by kernel_rfl) Try.func3 (by kernel_rfl)
    (of_decide_eq_true (by kernel_rfl)) (by unfold Func.isWrapper; first | (rw [if_pos (by decide +kernel)]; kernel_rfl) | (rw [if_neg (by decide +kernel)]; exact ⟨rfl, rfl⟩))
    (fun os started H enc _ => allocholds_lifted os started H enc)
end Go.Proofs.Ytncjbipnkdlkoaa
namespace Go.Proofs.Ytncjbipnkdlkoaa
set_option linter.unusedSimpArgs false
set_option linter.unusedVariables false
set_option maxRecDepth 10000
open Go.V Go.ChangeShapes Go.WideShapes Go.ChangeAt Go.RowKit

def eachL (y : Int) (v : Nat) : List Int := (List.range v).map fun u : Nat => -1 - (u : Int) - y
theorem eachL_succ (y : Int) (v : Nat) : eachL y (v + 1) = eachL y v ++ [-1 - (v : Int) - y] := by unfold eachL; rw [List.range_succ, List.map_append]; rfl
theorem eachL_len (y : Int) (v : Nat) : (eachL y v).length = v := by simp [eachL]
theorem eachL_get (y : Int) {v u : Nat} (hu : u < v) : gP (eachL y v) u = -1 - (u : Int) - y := by unfold gP eachL; simp [List.getD, hu]
theorem each_P {f : BF} (hf : Fine f) {L : LD} (hL : ClosedP f L) {y n : Int} (hy : 0 ≤ y ∧ y ≤ 255) (hr : f.regs ≤ 20) : AllocP f L (eachL y f.r) n := by
  have hr0 := hf.r0
  have hr2 : f.r ≤ 20 := by unfold BF.r; omega
  have neg : ∀ v < f.r, -4000 ≤ gP (eachL y f.r) v ∧ gP (eachL y f.r) v ≤ -1 := fun v hv => by rw [eachL_get y hv]; omega
  have ne : ∀ u < f.r, ∀ v < f.r, u ≠ v → gP (eachL y f.r) u ≠ gP (eachL y f.r) v := fun u hu v hv h => by rw [eachL_get y hu, eachL_get y hv]; omega
  refine ⟨hL, eachL_len _ _, fun v hv => .inr (neg v hv), fun u hu v hv h _ _ => ne u hu v hv h, fun b hb i hi hs v hv _ h => ?_, fun b hb i hi _ v hv _ => by have := neg v hv; omega⟩
  have hd := (hf.ins _ (BF.mem hb) _ (mem_getD hi)).2 hs
  exact ne v hv _ (by unfold BF.r; omega) h
structure EQ where
  v : Nat
  s : Nat
  nx : Nat
abbrev eachH (f : BF) (y : Int) (q : EQ) : List VObj := [⟨0, 24, 1, bfL f⟩, ⟨1, 33, 1, [.ref 2 q.s 0 q.v]⟩, ⟨q.s, 3, 1, (eachL y q.v).map I⟩]
/-- seedcorn/seedcornlaw28.AllocEach -/
def r_sclaw28_AllocEach : VC :=
 (.seq
 (.ops [
 ⟨(some 2), none, (.box 24 (.tmp 0))⟩,
 ⟨(some 4), none, (.mv (.const (.bool false)))⟩])
 (.seq
 (.seq
 (.ops [
 ⟨(some 7), none, (.ld true 2 (.tmp 2))⟩,
 ⟨(some 8), none, (.call (.func 8) [(.tmp 7)])⟩,
 ⟨(some 9), none, (.un .not (.tmp 8))⟩])
 (.cond (.tmp 9)
 (.seq
 (.ops [
 ⟨(some 10), none, (.call (.func 9) [])⟩,
 ⟨(some 4), none, (.mv (.tmp 10))⟩])
 .ret)
 .skip))
 (.seq
 (.ops [
 ⟨(some 5), none, (.alc 33 [(.slice none 0 0)])⟩])
 (.seq
 (.seq
 (.ops [
 ⟨(some 6), none, (.mv (.const (.int .i64 0)))⟩])
 (.block 0
 (.loop
 (.seq
 (.seq
 (.ops [
 ⟨(some 11), none, (.mv (.tmp 6))⟩,
 ⟨(some 12), none, (.fad 0 false 1 (.tmp 2))⟩,
 ⟨(some 13), none, (.ld false 1 (.tmp 12))⟩,
 ⟨(some 14), none, (.bin .lss (.tmp 11) (.tmp 13))⟩])
 (.cond (.tmp 14)
 .skip
 (.exit 0)))
 (.seq
 (.block 1
 (.ops [
 ⟨(some 17), none, (.fad 0 false 1 (.tmp 5))⟩,
 ⟨(some 18), none, (.ld false 1 (.tmp 17))⟩,
 ⟨(some 19), none, (.mv (.tmp 6))⟩,
 ⟨(some 20), none, (.bin .sub (.const (.int .i64 (-1))) (.tmp 19))⟩,
 ⟨(some 21), none, (.mv (.tmp 1))⟩,
 ⟨(some 22), none, (.conv .i64 (.tmp 21))⟩,
 ⟨(some 23), none, (.bin .sub (.tmp 20) (.tmp 22))⟩,
 ⟨(some 24), none, (.bsl 3 1 1 [(.int .i64 0)] [(0, (1, (.tmp 23)))])⟩,
 ⟨(some 25), none, (.app 3 1 8 (.tmp 18) (.tmp 24))⟩,
 ⟨(some 26), none, (.fad 0 false 1 (.tmp 5))⟩,
 ⟨none, none, (.sto false 1 (.tmp 26) (.tmp 25))⟩]))
 (.ops [
 ⟨(some 15), none, (.mv (.tmp 6))⟩,
 ⟨(some 16), none, (.bin .add (.tmp 15) (.const (.int .i64 1)))⟩,
 ⟨(some 6), none, (.mv (.tmp 16))⟩]))))))
 (.seq
 (.par true (.one ⟨(some 27), none, (.call (.func 9) [])⟩ (.one ⟨(some 28), none, (.mv (.tmp 27))⟩ (.one ⟨(some 29), (some (28, true)), (.ld true 2 (.tmp 2))⟩ (.one ⟨(some 30), (some (28, true)), (.ld true 2 (.tmp 2))⟩ (.one ⟨(some 31), (some (28, true)), (.call (.func 11) [(.tmp 30)])⟩ (.one ⟨(some 32), (some (28, true)), (.ld true 1 (.tmp 5))⟩ (.one ⟨(some 33), (some (28, true)), (.call (.func 14) [(.tmp 29), (.tmp 31), (.tmp 32), (.const (.int .i64 0))])⟩ (.one ⟨(some 34), none, (.pick (.tmp 28) (.tmp 33) (.const (.bool false)))⟩ (.one ⟨(some 35), none, (.mv (.tmp 34))⟩ (.one ⟨(some 36), (some (35, true)), (.ld true 2 (.tmp 2))⟩ (.one ⟨(some 37), (some (35, true)), (.ld true 2 (.tmp 2))⟩ (.one ⟨(some 38), (some (35, true)), (.call (.func 10) [(.tmp 37)])⟩ (.one ⟨(some 39), (some (35, true)), (.ld true 1 (.tmp 5))⟩ (.one ⟨(some 40), (some (35, true)), (.call (.func 14) [(.tmp 36), (.tmp 38), (.tmp 39), (.const (.int .i64 8))])⟩ (.one ⟨(some 41), none, (.pick (.tmp 35) (.tmp 40) (.const (.bool false)))⟩ (.one ⟨(some 4), none, (.mv (.tmp 41))⟩ .done)))))))))))))))))
 .ret)))))
theorem s_sclaw28_AllocEach : compFq Try.prog false true 5 = some (42, r_sclaw28_AllocEach, [(.tmp 4)]) := by kernel_rfl

theorem alloceach_c (f : BF) (y : Int) (hF : BfOk f) (hy : 0 ≤ y ∧ y ≤ 255) : Contract Try.prog 5 [bfA f, Y8 y] (fun r => r = B true) := by
  refine Contract.of_call (VCall.of_bodyQ hmix s_sclaw28_AllocEach (by simp) ?_)
  simp only [go_sem,Nat.reduceEqDiff,Nat.reduceAdd,Nat.reduceMul,↓reduceIte,↓dreduceIte,reduceCtorEq,Nat.reduceLeDiff,Nat.reduceLT,Nat.reduceSub,Int.reduceToNat,Int.reduceLE,Int.reduceLT, one_imm, one_ref, r_sclaw28_AllocEach]
  refine VCall.of_contract (small28_c f hF) (SleL.pure rfl) fun x hx => ?_
  subst hx
  cases hs : small28B f
  · simp only [go_sem,Nat.reduceEqDiff,Nat.reduceAdd,Nat.reduceMul,↓reduceIte,↓dreduceIte,reduceCtorEq,Nat.reduceLeDiff,Nat.reduceLT,Nat.reduceSub,Int.reduceToNat,Int.reduceLE,Int.reduceLT, one_imm, one_ref]
    refine VCall.of_contract awake_c (SleL.pure rfl) fun x hx => ?_
    subst hx
    simp only [go_sem,Nat.reduceEqDiff,Nat.reduceAdd,Nat.reduceMul,↓reduceIte,↓dreduceIte,reduceCtorEq,Nat.reduceLeDiff,Nat.reduceLT,Nat.reduceSub,Int.reduceToNat,Int.reduceLE,Int.reduceLT, one_imm, one_ref]
    exact ⟨_, Frz.pure rfl, rfl⟩
  obtain ⟨hf, h12, h20, ho, hins⟩ := small28_fine hs
  have hr : f.r ≤ 64 := by unfold BF.r; omega
  obtain ⟨L, hL⟩ := least_exists hf
  have hr0 := hf.r0
  have hregs : f.regs = (f.r : Int) := by unfold BF.r; omega
  have hmx : (2000000 : Nat) ≤ maxLen := by decide
  have w0 : IntKind.i64.wrap y = y := i64_in (by omega) (by omega)
  simp only [go_sem,Nat.reduceEqDiff,Nat.reduceAdd,Nat.reduceMul,↓reduceIte,↓dreduceIte,reduceCtorEq,Nat.reduceLeDiff,Nat.reduceLT,Nat.reduceSub,Int.reduceToNat,Int.reduceLE,Int.reduceLT, one_imm, one_ref]
  refine VW_loop (fun q : EQ => ⟨[(1, Y8 y), (2, .ptr 0 0 0), (5, .ptr 1 1 0), (6, I q.v)], eachH f y q, q.nx⟩) (fun q => q.v ≤ f.r) (fun q => f.r - q.v) ⟨0, 2, 3⟩ ?_ (Nat.zero_le _) ?_
  · have w := virt_at (env := [(1, Y8 y), (2, .ptr 0 0 0), (5, .ptr 1 1 0), (6, I ((0 : Nat) : Int))]) (H := [⟨0, 24, 1, bfL f⟩, ⟨1, 33, 1, [nilv]⟩]) (nx := 2) (i := 1) (ob := ⟨1, 33, 1, [nilv]⟩) (cs' := [.ref 2 2 0 0]) 3 1 (by decide) (by simp [get_cons]) rfl (by simp) rfl (fun j a b ha hb => by
      match j with
      | 0 => simp at ha hb; subst ha; subst hb; exact .inr ⟨rfl, by simp⟩
      | j + 1 => simp at ha)
    refine Wk.trans ?_ w
    exact Wk.mk (by simp [get_cons]) ⟨[], by simp⟩ (Nat.le_refl _)
  rintro ⟨v, s, nx⟩ hv
  simp only at hv
  by_cases hvr : v < f.r
  · have e : List.take v ((eachL y v).map I) ++ [AV.val (.int .i64 (-1 - (v : Int) - y))] = (eachL y (v + 1)).map I := by
      rw [List.take_of_length_le (by simp [eachL_len]), eachL_succ, List.map_append]; rfl
    have w1 : IntKind.i64.wrap (-1 - (v : Int)) = -1 - (v : Int) := i64_in (by omega) (by omega)
    have w2 : IntKind.i64.wrap (-1 - (v : Int) - y) = -1 - (v : Int) - y := i64_in (by omega) (by omega)
    simp only [go_sem,Nat.reduceEqDiff,Nat.reduceAdd,Nat.reduceMul,↓reduceIte,↓dreduceIte,reduceCtorEq,Nat.reduceLeDiff,Nat.reduceLT,Nat.reduceSub,Int.reduceToNat,Int.reduceLE,Int.reduceLT, one_imm, one_ref, List.length_map, hregs, w0, w1, w2, e, eq_true (show (v : Int) < f.r by omega)]
    repeat ((with_reducible refine And.intro ?_ ?_); · first | omega | (simp; omega))
    rw [i64_in (n := (v : Int) + 1) (by omega) (by omega)]
    exact ⟨⟨v + 1, nx + 1, nx + 1 + 1⟩, by simp only; omega, by simp only; omega, Wk.mk (by simp [get_cons]) ⟨[_], rfl⟩ (Nat.le_refl _)⟩
  obtain rfl : v = f.r := by omega
  have hl : (eachL y f.r).length ≤ 140737488355328 := by rw [eachL_len]; omega
  have b1 := (allocB_iff hf _ _ 0).2 (each_P hf (every_closed hf) (n := 0) hy h20)
  have b2 := (allocB_iff hf _ _ 8).2 (each_P hf hL.cl (n := 8) hy h20)
  have ok1 : LOK (everyL f) := (every_closed hf).sz.ok hf
  have ok2 : LOK L := hL.cl.sz.ok hf
  simp only [go_sem,Nat.reduceEqDiff,Nat.reduceAdd,Nat.reduceMul,↓reduceIte,↓dreduceIte,reduceCtorEq,Nat.reduceLeDiff,Nat.reduceLT,Nat.reduceSub,Int.reduceToNat,Int.reduceLE,Int.reduceLT, one_imm, one_ref, hregs, eq_false (show ¬ (f.r : Int) < f.r by omega)]
  refine awakeE ?_
  simp only [go_sem,Nat.reduceEqDiff,Nat.reduceAdd,Nat.reduceMul,↓reduceIte,↓dreduceIte,reduceCtorEq,Nat.reduceLeDiff,Nat.reduceLT,Nat.reduceSub,Int.reduceToNat,Int.reduceLE,Int.reduceLT, one_imm, one_ref]
  refine ECall.of (every_c f hf) (SleL.pure rfl) ⟨_, fun _ => Iff.rfl⟩ fun x hx => ?_
  subst hx
  simp only [go_sem,Nat.reduceEqDiff,Nat.reduceAdd,Nat.reduceMul,↓reduceIte,↓dreduceIte,reduceCtorEq,Nat.reduceLeDiff,Nat.reduceLT,Nat.reduceSub,Int.reduceToNat,Int.reduceLE,Int.reduceLT, one_imm, one_ref]
  refine ECall.ofN ((acheck_c f (everyL f) (eachL y f.r) 0 hf ok1 hl).vals fun r h => vals_true' r h) (fun H' nx' hA => ⟨_, _, rfl, Frz.pure rfl, _, _, rfl, Frz.pure rfl, _, _, rfl, Frz.agg ⟨_, _, rfl, frz_ints (l := eachL y f.r) (Nat.zero_le _) (hA 2 _ ⟨rfl, by decide⟩ rfl) (eachL_len _ _).symm, rfl⟩, _, _, rfl, Frz.pure rfl, rfl⟩) ⟨_, fun _ => Iff.rfl⟩ fun x hx => ?_
  rw [b1] at hx
  subst hx
  simp only [go_sem,Nat.reduceEqDiff,Nat.reduceAdd,Nat.reduceMul,↓reduceIte,↓dreduceIte,reduceCtorEq,Nat.reduceLeDiff,Nat.reduceLT,Nat.reduceSub,Int.reduceToNat,Int.reduceLE,Int.reduceLT, one_imm, one_ref]
  refine ECall.of (rof_c f hf L hL) (SleL.pure rfl) ⟨_, fun _ => Iff.rfl⟩ fun x hx => ?_
  subst hx
  simp only [go_sem,Nat.reduceEqDiff,Nat.reduceAdd,Nat.reduceMul,↓reduceIte,↓dreduceIte,reduceCtorEq,Nat.reduceLeDiff,Nat.reduceLT,Nat.reduceSub,Int.reduceToNat,Int.reduceLE,Int.reduceLT, one_imm, one_ref]
  refine ECall.ofN ((acheck_c f L (eachL y f.r) 8 hf ok2 hl).vals fun r h => vals_true' r h) (fun H' nx' hA => ⟨_, _, rfl, Frz.pure rfl, _, _, rfl, Frz.pure rfl, _, _, rfl, Frz.agg ⟨_, _, rfl, frz_ints (l := eachL y f.r) (Nat.zero_le _) (hA 2 _ ⟨rfl, by decide⟩ rfl) (eachL_len _ _).symm, rfl⟩, _, _, rfl, Frz.pure rfl, rfl⟩) ⟨_, fun _ => Iff.rfl⟩ fun x hx => ?_
  rw [b2] at hx
  subst hx
  simp only [go_sem,Nat.reduceEqDiff,Nat.reduceAdd,Nat.reduceMul,↓reduceIte,↓dreduceIte,reduceCtorEq,Nat.reduceLeDiff,Nat.reduceLT,Nat.reduceSub,Int.reduceToNat,Int.reduceLE,Int.reduceLT, one_imm, one_ref]
  exact ⟨_, Frz.pure rfl, rfl⟩

set_option maxRecDepth 100000 in
theorem alloceach_lifted (os : Os) (started : os.Started) (H : Type) (enc : TypeId × Value → H) :
    ReturnsInHanded {} Try.checked os 5 .any (Rows.allocEachSpec.pre6 enc Try.prog Try.f5 Rows.allocEachRow.domain false) (Rows.allocEachSpec.post enc Try.prog Try.f5 false true false false) := by
  refine returnsInHanded_of_change_sized (C := Try.checked) Try.own started (by kernel_rfl) Try.func5
    (ChangeSpec.witness6 (enc := enc) (C := Try.checked) false ⟨#[], #[.agg #[.int .i64 0, .slice none 0 0], .int .u8 0], []⟩ 8 (by kernel_rfl) (by kernel_rfl) (by kernel_rfl) (by kernel_rfl)) ?_
  intro W base args ds gs before hval hW _ hwt _
  refine law_calls (P := Try.prog) (n := 20) (shs := [bfSh, .int .u8]) (tb := 4) Try.laidOut rfl (by kernel_rfl) (by kernel_rfl) (by decide +kernel) (by kernel_rfl) (fun ds h => ?_) (fun xs hx => ?_) hval hW hwt
  · match ds, h with
    | [d1, d2], _ => rfl
  · obtain ⟨x, xs', rfl, hx1, hxs⟩ := fitS_cons hx
    obtain ⟨y, ys', rfl, hy, hys⟩ := fitS_cons hxs
    simp only [Sh.fitL] at hys
    subst hys
    obtain ⟨f, rfl, hF⟩ := bf_of hx1
    obtain ⟨n, rfl, hn⟩ := fit_y hy
    exact alloceach_c f n hF hn

theorem alloceach_holds : Rows.AllocEachSaid :=
  OpenClaim.holds_of_wide 5 Try.f5 rfl rfl rfl rfl rfl rfl rfl ⟨rfl, rfl, rfl, rfl, rfl⟩ rfl rfl rfl rfl rfl (by kernel_rfl) Try.func5 (by kernel_rfl)
    (of_decide_eq_true (by kernel_rfl)) (by unfold Func.isWrapper; first | (rw [if_pos (by decide +kernel)]; kernel_rfl) | (rw [if_neg (by decide +kernel)]; exact ⟨rfl, rfl⟩))
    (fun os started H enc _ => alloceach_lifted os started H enc)
end Go.Proofs.Ytncjbipnkdlkoaa
namespace Go.Proofs.Ytncjbipnkdlkoaa
set_option linter.unusedSimpArgs false
set_option linter.unusedVariables false
set_option maxRecDepth 10000
open Go.V Go.ChangeShapes Go.WideShapes Go.ChangeAt Go.RowKit

def shI (p : Int) : Int := if p < 0 ∧ -1000 < p then p - 2000 else p
theorem gP_map (pl : List Int) {v : Nat} (hv : v < pl.length) : gP (pl.map shI) v = shI (gP pl v) := by unfold gP; simp [List.getD, hv]
theorem more_P {f : BF} {L : LD} {pl : List Int} {n : Int} (h : AllocP f L pl n) {m : Int} (hm : 0 ≤ m) : AllocP f L pl (n + m) :=
  ⟨h.cl, h.len, fun v hv => by rcases h.ok v hv with g | g <;> omega, h.ap, h.st, h.ca⟩
theorem shift_P {f : BF} (hf : Fine f) {L : LD} {pl : List Int} {n : Int} (h : AllocP f L pl n) (hw : wdsI pl < 1000) : AllocP f L (pl.map shI) n := by
  have hl := h.len
  have key : ∀ v < f.r, gP (pl.map shI) v = (if gP pl v < 0 then gP pl v - 2000 else gP pl v) ∧ -1000 < gP pl v := fun v hv => by
    rw [gP_map _ (by omega)]
    unfold shI
    rcases h.ok v hv with g | g
    · rw [if_neg (by omega), if_neg (by omega)]; exact ⟨rfl, by omega⟩
    · have := wdsI_ge (pl := pl) (v := v) (by omega) g.1 (by omega)
      rw [if_pos (by omega), if_pos (by omega)]; exact ⟨rfl, by omega⟩
  have ne : ∀ u < f.r, ∀ v < f.r, gP pl u ≠ gP pl v → gP (pl.map shI) u ≠ gP (pl.map shI) v := fun u hu v hv hne => by
    obtain ⟨e1, k1⟩ := key u hu
    obtain ⟨e2, k2⟩ := key v hv
    rw [e1, e2]
    rcases h.ok u hu with g1 | g1 <;> rcases h.ok v hv with g2 | g2 <;> split <;> split <;> omega
  refine ⟨h.cl, by rw [List.length_map]; exact hl, fun v hv => ?_, fun u hu v hv hne a b => ne u hu v hv (h.ap u hu v hv hne a b), fun b hb i hi hs v hv a hne => ?_, fun b hb i hi hop v hv a => ?_⟩
  · obtain ⟨e1, k1⟩ := key v hv
    rw [e1]
    rcases h.ok v hv with g | g
    · rw [if_neg (by omega)]; exact .inl g
    · rw [if_pos (by omega)]; exact .inr (by omega)
  · have hd := (hf.ins _ (BF.mem hb) _ (mem_getD hi)).2 hs
    exact ne v hv _ (by unfold BF.r; omega) (h.st b hb i hi hs v hv a hne)
  · obtain ⟨e1, k1⟩ := key v hv
    have := h.ca b hb i hi hop v hv a
    rw [e1, if_pos this]; omega
abbrev askA (f : BF) (L : LD) (pl : List Int) (n : Int) : AV := .agg [I f.regs, bksA f.bks, rowsA L.inn, rowsA L.out, ints pl, I n]
abbrev alSh : Sh := .sl 1 8 (.int .i64)
abbrev askSh : Sh := .agg [.int .i64, .sl 5 56 bkSh, rowsSh, rowsSh, alSh, .int .i64]
theorem ask_of {x : AV} (h : Sh.fit askSh x) : ∃ (f : BF) (L : LD) (pl : List Int) (n : Int), x = askA f L pl n ∧ BfOk f ∧ LOK L ∧ pl.length ≤ 140737488351232 ∧ (∀ p ∈ pl, Int64 p) ∧ Int64 n := by
  simp only [askSh, Sh.fit.eq_5, Sh.fitL] at h
  obtain ⟨ys, rfl, a, _, rfl, ha, b, _, rfl, hb, c, _, rfl, hc, d, _, rfl, hd, e, _, rfl, he, g, _, rfl, hg, rfl⟩ := h
  obtain ⟨r, rfl, k1⟩ := fit_int ha
  simp only [Sh.fit.eq_4] at hb
  obtain ⟨xs, rfl, _, h1, h2⟩ := hb
  obtain ⟨l, rfl, h3⟩ := maps_of (f := bkA) (p := BkOk) (fun y hy => bk_of hy) xs h2
  obtain ⟨i, rfl, g1, g2⟩ := rows_of hc
  obtain ⟨o, rfl, g3, g4⟩ := rows_of hd
  obtain ⟨pl, rfl, g5, g6⟩ := fit_ints he
  obtain ⟨n, rfl, g7⟩ := fit_int hg
  exact ⟨⟨r, l⟩, ⟨i, o⟩, pl, n, rfl, ⟨k1, by simp [reachBytes] at h1 ⊢; omega, h3⟩, ⟨g1, g3, g2, g4⟩, by omega, g6, g7⟩
structure KQ where
  k : Nat
  s : Nat
  nx : Nat
abbrev askL (f : BF) (L : LD) (pl : List Int) (n : Int) : List AV := [I f.regs, bksA f.bks, rowsA L.inn, rowsA L.out, ints pl, I n]
abbrev moreH (f : BF) (L : LD) (pl : List Int) (n : Int) (q : KQ) : List VObj := [⟨0, 38, 1, askL f L pl n⟩, ⟨1, 33, 1, [.ref 2 q.s 0 q.k]⟩, ⟨q.s, 3, 1, ((pl.take q.k).map shI).map I⟩]
set_option maxHeartbeats 4000000 in
theorem allocmore_c (f : BF) (L : LD) (pl : List Int) (n m : Int) (hF : BfOk f) (hL : LOK L) (hpl : pl.length ≤ 140737488351232) (hn : Int64 n) (hm : 0 ≤ m ∧ m ≤ 255) : Contract Try.prog 4 [askA f L pl n, Y8 m] (fun r => r = B true) := by
  refine Contract.of_call (VCall.of_body hmix f_sclaw28_AllocMore (by simp) ?_)
  simp only [go_sem,Nat.reduceEqDiff,Nat.reduceAdd,Nat.reduceMul,↓reduceIte,↓dreduceIte,reduceCtorEq,Nat.reduceLeDiff,Nat.reduceLT,Nat.reduceSub,Int.reduceToNat,Int.reduceLE,Int.reduceLT, one_imm, one_ref, c_sclaw28_AllocMore]
  refine VCall.of_contract (small28_c f hF) (SleL.pure rfl) fun x hx => ?_
  subst hx
  cases hs : small28B f
  · simp only [go_sem,Nat.reduceEqDiff,Nat.reduceAdd,Nat.reduceMul,↓reduceIte,↓dreduceIte,reduceCtorEq,Nat.reduceLeDiff,Nat.reduceLT,Nat.reduceSub,Int.reduceToNat,Int.reduceLE,Int.reduceLT, one_imm, one_ref]
    refine VCall.of_contract awake_c (SleL.pure rfl) fun x hx => ?_
    subst hx
    simp only [go_sem,Nat.reduceEqDiff,Nat.reduceAdd,Nat.reduceMul,↓reduceIte,↓dreduceIte,reduceCtorEq,Nat.reduceLeDiff,Nat.reduceLT,Nat.reduceSub,Int.reduceToNat,Int.reduceLE,Int.reduceLT, one_imm, one_ref]
    exact ⟨_, Frz.pure rfl, rfl⟩
  obtain ⟨hf, h12, h20, ho, hins⟩ := small28_fine hs
  by_cases h40 : 40 < pl.length
  · simp only [go_sem,Nat.reduceEqDiff,Nat.reduceAdd,Nat.reduceMul,↓reduceIte,↓dreduceIte,reduceCtorEq,Nat.reduceLeDiff,Nat.reduceLT,Nat.reduceSub,Int.reduceToNat,Int.reduceLE,Int.reduceLT, one_imm, one_ref, List.length_map, gt_iff_lt, eq_true (show (40 : Int) < pl.length by omega)]
    refine VCall.of_contract awake_c (SleL.pure rfl) fun x hx => ?_
    subst hx
    simp only [go_sem,Nat.reduceEqDiff,Nat.reduceAdd,Nat.reduceMul,↓reduceIte,↓dreduceIte,reduceCtorEq,Nat.reduceLeDiff,Nat.reduceLT,Nat.reduceSub,Int.reduceToNat,Int.reduceLE,Int.reduceLT, one_imm, one_ref]
    exact ⟨_, Frz.pure rfl, rfl⟩
  by_cases h100 : 100 < n
  · simp only [go_sem,Nat.reduceEqDiff,Nat.reduceAdd,Nat.reduceMul,↓reduceIte,↓dreduceIte,reduceCtorEq,Nat.reduceLeDiff,Nat.reduceLT,Nat.reduceSub,Int.reduceToNat,Int.reduceLE,Int.reduceLT, one_imm, one_ref, List.length_map, gt_iff_lt, eq_false (show ¬ (40 : Int) < pl.length by omega), eq_true h100]
    refine VCall.of_contract awake_c (SleL.pure rfl) fun x hx => ?_
    subst hx
    simp only [go_sem,Nat.reduceEqDiff,Nat.reduceAdd,Nat.reduceMul,↓reduceIte,↓dreduceIte,reduceCtorEq,Nat.reduceLeDiff,Nat.reduceLT,Nat.reduceSub,Int.reduceToNat,Int.reduceLE,Int.reduceLT, one_imm, one_ref]
    exact ⟨_, Frz.pure rfl, rfl⟩
  simp only [go_sem,Nat.reduceEqDiff,Nat.reduceAdd,Nat.reduceMul,↓reduceIte,↓dreduceIte,reduceCtorEq,Nat.reduceLeDiff,Nat.reduceLT,Nat.reduceSub,Int.reduceToNat,Int.reduceLE,Int.reduceLT, one_imm, one_ref, List.length_map, gt_iff_lt, eq_false (show ¬ (40 : Int) < pl.length by omega), eq_false h100]
  refine VCall.of_contract (acheck_c f L pl n hf hL (by omega)) (SleL.pure rfl) fun x hx => ?_
  subst hx
  cases hA : allocB f L pl n
  · simp only [go_sem,Nat.reduceEqDiff,Nat.reduceAdd,Nat.reduceMul,↓reduceIte,↓dreduceIte,reduceCtorEq,Nat.reduceLeDiff,Nat.reduceLT,Nat.reduceSub,Int.reduceToNat,Int.reduceLE,Int.reduceLT, one_imm, one_ref]
    refine VCall.of_contract awake_c (SleL.pure rfl) fun x hx => ?_
    subst hx
    simp only [go_sem,Nat.reduceEqDiff,Nat.reduceAdd,Nat.reduceMul,↓reduceIte,↓dreduceIte,reduceCtorEq,Nat.reduceLeDiff,Nat.reduceLT,Nat.reduceSub,Int.reduceToNat,Int.reduceLE,Int.reduceLT, one_imm, one_ref]
    exact ⟨_, Frz.pure rfl, rfl⟩
  have hP := (allocB_iff hf L pl n).1 hA
  have hmx : (2000000 : Nat) ≤ maxLen := by decide
  have w0 : IntKind.i64.wrap m = m := i64_in (by omega) (by omega)
  have w4 : IntKind.i64.wrap (n + m) = n + m := i64_in (by have := hn.1; omega) (by omega)
  simp only [go_sem,Nat.reduceEqDiff,Nat.reduceAdd,Nat.reduceMul,↓reduceIte,↓dreduceIte,reduceCtorEq,Nat.reduceLeDiff,Nat.reduceLT,Nat.reduceSub,Int.reduceToNat,Int.reduceLE,Int.reduceLT, one_imm, one_ref]
  refine VW_loop (fun q : KQ => ⟨[(1, Y8 m), (2, .ptr 0 0 0), (5, .ptr 1 1 0), (6, I q.k)], moreH f L pl n q, q.nx⟩) (fun q => q.k ≤ pl.length) (fun q => pl.length - q.k) ⟨0, 2, 3⟩ ?_ (Nat.zero_le _) ?_
  · have w := virt_at (env := [(1, Y8 m), (2, .ptr 0 0 0), (5, .ptr 1 1 0), (6, I ((0 : Nat) : Int))]) (H := [⟨0, 38, 1, askL f L pl n⟩, ⟨1, 33, 1, [nilv]⟩]) (nx := 2) (i := 1) (ob := ⟨1, 33, 1, [nilv]⟩) (cs' := [.ref 2 2 0 0]) 3 1 (by decide) (by simp [get_cons]) rfl (by simp) rfl (fun j a b ha hb => by
      match j with
      | 0 => simp at ha hb; subst ha; subst hb; exact .inr ⟨rfl, by simp⟩
      | j + 1 => simp at ha)
    refine Wk.trans ?_ w
    exact Wk.mk (by simp [get_cons]) ⟨[], by simp⟩ (Nat.le_refl _)
  rintro ⟨k, s, nx⟩ hk
  simp only at hk
  by_cases hkl : k < pl.length
  · have e : ∀ p, p = shI (pl.getD k default) → List.take k (((pl.take k).map shI).map I) ++ [AV.val (.int .i64 p)] = ((pl.take (k + 1)).map shI).map I := fun p hp => by
      subst hp
      rw [List.take_of_length_le (by simp; omega), List.take_add_one, List.map_append, List.map_append]
      simp [List.getD, List.getElem?_eq_getElem hkl]
    have hsh : shI (pl.getD k default) = if pl.getD k default < 0 ∧ -1000 < pl.getD k default then pl.getD k default - 2000 else pl.getD k default := rfl
    generalize hgp : pl.getD k default = p at e hsh
    by_cases h1 : p < 0
    · by_cases h2 : -1000 < p
      · have w1 : IntKind.i64.wrap (p - 2000) = p - 2000 := i64_in (by omega) (by omega)
        rw [if_pos ⟨h1, h2⟩] at hsh
        simp only [go_sem,Nat.reduceEqDiff,Nat.reduceAdd,Nat.reduceMul,↓reduceIte,↓dreduceIte,reduceCtorEq,Nat.reduceLeDiff,Nat.reduceLT,Nat.reduceSub,Int.reduceToNat,Int.reduceLE,Int.reduceLT, one_imm, one_ref, List.length_map, hgp, w1, gt_iff_lt, eq_true h1, eq_true h2, eq_true (show (k : Int) < pl.length by omega)]
        repeat ((with_reducible refine And.intro ?_ ?_); · first | omega | (simp; omega))
        rw [i64_in (n := (k : Int) + 1) (by omega) (by omega), e _ hsh.symm]
        exact ⟨⟨k + 1, nx + 1, nx + 1 + 1⟩, by simp only; omega, by simp only; omega, Wk.mk (by simp [get_cons]) ⟨[_], rfl⟩ (Nat.le_refl _)⟩
      · rw [if_neg (fun h => h2 h.2)] at hsh
        simp only [go_sem,Nat.reduceEqDiff,Nat.reduceAdd,Nat.reduceMul,↓reduceIte,↓dreduceIte,reduceCtorEq,Nat.reduceLeDiff,Nat.reduceLT,Nat.reduceSub,Int.reduceToNat,Int.reduceLE,Int.reduceLT, one_imm, one_ref, List.length_map, hgp, gt_iff_lt, eq_true h1, eq_false h2, eq_true (show (k : Int) < pl.length by omega)]
        repeat ((with_reducible refine And.intro ?_ ?_); · first | omega | (simp; omega))
        rw [i64_in (n := (k : Int) + 1) (by omega) (by omega), e _ hsh.symm]
        exact ⟨⟨k + 1, nx + 1, nx + 1 + 1⟩, by simp only; omega, by simp only; omega, Wk.mk (by simp [get_cons]) ⟨[_], rfl⟩ (Nat.le_refl _)⟩
    · rw [if_neg (fun h => h1 h.1)] at hsh
      simp only [go_sem,Nat.reduceEqDiff,Nat.reduceAdd,Nat.reduceMul,↓reduceIte,↓dreduceIte,reduceCtorEq,Nat.reduceLeDiff,Nat.reduceLT,Nat.reduceSub,Int.reduceToNat,Int.reduceLE,Int.reduceLT, one_imm, one_ref, List.length_map, hgp, gt_iff_lt, eq_false h1, eq_true (show (k : Int) < pl.length by omega)]
      repeat ((with_reducible refine And.intro ?_ ?_); · first | omega | (simp; omega))
      rw [i64_in (n := (k : Int) + 1) (by omega) (by omega), e _ hsh.symm]
      exact ⟨⟨k + 1, nx + 1, nx + 1 + 1⟩, by simp only; omega, by simp only; omega, Wk.mk (by simp [get_cons]) ⟨[_], rfl⟩ (Nat.le_refl _)⟩
  obtain rfl : k = pl.length := by omega
  have c1 := (allocB_iff hf _ _ _).2 (more_P hP (m := m) (by omega))
  have hsl : (pl.map shI).length ≤ 140737488355328 := by rw [List.length_map]; omega
  simp only [go_sem,Nat.reduceEqDiff,Nat.reduceAdd,Nat.reduceMul,↓reduceIte,↓dreduceIte,reduceCtorEq,Nat.reduceLeDiff,Nat.reduceLT,Nat.reduceSub,Int.reduceToNat,Int.reduceLE,Int.reduceLT, one_imm, one_ref, List.length_map, eq_false (show ¬ (pl.length : Int) < pl.length by omega)]
  refine VCall.of_contract (awords_c pl (by omega)) (SleL.pure rfl) fun x hx => ?_
  subst hx
  by_cases hw : 1000 ≤ wdsI pl
  · simp only [go_sem,Nat.reduceEqDiff,Nat.reduceAdd,Nat.reduceMul,↓reduceIte,↓dreduceIte,reduceCtorEq,Nat.reduceLeDiff,Nat.reduceLT,Nat.reduceSub,Int.reduceToNat,Int.reduceLE,Int.reduceLT, one_imm, one_ref, List.length_map, ge_iff_le, eq_true hw, w0, w4]
    refine VCall.of_contract awake_c (SleL.pure rfl) fun x hx => ?_
    subst hx
    simp only [go_sem,Nat.reduceEqDiff,Nat.reduceAdd,Nat.reduceMul,↓reduceIte,↓dreduceIte,reduceCtorEq,Nat.reduceLeDiff,Nat.reduceLT,Nat.reduceSub,Int.reduceToNat,Int.reduceLE,Int.reduceLT, one_imm, one_ref, w0, w4]
    refine VCall.of_contract (acheck_c f L pl (n + m) hf hL (by omega)) (SleL.pure rfl) fun x hx => ?_
    rw [c1] at hx
    subst hx
    simp only [go_sem,Nat.reduceEqDiff,Nat.reduceAdd,Nat.reduceMul,↓reduceIte,↓dreduceIte,reduceCtorEq,Nat.reduceLeDiff,Nat.reduceLT,Nat.reduceSub,Int.reduceToNat,Int.reduceLE,Int.reduceLT, one_imm, one_ref]
    refine VCall.of_contract (acheck_c f L pl n hf hL (by omega)) (SleL.pure rfl) fun x hx => ?_
    rw [hA] at hx
    subst hx
    simp only [go_sem,Nat.reduceEqDiff,Nat.reduceAdd,Nat.reduceMul,↓reduceIte,↓dreduceIte,reduceCtorEq,Nat.reduceLeDiff,Nat.reduceLT,Nat.reduceSub,Int.reduceToNat,Int.reduceLE,Int.reduceLT, one_imm, one_ref]
    exact ⟨_, Frz.pure rfl, rfl⟩
  · simp only [go_sem,Nat.reduceEqDiff,Nat.reduceAdd,Nat.reduceMul,↓reduceIte,↓dreduceIte,reduceCtorEq,Nat.reduceLeDiff,Nat.reduceLT,Nat.reduceSub,Int.reduceToNat,Int.reduceLE,Int.reduceLT, one_imm, one_ref, List.length_map, ge_iff_le, eq_false hw, w0, w4]
    refine VCall.of_contract awake_c (SleL.pure rfl) fun x hx => ?_
    subst hx
    simp only [go_sem,Nat.reduceEqDiff,Nat.reduceAdd,Nat.reduceMul,↓reduceIte,↓dreduceIte,reduceCtorEq,Nat.reduceLeDiff,Nat.reduceLT,Nat.reduceSub,Int.reduceToNat,Int.reduceLE,Int.reduceLT, one_imm, one_ref, w0, w4]
    refine VCall.of_contract (acheck_c f L pl (n + m) hf hL (by omega)) (SleL.pure rfl) fun x hx => ?_
    rw [c1] at hx
    subst hx
    simp only [go_sem,Nat.reduceEqDiff,Nat.reduceAdd,Nat.reduceMul,↓reduceIte,↓dreduceIte,reduceCtorEq,Nat.reduceLeDiff,Nat.reduceLT,Nat.reduceSub,Int.reduceToNat,Int.reduceLE,Int.reduceLT, one_imm, one_ref]
    refine VCall.of_contractN ((acheck_c f L (pl.map shI) n hf hL hsl).vals fun r h => vals_true' r h) ?_ fun x hx => ?_
    · exact ⟨_, _, rfl, Frz.pure rfl, _, _, rfl, Frz.pure rfl, _, _, rfl, Frz.agg ⟨_, _, rfl, frz_ints (l := pl.map shI) (id := 2) (s := s) (ty := 3) (Nat.zero_le _) (by show some _ = _; rw [List.take_length]) (by simp), rfl⟩, _, _, rfl, Frz.pure rfl, rfl⟩
    rw [(allocB_iff hf _ _ _).2 (shift_P hf hP (by omega))] at hx
    subst hx
    simp only [go_sem,Nat.reduceEqDiff,Nat.reduceAdd,Nat.reduceMul,↓reduceIte,↓dreduceIte,reduceCtorEq,Nat.reduceLeDiff,Nat.reduceLT,Nat.reduceSub,Int.reduceToNat,Int.reduceLE,Int.reduceLT, one_imm, one_ref]
    exact ⟨_, Frz.pure rfl, rfl⟩

set_option maxRecDepth 100000 in
theorem allocmore_lifted (os : Os) (started : os.Started) (H : Type) (enc : TypeId × Value → H) :
    ReturnsInHanded {} Try.checked os 4 .any (Rows.allocMoreSpec.pre6 enc Try.prog Try.f4 Rows.allocMoreRow.domain false) (Rows.allocMoreSpec.post enc Try.prog Try.f4 false true false false) := by
  refine returnsInHanded_of_change_sized (C := Try.checked) Try.own started (by kernel_rfl) Try.func4
    (ChangeSpec.witness6 (enc := enc) (C := Try.checked) false ⟨#[], #[.agg #[.int .i64 0, .slice none 0 0, .slice none 0 0, .slice none 0 0, .slice none 0 0, .int .i64 0], .int .u8 0], []⟩ 8 (by kernel_rfl) (by kernel_rfl) (by kernel_rfl) (by kernel_rfl)) ?_
  intro W base args ds gs before hval hW _ hwt _
  refine law_calls (P := Try.prog) (n := 20) (shs := [askSh, .int .u8]) (tb := 4) Try.laidOut rfl (by kernel_rfl) (by kernel_rfl) (by decide +kernel) (by kernel_rfl) (fun ds h => ?_) (fun xs hx => ?_) hval hW hwt
  · match ds, h with
    | [d1, d2], _ => rfl
  · obtain ⟨x, xs', rfl, hx1, hxs⟩ := fitS_cons hx
    obtain ⟨y, ys', rfl, hy, hys⟩ := fitS_cons hxs
    simp only [Sh.fitL] at hys
    subst hys
    obtain ⟨f, L, pl, n, rfl, g1, g2, g3, g4, g5⟩ := ask_of hx1
    obtain ⟨m, rfl, hm⟩ := fit_y hy
    exact allocmore_c f L pl n m g1 g2 g3 g5 hm

theorem allocmore_holds : Rows.AllocMoreSaid :=
  OpenClaim.holds_of_wide 4 Try.f4 rfl rfl rfl rfl rfl rfl rfl ⟨rfl, rfl, rfl, rfl, rfl⟩ rfl rfl rfl rfl rfl (by kernel_rfl) Try.func4 (by kernel_rfl)
    (of_decide_eq_true (by kernel_rfl)) (by unfold Func.isWrapper; first | (rw [if_pos (by decide +kernel)]; kernel_rfl) | (rw [if_neg (by decide +kernel)]; exact ⟨rfl, rfl⟩))
    (fun os started H enc _ => allocmore_lifted os started H enc)
end Go.Proofs.Ytncjbipnkdlkoaa
