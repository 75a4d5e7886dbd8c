/-
  The search in memory: its record, the rows, which blocks wait: 'wait': contract. No condition. The search in memory: 'grow': contract. No condition. The least table by the program's search, from its beginning on: contract. No condition. The search's beginning in memory: what is gathered block by block. No condition. The search's beginning: nil slices taken for slices over objects that are not there yet. No condition. The least table by the document: contract. No condition. The search's beginning: contract. No condition. The search's beginning, whole, and the evaluator of the live registers: contracts. No condition. The engine: programs of the call's own, given to functions that answer with values. No condition. What matters: which functions are small, tables put together: contracts. No condition.
-/
import Derived.Test.YtjdeediehmhdoaaQ2
import Derived.Test.YtjdeediehmhdoaaVH
import Derived.Test.YtjdeediehmhdoaaVC
namespace Go.Proofs.Ytjdeediehmhdoaa
set_option linter.unusedSimpArgs false
set_option linter.unusedVariables false
set_option maxRecDepth 10000
open Go.V

abbrev readL64 (f : BF) : List AV := f.bks.map fun b => .imm 1 (rowC64 (readL b f.r))
abbrev setL64 (f : BF) : List AV := f.bks.map fun b => .imm 1 (rowC64 (setL b f.r))
structure Ids where
  kS : Nat
  sS : Nat
  kI : Nat
  sI : Nat
  kO : Nat
  sO : Nat
  kW : Nat
  sW : Nat
  kA : Nat
  sA : Nat
  kR : Nat
  sR : Nat
  kT : Nat
  sT : Nat
  pi : Nat → Nat × Nat
  ri : Nat → Nat × Nat
  ro : Nat → Nat × Nat
def flags (n : Nat) (wt : List Nat) : List Bool := (List.range n).map fun b => decide (b ∈ wt)
abbrev slvL (f : BF) (q : Ids) (wv : AV) : List AV := [nextA f, .ref q.kA q.sA 0 f.n, .ref q.kR q.sR 0 f.n, .ref q.kT q.sT 0 f.n, .ref q.kI q.sI 0 f.n, .ref q.kO q.sO 0 f.n, wv, .ref q.kW q.sW 0 f.n]
abbrev rowsL (n r : Nat) (g : Nat → Nat × Nat) : List AV := (List.range n).map fun b => .ref (g b).1 (g b).2 0 (rl r)
abbrev natsL (l : List Nat) : List AV := l.map fun b => I (b : Nat)

/-- The blocks that wait, as the record tells them. -/
def WtV (n : Nat) (pi : Nat → Nat × Nat) (H : List VObj) (wv : AV) (wt : List Nat) : Prop := (wv = nilv ∧ wt = []) ∨ ∃ k s rest, wv = .ref k s 0 wt.length ∧ H[k]? = some ⟨s, 3, 1, natsL (wt ++ rest)⟩ ∧ ∀ c < n, (pi c).1 ≠ k
structure HS (f : BF) (H : List VObj) (q : Ids) (wv : AV) (σ : SV) : Prop where
  so : H[q.kS]? = some ⟨q.sS, 66, 1, slvL f q wv⟩
  li : H[q.kI]? = some ⟨q.sI, 70, 1, rowsL f.n f.r q.ri⟩
  lo : H[q.kO]? = some ⟨q.sO, 70, 1, rowsL f.n f.r q.ro⟩
  ri : ∀ b < f.n, H[(q.ri b).1]? = some ⟨(q.ri b).2, 88, 1, rowC64 (σ.I.getD b [])⟩
  ro : ∀ b < f.n, H[(q.ro b).1]? = some ⟨(q.ro b).2, 88, 1, rowC64 (σ.O.getD b [])⟩
  w : H[q.kW]? = some ⟨q.sW, 4, 1, (flags f.n σ.wt).map B⟩
  wt : WtV f.n q.pi H wv σ.wt
  la : H[q.kA]? = some ⟨q.sA, 43, 1, (List.range f.n).map fun b => .ref (q.pi b).1 (q.pi b).2 0 (predL f b).length⟩
  lr : H[q.kR]? = some ⟨q.sR, 70, 1, readL64 f⟩
  lt : H[q.kT]? = some ⟨q.sT, 70, 1, setL64 f⟩
  pr : ∀ b < f.n, H[(q.pi b).1]? = some ⟨(q.pi b).2, 3, 1, natsL (predL f b)⟩
  dI : ∀ b < f.n, ∀ c < f.n, (q.ri b).1 = (q.ri c).1 → b = c
  dO : ∀ b < f.n, ∀ c < f.n, (q.ro b).1 = (q.ro c).1 → b = c
  dIO : ∀ b < f.n, ∀ c < f.n, (q.ri b).1 ≠ (q.ro c).1

theorem WtV.one {n : Nat} {pi : Nat → Nat × Nat} {H : List VObj} {wv : AV} {wt : List Nat} (h : WtV n pi H wv wt) : wv.one = true := by
  rcases h with ⟨h, _⟩ | ⟨_, _, _, h, _⟩ <;> rw [h] <;> rfl
theorem flags_get {n b : Nat} {wt : List Nat} (h : b < n) : gB (flags n wt) b = decide (b ∈ wt) := by
  unfold flags; rw [gB, List.getD]; simp [h]
theorem flags_len (n : Nat) (wt : List Nat) : (flags n wt).length = n := by simp [flags]
theorem flags_add {n b : Nat} {wt : List Nat} (h : b < n) : (flags n wt).set b true = flags n (wt ++ [b]) := gB_ext (by simp [flags]) fun v hv => by
  have hv' : v < n := by simpa [flags] using hv
  rw [gB_set _ _ _ _ (by rw [flags_len]; exact hv'), flags_get hv', flags_get hv']
  by_cases e : b = v
  · subst e; simp
  · rw [if_neg e]
    have : ¬ v = b := fun h => e h.symm
    simp [this]
theorem nats_B (l : List Nat) : allCells (natsL l) = natsL l := allCells_map1 (fun _ => rfl) l
/-- What other types hold stays. -/
theorem HS.keep {f : BF} {H H' : List VObj} {q : Ids} {wv wv' : AV} {σ : SV} {wt' : List Nat} (h : HS f H q wv σ) (k : KeepT [66, 4, 3] H H')
    (so : H'[q.kS]? = some ⟨q.sS, 66, 1, slvL f q wv'⟩) (w : H'[q.kW]? = some ⟨q.sW, 4, 1, (flags f.n wt').map B⟩) (wt : WtV f.n q.pi H' wv' wt') (pr : ∀ b < f.n, H'[(q.pi b).1]? = H[(q.pi b).1]?) : HS f H' q wv' ⟨σ.I, σ.O, wt'⟩ :=
  ⟨so, k _ _ h.li (by simp), k _ _ h.lo (by simp), fun b hb => k _ _ (h.ri b hb) (by simp), fun b hb => k _ _ (h.ro b hb) (by simp), w, wt, k _ _ h.la (by simp), k _ _ h.lr (by simp), k _ _ h.lt (by simp), fun b hb => (pr b hb).trans (h.pr b hb), h.dI, h.dO, h.dIO⟩

theorem wait_v {f : BF} {H : List VObj} {q : Ids} {wv : AV} {σ : SV} (h : HS f H q wv σ) (nx b : Nat) (hb : b < f.n) (hn : f.n ≤ 500) (hl : σ.wt.length ≤ 500) (C : AV → List VObj → Nat → Prop)
    (hC : ∀ r H' nx' wv', HS f H' q wv' ⟨σ.I, σ.O, waitS σ.wt b⟩ → KeepT [66, 4, 3] H H' → C r H' nx') :
    VCall Try.prog 32 [.ptr q.kS q.sS 0, I b] H nx C := by
  refine VCall.of_body hmix f_live_solver_wait (by simp) ?_
  have hmx : (200000 : Nat) ≤ maxLen := by decide
  have hso := h.so
  have hw := h.w
  have e1 := ty_ne hw hso (by simp)
  have e1' := ty_ne hso hw (by simp)
  have l1 := lt_of hso
  have l2 := lt_of hw
  by_cases hm : b ∈ σ.wt
  · have hg : gB (flags f.n σ.wt) b = true := by rw [flags_get hb, decide_eq_true hm]
    simp only [go_sem,Nat.reduceEqDiff,Nat.reduceAdd,Nat.reduceMul,↓reduceIte,↓dreduceIte,reduceCtorEq,Nat.reduceLeDiff,Nat.reduceLT,Nat.reduceSub,Int.reduceToNat,Int.reduceLE,Int.reduceLT, c_live_solver_wait, hso, hw, one_imm, one_ref, gB_getD, hg, flags_len]
    repeat ((with_reducible refine And.intro ?_ ?_); · omega)
    refine hC _ H _ wv ?_ (KeepT.refl _ _)
    rw [show waitS σ.wt b = σ.wt from if_pos hm]
    exact h
  · have hg : gB (flags f.n σ.wt) b = false := by rw [flags_get hb, decide_eq_false hm]
    have hws : waitS σ.wt b = σ.wt ++ [b] := if_neg hm
    rw [hws] at hC
    rcases h.wt with ⟨rfl, hwt⟩ | ⟨k, s, rest, rfl, hk, hkp⟩
    · have n1 := ne_len hso
      have n2 := ne_len hw
      simp only [go_sem,Nat.reduceEqDiff,Nat.reduceAdd,Nat.reduceMul,↓reduceIte,↓dreduceIte,reduceCtorEq,Nat.reduceLeDiff,Nat.reduceLT,Nat.reduceSub,Int.reduceToNat,Int.reduceLE,Int.reduceLT, c_live_solver_wait, hso, hw, one_imm, one_ref, gB_getD, hg, flags_len, set_B, flags_add hb, e1, e1', l1, l2, List.getElem?_set, List.getElem?_append, List.length_set, List.length_append, Nat.lt_irrefl, Nat.sub_self, List.length_cons, List.length_nil, ↓reduceIte, List.getElem?_cons_zero]
      repeat ((with_reducible refine And.intro ?_ ?_); · first | omega | exact ⟨rfl, rfl, rfl⟩)
      have m1 := eq_true (show q.kS < H.length + 1 by have := of_eq_true l1; omega)
      have m2 := eq_true (show q.kW < H.length + 1 by have := of_eq_true l2; omega)
      have m3 := eq_true (show q.kS < H.length + 1 + 1 by have := of_eq_true l1; omega)
      have m4 := ne_len' hso
      have m5 := eq_false (show ¬ q.kS = H.length + 1 by have := of_eq_true l1; omega)
      have kp : ∀ (x y : VObj) (oW oS : VObj), KeepT [66, 4, 3] H ((H.set q.kW oW ++ [x] ++ [y]).set q.kS oS) := fun x y oW oS =>
        (((KeepT.set hw (by simp)).trans (KeepT.app _ _ _)).trans (KeepT.app _ _ _)).trans (KeepT.set (ob := ⟨q.sS, 66, 1, slvL f q nilv⟩) (by simp only [List.getElem?_set, List.getElem?_append, List.length_set, List.length_append, Nat.lt_irrefl, Nat.sub_self, List.length_cons, List.length_nil, ↓reduceIte, List.getElem?_cons_zero, Nat.zero_add, m1, m2, m3, m4, l1, l2, e1, e1', hso, hw]) (by simp))
      refine hC _ _ _ (.ref (H.length + 1) (nx + 1) 0 1) (h.keep (wt' := σ.wt ++ [b]) (kp _ _ _ _) ?_ ?_ (.inr ⟨H.length + 1, nx + 1, [], by rw [hwt]; rfl, ?_, fun c hc e => by have := of_eq_true (lt_of (h.pr c hc)); omega⟩) fun c hc => ?_) (kp _ _ _ _)
      · simp only [List.getElem?_set, List.getElem?_append, List.length_set, List.length_append, Nat.lt_irrefl, Nat.sub_self, List.length_cons, List.length_nil, ↓reduceIte, List.getElem?_cons_zero, Nat.zero_add, m1, m2, m3, m4, l1, l2, e1, e1', hso, hw]
      · simp only [List.getElem?_set, List.getElem?_append, List.length_set, List.length_append, Nat.lt_irrefl, Nat.sub_self, List.length_cons, List.length_nil, ↓reduceIte, List.getElem?_cons_zero, Nat.zero_add, m1, m2, m3, m4, l1, l2, e1, e1', hso, hw]
      · simp only [List.getElem?_set, List.getElem?_append, List.length_set, List.length_append, Nat.lt_irrefl, Nat.sub_self, List.length_cons, List.length_nil, ↓reduceIte, List.getElem?_cons_zero, Nat.zero_add, m1, m2, m3, m4, l1, l2, e1, e1', hso, hw, m5]
        rw [hwt]; rfl
      · have hp := h.pr c hc
        have p1 := ty_ne hw hp (by simp)
        have p2 := ty_ne hso hp (by simp)
        have p3 := lt_of hp
        have p4 := eq_true (show (q.pi c).1 < H.length + 1 by have := of_eq_true p3; omega)
        simp only [List.getElem?_set, List.getElem?_append, List.length_set, List.length_append, List.length_cons, List.length_nil, ↓reduceIte, Nat.zero_add, p1, p2, p3, p4]
    · have e2 := ty_ne hk hso (by simp)
      have e3 := ty_ne hk hw (by simp)
      have e2' := ty_ne hso hk (by simp)
      have e3' := ty_ne hw hk (by simp)
      have l3 := lt_of hk
      simp only [go_sem,Nat.reduceEqDiff,Nat.reduceAdd,Nat.reduceMul,↓reduceIte,↓dreduceIte,reduceCtorEq,Nat.reduceLeDiff,Nat.reduceLT,Nat.reduceSub,Int.reduceToNat,Int.reduceLE,Int.reduceLT, c_live_solver_wait, hso, hw, hk, one_imm, one_ref, gB_getD, hg, flags_len, set_B, flags_add hb, e1, e1', l1, l2, e2, e2', e3, e3', l3, List.getElem?_set, List.getElem?_append, List.length_set, List.length_append, Nat.lt_irrefl, Nat.sub_self, List.length_cons, List.length_nil, ↓reduceIte, List.getElem?_cons_zero]
      repeat ((with_reducible refine And.intro ?_ ?_); · first | omega | exact ⟨rfl, rfl, rfl⟩)
      have m1 := eq_true (show q.kS < H.length + 1 by have := of_eq_true l1; omega)
      have m2 := eq_true (show q.kW < H.length + 1 by have := of_eq_true l2; omega)
      have m3 := eq_true (show k < H.length + 1 by have := of_eq_true l3; omega)
      have kp : ∀ (x y : VObj) (oW oS : VObj), KeepT [66, 4, 3] H (((H.set q.kW oW ++ [x]).set k y).set q.kS oS) := fun x y oW oS =>
        (((KeepT.set hw (by simp)).trans (KeepT.app _ _ _)).trans (KeepT.set (ob := ⟨s, 3, 1, natsL (σ.wt ++ rest)⟩) (by simp only [List.getElem?_set, List.getElem?_append, List.length_set, List.length_append, Nat.lt_irrefl, Nat.sub_self, List.length_cons, List.length_nil, ↓reduceIte, List.getElem?_cons_zero, m1, m2, m3, l1, l2, l3, e1, e1', e2, e2', e3, e3', hso, hw, hk]) (by simp))).trans
          (KeepT.set (ob := ⟨q.sS, 66, 1, slvL f q (.ref k s 0 σ.wt.length)⟩) (by simp only [List.getElem?_set, List.getElem?_append, List.length_set, List.length_append, Nat.lt_irrefl, Nat.sub_self, List.length_cons, List.length_nil, ↓reduceIte, List.getElem?_cons_zero, m1, m2, m3, l1, l2, l3, e1, e1', e2, e2', e3, e3', hso, hw, hk]) (by simp))
      refine hC _ _ _ (.ref k (nx + 1) 0 (σ.wt.length + 1)) (h.keep (wt' := σ.wt ++ [b]) (kp _ _ _ _) ?_ ?_ (.inr ⟨k, nx + 1, [], by simp, ?_, hkp⟩) fun c hc => ?_) (kp _ _ _ _)
      · simp only [List.getElem?_set, List.getElem?_append, List.length_set, List.length_append, Nat.lt_irrefl, Nat.sub_self, List.length_cons, List.length_nil, ↓reduceIte, List.getElem?_cons_zero, m1, m2, m3, l1, l2, l3, e1, e1', e2, e2', e3, e3', hso, hw, hk]
      · simp only [List.getElem?_set, List.getElem?_append, List.length_set, List.length_append, Nat.lt_irrefl, Nat.sub_self, List.length_cons, List.length_nil, ↓reduceIte, List.getElem?_cons_zero, m1, m2, m3, l1, l2, l3, e1, e1', e2, e2', e3, e3', hso, hw, hk]
      · simp only [List.getElem?_set, List.getElem?_append, List.length_set, List.length_append, Nat.lt_irrefl, Nat.sub_self, List.length_cons, List.length_nil, ↓reduceIte, List.getElem?_cons_zero, m1, m2, m3, l1, l2, l3, e1, e1', e2, e2', e3, e3', hso, hw, hk]
        simp [natsL]
      · have hp := h.pr c hc
        have p1 := ty_ne hw hp (by simp)
        have p2 := ty_ne hso hp (by simp)
        have p3 := lt_of hp
        have p5 := eq_false (show ¬ k = (q.pi c).1 from fun e => hkp c hc e.symm)
        simp only [List.getElem?_set, List.getElem?_append, List.length_set, List.length_append, List.length_cons, List.length_nil, ↓reduceIte, Nat.zero_add, p1, p2, p3, p5]
end Go.Proofs.Ytjdeediehmhdoaa
namespace Go.Proofs.Ytjdeediehmhdoaa
set_option linter.unusedSimpArgs false
set_option linter.unusedVariables false
set_option maxRecDepth 10000
open Go.V

theorem cellT_rows {n r b : Nat} {g : Nat → Nat × Nat} {C : AV → Prop} : cellT (rowsL n r g) b false 1 C .mk = (b < n ∧ C (.ref (g b).1 (g b).2 0 (rl r))) := by
  rw [cellT_map (fun _ => rfl)]
  apply propext
  rw [List.length_range]
  refine ⟨fun ⟨h1, h2⟩ => ⟨h1, ?_⟩, fun ⟨h1, h2⟩ => ⟨h1, ?_⟩⟩
  · rw [range_get h1] at h2; exact h2
  · rw [range_get h1]; exact h2
theorem cellT_imm {l : List Bk} {g : Bk → List AV} {b : Nat} {C : AV → Prop} : cellT (l.map fun k => AV.imm 1 (g k)) b false 1 C .mk = (b < l.length ∧ C (.imm 1 (g (l.getD b default)))) := cellT_map fun _ => rfl
section
variable {f : BF} {H : List VObj} {q : Ids} {wv : AV} {σ : SV}
theorem WtV.keep {n : Nat} {pi : Nat → Nat × Nat} {H H' : List VObj} {wv : AV} {wt : List Nat} {ts : List Nat} (h : WtV n pi H wv wt) (k : KeepT ts H H') (ht : 3 ∉ ts) : WtV n pi H' wv wt := by
  rcases h with h | ⟨i, s, rest, h1, h2, h3⟩
  · exact .inl h
  · exact .inr ⟨i, s, rest, h1, k _ _ h2 ht, h3⟩
theorem HS.setO (h : HS f H q wv σ) (hs : SizedP f σ.L) {b : Nat} (hb : b < f.n) (l : List Bool) : HS f (H.set (q.ro b).1 ⟨(q.ro b).2, 88, 1, rowC64 l⟩) q wv ⟨σ.I, σ.O.set b l, σ.wt⟩ := by
  have k : KeepT [88] H (H.set (q.ro b).1 ⟨(q.ro b).2, 88, 1, rowC64 l⟩) := KeepT.set (h.ro b hb) (by simp)
  have hO : b < σ.O.length := by rw [show σ.O.length = f.n from hs.o]; exact hb
  refine ⟨k _ _ h.so (by simp), k _ _ h.li (by simp), k _ _ h.lo (by simp), fun c hc => ?_, fun c hc => ?_, k _ _ h.w (by simp), h.wt.keep k (by simp), k _ _ h.la (by simp), k _ _ h.lr (by simp), k _ _ h.lt (by simp), fun c hc => k _ _ (h.pr c hc) (by simp), h.dI, h.dO, h.dIO⟩
  · rw [set_ne (fun e => h.dIO c hc b hb e.symm)]; exact h.ri c hc
  · show _ = some (VObj.mk _ _ _ (rowC64 ((σ.O.set b l).getD c [])))
    rw [row_set hO]
    by_cases e : b = c
    · subst e; rw [if_pos rfl]; exact set_get (h.ro b hb)
    · rw [if_neg e, set_ne (fun g => e (h.dO b hb c hc g))]; exact h.ro c hc
theorem HS.setI (h : HS f H q wv σ) (hs : SizedP f σ.L) {b : Nat} (hb : b < f.n) (l : List Bool) : HS f (H.set (q.ri b).1 ⟨(q.ri b).2, 88, 1, rowC64 l⟩) q wv ⟨σ.I.set b l, σ.O, σ.wt⟩ := by
  have k : KeepT [88] H (H.set (q.ri b).1 ⟨(q.ri b).2, 88, 1, rowC64 l⟩) := KeepT.set (h.ri b hb) (by simp)
  have hI : b < σ.I.length := by rw [show σ.I.length = f.n from hs.i]; exact hb
  refine ⟨k _ _ h.so (by simp), k _ _ h.li (by simp), k _ _ h.lo (by simp), fun c hc => ?_, fun c hc => ?_, k _ _ h.w (by simp), h.wt.keep k (by simp), k _ _ h.la (by simp), k _ _ h.lr (by simp), k _ _ h.lt (by simp), fun c hc => k _ _ (h.pr c hc) (by simp), h.dI, h.dO, h.dIO⟩
  · show _ = some (VObj.mk _ _ _ (rowC64 ((σ.I.set b l).getD c [])))
    rw [row_set hI]
    by_cases e : b = c
    · subst e; rw [if_pos rfl]; exact set_get (h.ri b hb)
    · rw [if_neg e, set_ne (fun g => e (h.dI b hb c hc g))]; exact h.ri c hc
  · rw [set_ne (fun e => h.dIO b hb c hc e)]; exact h.ro c hc

theorem orw64 {a b : List Bool} (hl : a.length = b.length) (ha : a.length ≤ 64) : IntKind.u64.wrap ((BitVec.ofInt IntKind.u64.bits (wd a : Int) ||| BitVec.ofInt IntKind.u64.bits (wd b : Int)).toNat : Nat) = ((wd (orL a b) : Nat) : Int) := by
  rw [← wd_or hl]; exact or64 (wd_lt64 ha) (wd_lt64 (by omega))
theorem subw64 {a b : List Bool} (ha : a.length ≤ 64) (hb : b.length ≤ 64) : IntKind.u64.wrap ((BitVec.ofInt IntKind.u64.bits (wd a : Int) &&& ~~~BitVec.ofInt IntKind.u64.bits (wd b : Int)).toNat : Nat) = ((wd (subL a b) : Nat) : Int) := andNot64 ha hb
theorem or_sub (rd out st : List Bool) (hl : rd.length = out.length) : orL rd (subL out st) = wayL rd out st := gB_ext (by simp [orL, wayL, hl]) fun v hv => by
  rw [orL_len] at hv
  rw [gB_or _ _ hv, gB_way _ _ _ (by omega), gB_sub _ _ (by omega)]

theorem grow_v (hf : Fine f) (h : HS f H q wv σ) (hs : SizedP f σ.L) (hr : f.r ≤ 64) (nx b : Nat) (hb : b < f.n) (C : AV → List VObj → Nat → Prop)
    (hC : ∀ H', HS f H' q wv (growS f σ b) → KeepT [88] H H' → C (B (moreS f σ b)) H' nx) : VCall Try.prog 31 [.ptr q.kS q.sS 0, I b] H nx C := by
  refine VCall.of_body hmix f_live_solver_grow (by simp) ?_
  have hso := h.so
  have hlo := h.lo
  have hli := h.li
  have hob := h.ro b hb
  have hib := h.ri b hb
  have hbn : b < f.bks.length := hb
  have hbk : f.bks.getD b default = f.bk b := rfl
  have hrg := range_get hb
  have e1 := ty_ne hob hso (by simp)
  have e2 := ty_ne hob hlo (by simp)
  have e3 := ty_ne hob hli (by simp)
  have e4 : ((q.ro b).1 = (q.ri b).1) = False := eq_false fun e => h.dIO b hb b hb e.symm
  have l1 := lt_of hob
  have l2 := lt_of hib
  have hol : (σ.O.getD b []).length = f.r := hs.ol hb
  have hil : (σ.I.getD b []).length = f.r := hs.il hb
  have hto := hf.to _ (BF.mem hb)
  have hnl := nxt_len (f.bk b)
  have hlen : (f.bks.map fun b => ints (nxt b)).length = f.n := by simp [BF.n]
  simp only [go_sem,Nat.reduceEqDiff,Nat.reduceAdd,Nat.reduceMul,↓reduceIte,↓dreduceIte,reduceCtorEq,Nat.reduceLeDiff,Nat.reduceLT,Nat.reduceSub,Int.reduceToNat,Int.reduceLE,Int.reduceLT, c_live_solver_grow, hso, hlo, one_imm, one_ref, cellT_rows, hrg, List.length_map, List.length_range, hbk]
  repeat ((with_reducible refine And.intro ?_ ?_); · omega)
  refine VW_loop (fun j : Nat => ⟨[(0, .ptr q.kS q.sS 0), (1, I b), (5, .ref (q.ro b).1 (q.ro b).2 0 (rl f.r)), (6, B false), (26, ints (nxt (f.bk b))), (27, I (nxt (f.bk b)).length), (28, I j)],
      H.set (q.ro b).1 ⟨(q.ro b).2, 88, 1, rowC64 (gath σ.I (σ.O.getD b []) ((nxt (f.bk b)).take j))⟩, nx⟩) (fun j => j ≤ (nxt (f.bk b)).length) (fun j => (nxt (f.bk b)).length - j) 0
    (Wk.mk (by simp [get_cons]) ⟨[], by rw [List.append_nil]; exact (set_of_get hob).symm⟩ (Nat.le_refl _)) (by omega) ?_
  intro j hj
  by_cases hlt : j < (nxt (f.bk b)).length
  · have hk := hto _ (mem_getD hlt)
    have hgt := gath_take σ.I (σ.O.getD b []) _ hlt
    have hgl := gath_len σ.I ((nxt (f.bk b)).take j) (σ.O.getD b [])
    generalize hkk : (nxt (f.bk b)).getD j default = k at hk hgt ⊢
    have hkn : k.toNat < f.n := by unfold BF.n; omega
    have hik := h.ri k.toNat hkn
    have hkl : (σ.I.getD k.toNat []).length = f.r := hs.il hkn
    have hrk := range_get hkn
    have e5 : ((q.ro b).1 = (q.ri k.toNat).1) = False := eq_false fun e => h.dIO _ hkn b hb e.symm
    generalize hx : gath σ.I (σ.O.getD b []) ((nxt (f.bk b)).take j) = x at hgt hgl ⊢
    rw [hol] at hgl
    simp only [go_sem,Nat.reduceEqDiff,Nat.reduceAdd,Nat.reduceMul,↓reduceIte,↓dreduceIte,reduceCtorEq,Nat.reduceLeDiff,Nat.reduceLT,Nat.reduceSub,Int.reduceToNat,Int.reduceLE,Int.reduceLT, hso, hlo, hli, hik, one_imm, one_ref, cellT_rows, hrk, List.length_map, List.length_range, hbk, hkk, eq_true (show (j : Int) < (nxt (f.bk b)).length by omega), List.getElem?_set, e1, e2, e3, e4, e5, l1]
    repeat ((with_reducible refine And.intro ?_ ?_); · omega)
    have hyl := hkl
    generalize hy : σ.I.getD k.toNat [] = y at hik hyl hkl
    have hgt' : gath σ.I (σ.O.getD b []) ((nxt (f.bk b)).take (j + 1)) = orL x y := by rw [hgt]; exact congrArg _ hy
    have hr1 : rl f.r ≤ 1 := by unfold rl; split <;> omega
    refine VW_loop (fun i : Nat => ⟨[(0, .ptr q.kS q.sS 0), (1, I b), (5, .ref (q.ro b).1 (q.ro b).2 0 (rl f.r)), (6, B false), (26, ints (nxt (f.bk b))), (27, I (nxt (f.bk b)).length), (28, I j), (38, .ref (q.ri k.toNat).1 (q.ri k.toNat).2 0 (rl f.r)), (39, I (rl f.r)), (40, I i)],
        H.set (q.ro b).1 ⟨(q.ro b).2, 88, 1, rowC64 (if i = 0 then x else orL x y)⟩, nx⟩) (fun i => i ≤ rl f.r) (fun i => rl f.r - i) 0
      (Wk.mk (by simp [get_cons]) ⟨[], by simp⟩ (Nat.le_refl _)) (by omega) ?_
    intro i hi
    by_cases h1 : i < rl f.r
    · have h0 : f.r ≠ 0 := fun e => by unfold rl at h1; rw [if_pos e] at h1; omega
      have hi0 : i = 0 := by omega
      subst hi0
      have e6 := orw64 (a := x) (b := y) (by omega) (by omega)
      have e7 : rowC64 x = [U64 (wd x)] := rowC64_pos (by omega)
      have e8 : rowC64 y = [U64 (wd y)] := rowC64_pos (by omega)
      have e9 : rowC64 (orL x y) = [U64 (wd (orL x y))] := rowC64_pos (by rw [orL_len]; omega)
      rw [if_pos rfl, e7]
      rw [e8] at hik
      simp only [↓VW_skip,↓VW_ops,↓VW_par,↓VW_park,↓VW_seq,↓VW_block,↓VW_exit,↓VW_ret,↓VW_cond,↓litE_tmp,↓litE_const,↓seq_normal,↓seq_exit,↓seq_ret,↓blk_normal,↓blk_exit,↓blk_ret,↓get_nil,↓get_cons,↓put_some,↓put_none,↓put_some',↓put_none',↓VTrL_done,↓VTrL_one,↓VTrL_if,↓VTrL_both,↓wpD_eq,↓wpE_call,↓wpE_callA,↓wpE_mv,↓wpE_pick,↓wpE_ld,↓wpE_sto,↓wpE_idx,↓wpE_aidx,↓wpE_fad,↓wpE_fld,↓wpE_len,↓wpE_lens,↓wpE_bin,↓wpE_beq,↓wpE_un,↓wpE_conv,↓wpE_sl,↓wpE_sls,↓wpE_mk,↓wpE_app,↓wpE_bsl,↓wpE_bld,↓wpE_box,↓wpE_alc,↓wpE_mkf,↓wpE_nck,↓wpE_ext,↓wpE_pur,↓wpE_see,↓wpE_eff,↓wpE_ycal,undef,K.xtra,EOp.adds,argEnv,↓retQ,↓retW,↓VR.wp,↓VRs,binOK,binR,unOK,unR,ldOK,stoOK,putA,partA,partOK,fillA,fillOK,partsOf,evs,boundOf,AV.cells,AV.one,AV.laid,Value.oneCell',Nat.reduceEqDiff,Nat.reduceAdd,Nat.reduceMul,↓reduceIte,↓dreduceIte,true_and,and_true,List.cons_append,List.nil_append,List.length_map,List.length_cons,List.length_nil,List.getElem?_cons_zero,List.getElem?_cons_succ,List.map_cons,List.map_nil,Bool.not_true,Bool.not_false,forall_const,reduceCtorEq,false_implies,List.all_cons,List.all_nil,Bool.and_true,Bool.and_self,↓idxT_map,↓idxT_cons,↓cellT_I,↓cellT_B,↓cellT_map,↓cellT_cons,decide_eq_true_eq,decide_eq_false_iff_not,Int.toNat_natCast,bne_iff_ne,ne_eq,Bool.not_eq_true',Bool.not_eq_false',bne_eq_false_iff_eq,beq_iff_eq,beq_eq_false_iff_ne,implies_true,List.getD_cons_zero,List.getD_cons_succ,Bool.false_eq_true,false_or,or_false,true_or,or_true,Int.natCast_nonneg,Int.toNat_zero,Int.toNat_one,List.set_cons_zero,List.set_cons_succ,List.take_zero,List.take_succ_cons,List.take_nil,List.drop_zero,List.drop_succ_cons,List.drop_nil,List.append_nil,Nat.zero_add,Nat.add_zero,Nat.mul_one,Nat.zero_mul,↓wp_mv,↓wp_pick,↓wp_ld,↓wp_sto,↓wp_idx,↓wp_aidx,↓wp_fad,↓wp_fld,↓wp_len,↓wp_lens,↓wp_bin,↓wp_beq,↓wp_un,↓wp_conv,↓wp_sl,↓wp_sls,↓wp_mk,↓wp_app,↓wp_bsl,↓wp_bld,↓wp_box,↓wp_alc,↓wp_mkf,↓wp_nck,↓wp_ext,↓wp_call,↓wp_callA,↓VOps_nil,↓VOps_go,↓VOps_if,↓evF_tmp,↓evF_const,↓evF_func,cv_int,cv_bool,cv_slice,cv_string,cv,Nat.reduceLeDiff,Nat.reduceLT,Nat.le_refl,Nat.reduceSub,Int.reduceToNat,Int.reduceLE,Int.reduceLT,not_true_eq_false,not_false_eq_true,decide_true,decide_false,Bool.true_eq_false,↓imp_tt,↓imp_ft,↓imp_tf,↓imp_ff,↓imp_tnt,↓imp_fnt,↓imp_tnf,↓imp_fnf,addedOK,addedN,addedCells,oldA,Old,oldL,↓VW_range,↓wp_ycal,↓wp_six,↓wp_ixv,↓wp_eqv,↓wp_mx,↓wp_mn,↓wp_nilq,↓wp_nils,↓wp_b2s,↓wp_look,↓wp_mlen,↓wp_cpy,↓wp_clr,↓wp_s2b,↓wp_mkm,↓wp_upd,↓eqT_nil,↓eqT_int,↓eqT_bool,↓eqT_str,↓b2sT_U8,↓b2sT_nil,↓lookT_nil,↓lookT_cons,cv_agg,cv_nilFunc,mapOK_nil,mapOK_cons,updA_nil,iteP,Bool.not_eq_true,Bool.not_eq_false,Classical.not_not, hik, one_imm, one_ref, rl_pos h0, Int.natCast_zero, Nat.cast_one', List.getElem?_set, e1, e2, e3, e4, e5, l1, e6]
      repeat ((with_reducible refine And.intro ?_ ?_); · first | omega | decide)
      refine ⟨1, by omega, by omega, Wk.mk (by simp [get_cons, rl_pos h0]; decide) ⟨[], by simp [List.set_set, e9]⟩ (Nat.le_refl _)⟩
    · obtain rfl : i = rl f.r := by omega
      simp only [go_sem,Nat.reduceEqDiff,Nat.reduceAdd,Nat.reduceMul,↓reduceIte,↓dreduceIte,reduceCtorEq,Nat.reduceLeDiff,Nat.reduceLT,Nat.reduceSub,Int.reduceToNat,Int.reduceLE,Int.reduceLT, one_imm, one_ref, eq_false (show ¬ (rl f.r : Int) < rl f.r by omega)]
      rw [i64_in (by omega) (by omega)]
      refine ⟨j + 1, by omega, by omega, Wk.mk (by simp [get_cons]) ⟨[], ?_⟩ (Nat.le_refl _)⟩
      rw [hgt', List.append_nil]
      by_cases h0 : f.r = 0
      · have e7 : rowC64 x = [] := if_pos (by omega)
        have e9 : rowC64 (orL x y) = [] := if_pos (by rw [orL_len]; omega)
        split
        · rw [e7, e9]
        · rfl
      · rw [if_neg (by rw [rl_pos h0]; decide)]
  · obtain rfl : j = (nxt (f.bk b)).length := by omega
    rw [List.take_of_length_le (Nat.le_refl _)]
    have hS1 := h.setO hs hb (newO f σ.I σ.O b)
    have hnl' := newO_len hf hs hb
    have hwl := way_ahead hf hb _ hnl'
    have hro : readL (f.bk b) f.r = readL (f.bk b) f.r := rfl
    have hgr : gath σ.I (σ.O.getD b []) (nxt (f.bk b)) = newO f σ.I σ.O b := rfl
    rw [hgr]
    have hob1 := set_get (x := ⟨(q.ro b).2, 88, 1, rowC64 (newO f σ.I σ.O b)⟩) hob
    have kp1 : KeepT [88] H (H.set (q.ro b).1 ⟨(q.ro b).2, 88, 1, rowC64 (newO f σ.I σ.O b)⟩) := KeepT.set hob (by simp)
    generalize H.set (q.ro b).1 ⟨(q.ro b).2, 88, 1, rowC64 (newO f σ.I σ.O b)⟩ = H1 at hS1 hob1 kp1 ⊢
    have hsz1 : SizedP f (SV.L ⟨σ.I, σ.O.set b (newO f σ.I σ.O b), σ.wt⟩) := hs.setO hnl'
    have hS2 := hS1.setI hsz1 hb (grown f σ b)
    have hso1 := hS1.so
    have hlr1 := hS1.lr
    have hlt1 := hS1.lt
    have hli1 := hS1.li
    have hib1 : H1[(q.ri b).1]? = some ⟨(q.ri b).2, 88, 1, rowC64 (σ.I.getD b [])⟩ := hS1.ri b hb
    have kp2 : KeepT [88] H1 (H1.set (q.ri b).1 ⟨(q.ri b).2, 88, 1, rowC64 (grown f σ b)⟩) := KeepT.set hib1 (by simp)
    have hgl := grown_len hf hs hb
    have hr1 : rl f.r ≤ 1 := by unfold rl; split <;> omega
    have hgrow : wayL (readL (f.bk b) f.r) (newO f σ.I σ.O b) (setL (f.bk b) f.r) = grown f σ b := hwl
    have hrdl : (readL (f.bk b) f.r).length = f.r := by unfold readL; rw [aheadL_len]; simp
    have hstl : (setL (f.bk b) f.r).length = f.r := by unfold setL; rw [doneL_len]; simp
    have hosub := or_sub (readL (f.bk b) f.r) (newO f σ.I σ.O b) (setL (f.bk b) f.r) (by omega)
    rw [hgrow] at hosub
    have hnomore : moreS f σ b = false → σ.I.set b (grown f σ b) = σ.I := fun e => by
      have e' : σ.I.getD b [] = grown f σ b := Classical.byContradiction fun g => by rw [moreS, decide_eq_true g] at e; cases e
      have hbI : b < σ.I.length := by rw [show σ.I.length = f.n from hs.i]; exact hb
      refine set_of_get ?_
      rw [← e', List.getElem?_eq_getElem hbI]; simp [List.getD, List.getElem?_eq_getElem hbI]
    simp only [go_sem,Nat.reduceEqDiff,Nat.reduceAdd,Nat.reduceMul,↓reduceIte,↓dreduceIte,reduceCtorEq,Nat.reduceLeDiff,Nat.reduceLT,Nat.reduceSub,Int.reduceToNat,Int.reduceLE,Int.reduceLT, hso1, hob1, one_imm, one_ref, List.length_map, eq_false (show ¬ ((nxt (f.bk b)).length : Int) < (nxt (f.bk b)).length by omega)]
    refine VW_loop (fun i : Nat => ⟨[(0, .ptr q.kS q.sS 0), (1, I b), (5, .ref (q.ro b).1 (q.ro b).2 0 (rl f.r)), (6, B (if i = 0 then false else moreS f σ b)), (54, .ref (q.ro b).1 (q.ro b).2 0 (rl f.r)), (55, I (rl f.r)), (56, I i)],
        if i = 0 ∨ moreS f σ b = false then H1 else H1.set (q.ri b).1 ⟨(q.ri b).2, 88, 1, rowC64 (grown f σ b)⟩, nx⟩) (fun i => i ≤ rl f.r) (fun i => rl f.r - i) 0
      (Wk.mk (by simp [get_cons]) ⟨[], by simp⟩ (Nat.le_refl _)) (by omega) ?_
    intro i hi
    by_cases h1 : i < rl f.r
    · have h0 : f.r ≠ 0 := fun e => by unfold rl at h1; rw [if_pos e] at h1; omega
      have hi0 : i = 0 := by omega
      subst hi0
      have e6 := subw64 (a := newO f σ.I σ.O b) (b := setL (f.bk b) f.r) (by omega) (by omega)
      have e6' := orw64 (a := readL (f.bk b) f.r) (b := subL (newO f σ.I σ.O b) (setL (f.bk b) f.r)) (by rw [subL_len]; omega) (by omega)
      rw [hosub] at e6'
      have e7 : rowC64 (newO f σ.I σ.O b) = [U64 (wd (newO f σ.I σ.O b))] := rowC64_pos (by omega)
      have e8 : rowC64 (σ.I.getD b []) = [U64 (wd (σ.I.getD b []))] := rowC64_pos (by omega)
      have e9 : rowC64 (grown f σ b) = [U64 (wd (grown f σ b))] := rowC64_pos (by omega)
      have e10 : rowC64 (readL (f.bk b) f.r) = [U64 (wd (readL (f.bk b) f.r))] := rowC64_pos (by omega)
      have e11 : rowC64 (setL (f.bk b) f.r) = [U64 (wd (setL (f.bk b) f.r))] := rowC64_pos (by omega)
      rw [e7] at hob1
      rw [e8] at hib1
      rw [if_pos (show (0 : Nat) = 0 from rfl), if_pos (show (0 : Nat) = 0 ∨ moreS f σ b = false from .inl rfl)]
      cases hm : moreS f σ b
      · have e' : σ.I.getD b [] = grown f σ b := Classical.byContradiction fun g => by rw [moreS, decide_eq_true g] at hm; cases hm
        have ew : (wd (grown f σ b) : Int) = wd (σ.I.getD b []) := by rw [e']
        simp only [↓VW_skip,↓VW_ops,↓VW_par,↓VW_park,↓VW_seq,↓VW_block,↓VW_exit,↓VW_ret,↓VW_cond,↓litE_tmp,↓litE_const,↓seq_normal,↓seq_exit,↓seq_ret,↓blk_normal,↓blk_exit,↓blk_ret,↓get_nil,↓get_cons,↓put_some,↓put_none,↓put_some',↓put_none',↓VTrL_done,↓VTrL_one,↓VTrL_if,↓VTrL_both,↓wpD_eq,↓wpE_call,↓wpE_callA,↓wpE_mv,↓wpE_pick,↓wpE_ld,↓wpE_sto,↓wpE_idx,↓wpE_aidx,↓wpE_fad,↓wpE_fld,↓wpE_len,↓wpE_lens,↓wpE_bin,↓wpE_beq,↓wpE_un,↓wpE_conv,↓wpE_sl,↓wpE_sls,↓wpE_mk,↓wpE_app,↓wpE_bsl,↓wpE_bld,↓wpE_box,↓wpE_alc,↓wpE_mkf,↓wpE_nck,↓wpE_ext,↓wpE_pur,↓wpE_see,↓wpE_eff,↓wpE_ycal,undef,K.xtra,EOp.adds,argEnv,↓retQ,↓retW,↓VR.wp,↓VRs,binOK,binR,unOK,unR,ldOK,stoOK,putA,partA,partOK,fillA,fillOK,partsOf,evs,boundOf,AV.cells,AV.one,AV.laid,Value.oneCell',Nat.reduceEqDiff,Nat.reduceAdd,Nat.reduceMul,↓reduceIte,↓dreduceIte,true_and,and_true,List.cons_append,List.nil_append,List.length_map,List.length_cons,List.length_nil,List.getElem?_cons_zero,List.getElem?_cons_succ,List.map_cons,List.map_nil,Bool.not_true,Bool.not_false,forall_const,reduceCtorEq,false_implies,List.all_cons,List.all_nil,Bool.and_true,Bool.and_self,↓idxT_map,↓idxT_cons,↓cellT_I,↓cellT_B,↓cellT_map,↓cellT_cons,decide_eq_true_eq,decide_eq_false_iff_not,Int.toNat_natCast,bne_iff_ne,ne_eq,Bool.not_eq_true',Bool.not_eq_false',bne_eq_false_iff_eq,beq_iff_eq,beq_eq_false_iff_ne,implies_true,List.getD_cons_zero,List.getD_cons_succ,Bool.false_eq_true,false_or,or_false,true_or,or_true,Int.natCast_nonneg,Int.toNat_zero,Int.toNat_one,List.set_cons_zero,List.set_cons_succ,List.take_zero,List.take_succ_cons,List.take_nil,List.drop_zero,List.drop_succ_cons,List.drop_nil,List.append_nil,Nat.zero_add,Nat.add_zero,Nat.mul_one,Nat.zero_mul,↓wp_mv,↓wp_pick,↓wp_ld,↓wp_sto,↓wp_idx,↓wp_aidx,↓wp_fad,↓wp_fld,↓wp_len,↓wp_lens,↓wp_bin,↓wp_beq,↓wp_un,↓wp_conv,↓wp_sl,↓wp_sls,↓wp_mk,↓wp_app,↓wp_bsl,↓wp_bld,↓wp_box,↓wp_alc,↓wp_mkf,↓wp_nck,↓wp_ext,↓wp_call,↓wp_callA,↓VOps_nil,↓VOps_go,↓VOps_if,↓evF_tmp,↓evF_const,↓evF_func,cv_int,cv_bool,cv_slice,cv_string,cv,Nat.reduceLeDiff,Nat.reduceLT,Nat.le_refl,Nat.reduceSub,Int.reduceToNat,Int.reduceLE,Int.reduceLT,not_true_eq_false,not_false_eq_true,decide_true,decide_false,Bool.true_eq_false,↓imp_tt,↓imp_ft,↓imp_tf,↓imp_ff,↓imp_tnt,↓imp_fnt,↓imp_tnf,↓imp_fnf,addedOK,addedN,addedCells,oldA,Old,oldL,↓VW_range,↓wp_ycal,↓wp_six,↓wp_ixv,↓wp_eqv,↓wp_mx,↓wp_mn,↓wp_nilq,↓wp_nils,↓wp_b2s,↓wp_look,↓wp_mlen,↓wp_cpy,↓wp_clr,↓wp_s2b,↓wp_mkm,↓wp_upd,↓eqT_nil,↓eqT_int,↓eqT_bool,↓eqT_str,↓b2sT_U8,↓b2sT_nil,↓lookT_nil,↓lookT_cons,cv_agg,cv_nilFunc,mapOK_nil,mapOK_cons,updA_nil,iteP,Bool.not_eq_true,Bool.not_eq_false,Classical.not_not, hso1, hob1, hlr1, hlt1, cellT_imm, hli1, hib1, one_imm, one_ref, cellT_rows, hrg, hbk, e10, e11, rl_pos h0, Nat.cast_zero', Int.natCast_zero, Nat.cast_one', e6, e6', ew, ne_eq, bne_self_eq_false, List.length_map]
        repeat ((with_reducible refine And.intro ?_ ?_); · first | omega | decide)
        refine ⟨1, by omega, by omega, Wk.mk (by simp [get_cons, rl_pos h0, hm]; decide) ⟨[], by simp [hm]⟩ (Nat.le_refl _)⟩
      · have ew : ¬ (wd (grown f σ b) : Int) = wd (σ.I.getD b []) := fun e => by
          have := wd_inj (by omega) (show wd (grown f σ b) = wd (σ.I.getD b []) by omega)
          rw [moreS, decide_eq_false (by rw [this]; simp)] at hm; cases hm
        simp only [↓VW_skip,↓VW_ops,↓VW_par,↓VW_park,↓VW_seq,↓VW_block,↓VW_exit,↓VW_ret,↓VW_cond,↓litE_tmp,↓litE_const,↓seq_normal,↓seq_exit,↓seq_ret,↓blk_normal,↓blk_exit,↓blk_ret,↓get_nil,↓get_cons,↓put_some,↓put_none,↓put_some',↓put_none',↓VTrL_done,↓VTrL_one,↓VTrL_if,↓VTrL_both,↓wpD_eq,↓wpE_call,↓wpE_callA,↓wpE_mv,↓wpE_pick,↓wpE_ld,↓wpE_sto,↓wpE_idx,↓wpE_aidx,↓wpE_fad,↓wpE_fld,↓wpE_len,↓wpE_lens,↓wpE_bin,↓wpE_beq,↓wpE_un,↓wpE_conv,↓wpE_sl,↓wpE_sls,↓wpE_mk,↓wpE_app,↓wpE_bsl,↓wpE_bld,↓wpE_box,↓wpE_alc,↓wpE_mkf,↓wpE_nck,↓wpE_ext,↓wpE_pur,↓wpE_see,↓wpE_eff,↓wpE_ycal,undef,K.xtra,EOp.adds,argEnv,↓retQ,↓retW,↓VR.wp,↓VRs,binOK,binR,unOK,unR,ldOK,stoOK,putA,partA,partOK,fillA,fillOK,partsOf,evs,boundOf,AV.cells,AV.one,AV.laid,Value.oneCell',Nat.reduceEqDiff,Nat.reduceAdd,Nat.reduceMul,↓reduceIte,↓dreduceIte,true_and,and_true,List.cons_append,List.nil_append,List.length_map,List.length_cons,List.length_nil,List.getElem?_cons_zero,List.getElem?_cons_succ,List.map_cons,List.map_nil,Bool.not_true,Bool.not_false,forall_const,reduceCtorEq,false_implies,List.all_cons,List.all_nil,Bool.and_true,Bool.and_self,↓idxT_map,↓idxT_cons,↓cellT_I,↓cellT_B,↓cellT_map,↓cellT_cons,decide_eq_true_eq,decide_eq_false_iff_not,Int.toNat_natCast,bne_iff_ne,ne_eq,Bool.not_eq_true',Bool.not_eq_false',bne_eq_false_iff_eq,beq_iff_eq,beq_eq_false_iff_ne,implies_true,List.getD_cons_zero,List.getD_cons_succ,Bool.false_eq_true,false_or,or_false,true_or,or_true,Int.natCast_nonneg,Int.toNat_zero,Int.toNat_one,List.set_cons_zero,List.set_cons_succ,List.take_zero,List.take_succ_cons,List.take_nil,List.drop_zero,List.drop_succ_cons,List.drop_nil,List.append_nil,Nat.zero_add,Nat.add_zero,Nat.mul_one,Nat.zero_mul,↓wp_mv,↓wp_pick,↓wp_ld,↓wp_sto,↓wp_idx,↓wp_aidx,↓wp_fad,↓wp_fld,↓wp_len,↓wp_lens,↓wp_bin,↓wp_beq,↓wp_un,↓wp_conv,↓wp_sl,↓wp_sls,↓wp_mk,↓wp_app,↓wp_bsl,↓wp_bld,↓wp_box,↓wp_alc,↓wp_mkf,↓wp_nck,↓wp_ext,↓wp_call,↓wp_callA,↓VOps_nil,↓VOps_go,↓VOps_if,↓evF_tmp,↓evF_const,↓evF_func,cv_int,cv_bool,cv_slice,cv_string,cv,Nat.reduceLeDiff,Nat.reduceLT,Nat.le_refl,Nat.reduceSub,Int.reduceToNat,Int.reduceLE,Int.reduceLT,not_true_eq_false,not_false_eq_true,decide_true,decide_false,Bool.true_eq_false,↓imp_tt,↓imp_ft,↓imp_tf,↓imp_ff,↓imp_tnt,↓imp_fnt,↓imp_tnf,↓imp_fnf,addedOK,addedN,addedCells,oldA,Old,oldL,↓VW_range,↓wp_ycal,↓wp_six,↓wp_ixv,↓wp_eqv,↓wp_mx,↓wp_mn,↓wp_nilq,↓wp_nils,↓wp_b2s,↓wp_look,↓wp_mlen,↓wp_cpy,↓wp_clr,↓wp_s2b,↓wp_mkm,↓wp_upd,↓eqT_nil,↓eqT_int,↓eqT_bool,↓eqT_str,↓b2sT_U8,↓b2sT_nil,↓lookT_nil,↓lookT_cons,cv_agg,cv_nilFunc,mapOK_nil,mapOK_cons,updA_nil,iteP,Bool.not_eq_true,Bool.not_eq_false,Classical.not_not, hso1, hob1, hlr1, hlt1, cellT_imm, hli1, hib1, one_imm, one_ref, cellT_rows, hrg, hbk, e10, e11, rl_pos h0, Nat.cast_zero', Int.natCast_zero, Nat.cast_one', e6, e6', eq_false ew, ne_eq, List.length_map]
        repeat ((with_reducible refine And.intro ?_ ?_); · first | omega | decide)
        refine ⟨1, by omega, by omega, Wk.mk (by simp [get_cons, rl_pos h0, hm]; decide) ⟨[], by simp [hm, e9]⟩ (Nat.le_refl _)⟩
    · obtain rfl : i = rl f.r := by omega
      simp only [go_sem,Nat.reduceEqDiff,Nat.reduceAdd,Nat.reduceMul,↓reduceIte,↓dreduceIte,reduceCtorEq,Nat.reduceLeDiff,Nat.reduceLT,Nat.reduceSub,Int.reduceToNat,Int.reduceLE,Int.reduceLT, one_imm, one_ref, eq_false (show ¬ (rl f.r : Int) < rl f.r by omega)]
      cases hm : moreS f σ b
      · rw [show (if rl f.r = 0 then false else false) = false by split <;> rfl, if_pos (show rl f.r = 0 ∨ false = false from .inr rfl)]
        rw [hm] at hC
        refine hC H1 ?_ kp1
        unfold growS
        rw [hnomore hm]
        exact hS1
      · have h0 : rl f.r ≠ 0 := fun e => by
          have e0 : f.r = 0 := by unfold rl at e; split at e <;> omega
          have := gB_ext (a := σ.I.getD b []) (b := grown f σ b) (by omega) fun v hv => by omega
          rw [moreS, decide_eq_false (by rw [this]; simp)] at hm; cases hm
        rw [if_neg h0, if_neg (show ¬ (rl f.r = 0 ∨ true = false) by simp [h0])]
        rw [hm] at hC
        exact hC _ hS2 (kp1.trans kp2)
end
end Go.Proofs.Ytjdeediehmhdoaa
namespace Go.Proofs.Ytjdeediehmhdoaa
set_option linter.unusedSimpArgs false
set_option linter.unusedVariables false
set_option maxRecDepth 10000
open Go.V

/-- What the search's beginning is said to be. -/
def SolverOfV (f : BF) : Prop := ∀ (o0 o1 : VObj) (C : AV → List VObj → Nat → Prop), o0.ty = 24 → o1.ty = 29 →
  (∀ q H nx wv, HS f H q wv (beginS f) → H[0]? = some o0 → H[1]? = some o1 → C (.ptr q.kS q.sS 0) H nx) → VCall Try.prog 30 [bfA f] [o0, o1] 2 C

theorem flags_del {n b : Nat} {w0 : List Nat} (h : b < n) (hb : b ∉ w0) : (flags n (w0 ++ [b])).set b false = flags n w0 := gB_ext (by simp [flags]) fun v hv => by
  have hv' : v < n := by simpa [flags] using hv
  rw [gB_set _ _ _ _ (by rw [flags_len]; exact hv'), flags_get hv', flags_get hv']
  by_cases e : b = v
  · subst e; simp [hb]
  · rw [if_neg e]
    have : ¬ v = b := fun h => e h.symm
    simp [this]
theorem cellT_preds {n : Nat} {pi : Nat → Nat × Nat} {pl : Nat → List Nat} {b : Nat} {C : AV → Prop} : cellT ((List.range n).map fun b => AV.ref (pi b).1 (pi b).2 0 (pl b).length) b false 1 C .mk = (b < n ∧ C (.ref (pi b).1 (pi b).2 0 (pl b).length)) := by
  rw [cellT_map (fun _ => rfl)]
  apply propext
  rw [List.length_range]
  refine ⟨fun ⟨h1, h2⟩ => ⟨h1, ?_⟩, fun ⟨h1, h2⟩ => ⟨h1, ?_⟩⟩
  · rw [range_get h1] at h2; exact h2
  · rw [range_get h1]; exact h2
theorem cellT_nats {l : List Nat} {b : Nat} {C : AV → Prop} : cellT (natsL l) b false 1 C .mk = (b < l.length ∧ C (I (l.getD b default : Nat))) := cellT_map fun _ => rfl
theorem waits_take (w0 : List Nat) (ls : List Nat) {j : Nat} (hj : j < ls.length) : waitsS w0 (ls.take (j + 1)) = waitS (waitsS w0 (ls.take j)) (ls.getD j default) := by
  have e : ls.take (j + 1) = ls.take j ++ [ls.getD j default] := by rw [List.take_add_one]; simp [List.getD, List.getElem?_eq_getElem hj]
  rw [e]; simp [waitsS]
theorem last_get (w0 : List Nat) (b : Nat) (rest : List Nat) : (w0 ++ [b] ++ rest).getD w0.length default = b := by
  rw [List.getD, List.append_assoc, List.getElem?_append_right (Nat.le_refl _), Nat.sub_self]; rfl

theorem flat_le {α β : Type} (g : α → List β) (h : ∀ a, (g a).length ≤ 2) : ∀ l : List α, (l.flatMap g).length ≤ 2 * l.length
  | [] => by simp
  | a :: l => by
    have := flat_le g h l
    have := h a
    rw [List.flatMap_cons, List.length_append, List.length_cons]; omega
theorem predL_len (f : BF) (b : Nat) : (predL f b).length ≤ 2 * f.n := by
  have := flat_le (fun a => ((nxt (f.bk a)).filter fun k => decide (k.toNat = b)).map fun _ => a) (fun a => by
    rw [List.length_map]
    exact Nat.le_trans (List.length_filter_le _ _) (nxt_len _)) (List.range f.n)
  rw [List.length_range] at this
  exact this
/-- In an object nil slices are taken for a slice over an object that is not there yet. -/
theorem virt_at {env : List (Nat × AV)} {H : List VObj} {nx i : Nat} {ob : VObj} {cs' : List AV} (ty sz : Nat) (hsz : sz ≠ 0) (he : ∀ p ∈ env, get env p.1 = p.2) (ho : H[i]? = some ob) (hz : ob.sz ≠ 0) (hl : ob.cs.length = cs'.length)
    (hc : ∀ (j : Nat) x y, ob.cs[j]? = some x → cs'[j]? = some y → x = y ∨ (x = .val (.slice none 0 0) ∧ y = .ref H.length nx 0 0)) : Wk ⟨env, H, nx⟩ ⟨env, H.set i ⟨ob.s, ob.ty, ob.sz, cs'⟩ ++ [⟨nx, ty, sz, []⟩], nx + 1⟩ := by
  refine Wk.virt ty sz hsz (fun p hp => .inl (he p hp)) ⟨H.set i ⟨ob.s, ob.ty, ob.sz, cs'⟩, rfl, by simp, fun j ob' h => ?_⟩ rfl
  rw [List.getElem?_set] at h
  by_cases e : i = j
  · subst e
    rw [if_pos rfl, if_pos (List.getElem?_eq_some_iff.1 ho).1] at h
    cases h
    exact ⟨ob, ho, rfl, rfl, rfl, hl, fun h => absurd h hz, hc⟩
  · rw [if_neg e] at h
    exact ⟨ob', h, rfl, rfl, rfl, rfl, fun _ => rfl, fun _ x y hx hy => .inl (by rw [hx] at hy; exact Option.some.inj hy)⟩
structure RQ where
  b : Nat
  s1 : Nat
  s2 : Nat
  nx : Nat
abbrev lvR (L : LD) (K s0 : Nat) (x : RQ) : List VObj := [⟨s0, 29, 1, [.ref (K + 1) x.s1 0 x.b, .ref (K + 2) x.s2 0 x.b]⟩, ⟨x.s1, 39, 1, (L.inn.take x.b).map bools⟩, ⟨x.s2, 39, 1, (L.out.take x.b).map bools⟩]
structure OQ where
  H : List VObj
  wv : AV
  σ : SV
  nx : Nat
structure WQ where
  j : Nat
  H : List VObj
  wv : AV
  nx : Nat
theorem rows_snoc {m : List (List Bool)} {b : Nat} (hb : b < m.length) : List.take b ((m.take b).map bools) ++ [bools (m.getD b [])] = (m.take (b + 1)).map bools := by
  rw [List.take_of_length_le (by simp; omega), List.take_add_one, List.map_append]
  simp [List.getD, List.getElem?_eq_getElem hb]
theorem lv_virt (L : LD) (H : List VObj) (nx : Nat) (env : List (Nat × AV)) (he : ∀ p ∈ env, get env p.1 = p.2) : Wk ⟨env, H ++ [⟨nx, 29, 1, [nilv, nilv]⟩], nx + 1⟩ ⟨env, H ++ lvR L H.length nx ⟨0, nx + 1, nx + 1 + 1, nx + 1 + 1 + 1⟩, nx + 1 + 1 + 1⟩ := by
  have h1 := virt_at (env := env) (H := H ++ [⟨nx, 29, 1, [nilv, nilv]⟩]) (nx := nx + 1) (i := H.length) (ob := ⟨nx, 29, 1, [nilv, nilv]⟩) (cs' := [.ref (H.length + 1) (nx + 1) 0 0, nilv]) 39 1 (by decide) he (by rw [app_get0]; rfl) (by simp) rfl (fun j x y hx hy => by
    match j with
    | 0 => simp at hx hy; subst hx; subst hy; exact .inr ⟨rfl, by simp⟩
    | 1 => simp at hx hy; subst hx; subst hy; exact .inl rfl
    | j + 2 => simp at hx)
  rw [app_set0, List.append_assoc] at h1
  have h2 := virt_at (env := env) (H := H ++ [⟨nx, 29, 1, [.ref (H.length + 1) (nx + 1) 0 0, nilv]⟩, ⟨nx + 1, 39, 1, []⟩]) (nx := nx + 1 + 1) (i := H.length) (ob := ⟨nx, 29, 1, [.ref (H.length + 1) (nx + 1) 0 0, nilv]⟩)
    (cs' := [.ref (H.length + 1) (nx + 1) 0 0, .ref (H.length + 2) (nx + 1 + 1) 0 0]) 39 1 (by decide) he (by rw [app_get0]; rfl) (by simp) rfl (fun j x y hx hy => by
    match j with
    | 0 => simp at hx hy; subst hx; subst hy; exact .inl rfl
    | 1 => simp at hx hy; subst hx; subst hy; exact .inr ⟨rfl, by simp⟩
    | j + 2 => simp at hx)
  rw [app_set0, List.append_assoc] at h2
  exact h1.trans h2
theorem of_c (f : BF) (hf : Fine f) (hr : f.r ≤ 64) (hV : SolverOfV f) (L : LD) (hL : Least f L) : Contract Try.prog 13 [bfA f] (fun x => x = liveA L) := by
  refine Contract.of_call (VCall.of_body hmix f_live_Of (by simp) ?_)
  have hr0 := hf.r0
  have hn5 : f.n ≤ 500 := hf.b1
  have hlen : (f.bks.length : Int) = f.n := rfl
  simp only [go_sem,Nat.reduceEqDiff,Nat.reduceAdd,Nat.reduceMul,↓reduceIte,↓dreduceIte,reduceCtorEq,Nat.reduceLeDiff,Nat.reduceLT,Nat.reduceSub,Int.reduceToNat,Int.reduceLE,Int.reduceLT, c_live_Of, one_imm, one_ref, List.length_map]
  refine hV _ _ _ rfl rfl fun q H nx wv h h0 h1 => ?_
  simp only [go_sem,Nat.reduceEqDiff,Nat.reduceAdd,Nat.reduceMul,↓reduceIte,↓dreduceIte,reduceCtorEq,Nat.reduceLeDiff,Nat.reduceLT,Nat.reduceSub,Int.reduceToNat,Int.reduceLE,Int.reduceLT]
  refine VW_loop (fun x : OQ => ⟨[(1, .ptr 0 0 0), (2, .ptr 1 1 0), (3, .ptr q.kS q.sS 0)], x.H, x.nx⟩) (fun x => HS f x.H q x.wv x.σ ∧ SInv f x.σ ∧ x.H[0]? = some ⟨0, 24, 1, bfL f⟩ ∧ x.H[1]? = some ⟨1, 29, 1, [nilv, nilv]⟩)
    (fun x => muS f x.σ) ⟨H, wv, beginS f, nx⟩ (Wk.mk (by simp [get_cons]) ⟨[], by simp⟩ (Nat.le_refl _)) ⟨h, begin_inv f, h0, h1⟩ ?_
  clear h h0 h1
  rintro ⟨H, wv, σ, nx⟩ ⟨h, hi, h0, h1⟩
  simp only at h hi h0 h1
  have hso := h.so
  have hw := h.w
  have hwl := hi.wlen
  rcases List.eq_nil_or_concat σ.wt with hnil | ⟨w0, b, hcat⟩
  · have hLe := hi.least hf hnil
    have hLL : σ.L = L := hLe.unique hL
    have hIL : σ.I = L.inn := by rw [← hLL]; rfl
    have hOL : σ.O = L.out := by rw [← hLL]; rfl
    have hli : L.inn.length = f.n := hL.cl.sz.i
    have hlo : L.out.length = f.n := hL.cl.sz.o
    have hwv : wv = nilv ∨ ∃ k s, wv = .ref k s 0 0 ∧ ∃ cs, H[k]? = some ⟨s, 3, 1, cs⟩ := by
      rcases h.wt with ⟨e, _⟩ | ⟨k, s, rest, e, hk, _⟩
      · exact .inl e
      · rw [hnil] at e; exact .inr ⟨k, s, e, _, hk⟩
    have hz : 0 < H.length := (List.getElem?_eq_some_iff.1 h0).1
    have hz1 : 1 < H.length := (List.getElem?_eq_some_iff.1 h1).1
    have hwv1 : wv.one = true := by rcases hwv with e | ⟨_, _, e, _⟩ <;> rw [e] <;> rfl
    have hol : (predL f 0).length ≤ 2 * f.n := predL_len f 0
    have hsl := h.li
    have hslo := h.lo
    have hri := h.ri
    have hro := h.ro
    rw [hIL] at hri
    rw [hOL] at hro
    have e0 : (0 < H.length) = True := eq_true hz
    have e1 : (1 < H.length) = True := eq_true hz1
    have hmx : (200000 : Nat) ≤ maxLen := by decide
    have ga0 := app_old h0
    have ga1 := app_old h1
    have gaS := app_old hso
    have gaI := app_old hsl
    have gaO := app_old hslo
    have hregs : f.regs = (f.r : Int) := by unfold BF.r; omega
    rcases hwv with e | ⟨k, s, e, cs, hk⟩
    all_goals
      subst e
      first
      | simp only [go_sem,Nat.reduceEqDiff,Nat.reduceAdd,Nat.reduceMul,↓reduceIte,↓dreduceIte,reduceCtorEq,Nat.reduceLeDiff,Nat.reduceLT,Nat.reduceSub,Int.reduceToNat,Int.reduceLE,Int.reduceLT, hso, hk, ga0, one_imm, one_ref, Nat.cast_zero', Int.lt_irrefl, List.length_map]
      | simp only [go_sem,Nat.reduceEqDiff,Nat.reduceAdd,Nat.reduceMul,↓reduceIte,↓dreduceIte,reduceCtorEq,Nat.reduceLeDiff,Nat.reduceLT,Nat.reduceSub,Int.reduceToNat,Int.reduceLE,Int.reduceLT, hso, ga0, one_imm, one_ref, List.length_map]
      refine VW_loop (fun x : RQ => ⟨[(1, .ptr 0 0 0), (2, .ptr 1 1 0), (3, .ptr q.kS q.sS 0), (8, .ptr H.length nx 0), (67, I f.n), (68, I x.b)], H ++ lvR L H.length nx x, x.nx⟩) (fun x => x.b ≤ f.n) (fun x => f.n - x.b) ⟨0, nx + 1, nx + 1 + 1, nx + 1 + 1 + 1⟩
        ?_ (Nat.zero_le _) ?_
      · refine Wk.trans (b := ⟨[(1, .ptr 0 0 0), (2, .ptr 1 1 0), (3, .ptr q.kS q.sS 0), (8, .ptr H.length nx 0), (67, I f.n), (68, I 0)], H ++ [(⟨nx, 29, 1, [nilv, nilv]⟩ : VObj)], nx + 1⟩) (Wk.mk (by simp [get_cons, BF.n]) ⟨[], by simp⟩ (Nat.le_refl _)) (lv_virt L H nx _ (by simp [get_cons]))
      rintro ⟨b, s1, s2, nx2⟩ hb
      simp only at hb
      by_cases hlt : b < f.n
      · have hib := hri b hlt
        have hobb := hro b hlt
        have gaib := app_old hib
        have gaob := app_old hobb
        have hil : (L.inn.getD b []).length = f.r := hL.cl.sz.il hlt
        have hol' : (L.out.getD b []).length = f.r := hL.cl.sz.ol hlt
        have sp1 : ContractN Try.prog 33 [.imm 1 (rowC64 (L.inn.getD b [])), I f.regs] (fun r => r = bools (L.inn.getD b [])) := by have := spread_c (L.inn.getD b []) (by omega); rw [hil, ← hregs] at this; exact this
        have sp2 : ContractN Try.prog 33 [.imm 1 (rowC64 (L.out.getD b [])), I f.regs] (fun r => r = bools (L.out.getD b [])) := by have := spread_c (L.out.getD b []) (by omega); rw [hol', ← hregs] at this; exact this
        simp only [go_sem,Nat.reduceEqDiff,Nat.reduceAdd,Nat.reduceMul,↓reduceIte,↓dreduceIte,reduceCtorEq,Nat.reduceLeDiff,Nat.reduceLT,Nat.reduceSub,Int.reduceToNat,Int.reduceLE,Int.reduceLT, ga0, gaS, gaI, app_get, app_get0, one_imm, one_ref, cellT_rows, eq_true (show (b : Int) < f.n by omega)]
        repeat' (with_reducible apply And.intro)
        all_goals first | omega | skip
        all_goals
          refine VCall.of_contractN sp1 ?_ fun r hr => ?_
          · exact ⟨_, _, rfl, frz_row (Nat.zero_le _) (gaib _) (by rw [hil]), _, _, rfl, Frz.pure rfl, rfl⟩
          subst hr
          refine ⟨Stab.refl _ _ _, ?_⟩
          simp only [go_sem,Nat.reduceEqDiff,Nat.reduceAdd,Nat.reduceMul,↓reduceIte,↓dreduceIte,reduceCtorEq,Nat.reduceLeDiff,Nat.reduceLT,Nat.reduceSub,Int.reduceToNat,Int.reduceLE,Int.reduceLT, ga0, gaS, gaO, app_get, app_get0, app_set, app_set0, List.append_assoc, List.length_append, one_imm, one_ref, cellT_rows]
          repeat' (with_reducible apply And.intro)
          all_goals first | omega | skip
          all_goals
            refine VCall.of_contractN sp2 ?_ fun r hr => ?_
            · exact ⟨_, _, rfl, frz_row (Nat.zero_le _) (gaob _) (by rw [hol']), _, _, rfl, Frz.pure rfl, rfl⟩
            subst hr
            refine ⟨?_, ?_⟩
            · simp only [go_sem,Nat.reduceEqDiff,Nat.reduceAdd,Nat.reduceMul,↓reduceIte,↓dreduceIte,reduceCtorEq,Nat.reduceLeDiff,Nat.reduceLT,Nat.reduceSub,Int.reduceToNat,Int.reduceLE,Int.reduceLT, app_get, app_get0, app_set, app_set0, List.append_assoc, List.length_append]
              exact Stab.refl _ _ _
            simp only [go_sem,Nat.reduceEqDiff,Nat.reduceAdd,Nat.reduceMul,↓reduceIte,↓dreduceIte,reduceCtorEq,Nat.reduceLeDiff,Nat.reduceLT,Nat.reduceSub,Int.reduceToNat,Int.reduceLE,Int.reduceLT, ga0, gaS, gaO, app_get, app_get0, app_set, app_set0, List.append_assoc, List.length_append, one_imm, one_ref, cellT_rows]
            repeat' (with_reducible apply And.intro)
            all_goals first | omega | skip
            rw [i64_in (by omega) (by omega), rows_snoc (m := L.inn) (by omega), rows_snoc (m := L.out) (by omega)]
            refine ⟨⟨b + 1, nx2 + 1, nx2 + 1 + 1 + 1, nx2 + 1 + 1 + 1 + 1⟩, by simp only; omega, by simp only; omega, Wk.mk (by simp [get_cons]) ⟨[_, _], by rw [List.append_assoc]; rfl⟩ (Nat.le_refl _)⟩
      · obtain rfl : b = f.n := by omega
        have tk1 : L.inn.take f.n = L.inn := List.take_of_length_le (by omega)
        have tk2 : L.out.take f.n = L.out := List.take_of_length_le (by omega)
        have l3 : (1 < H.length + 3) = True := eq_true (by omega)
        have l4 : (1 < H.length + (0 + 1 + 1 + 1)) = True := eq_true (by omega)
        simp only [go_sem,Nat.reduceEqDiff,Nat.reduceAdd,Nat.reduceMul,↓reduceIte,↓dreduceIte,reduceCtorEq,Nat.reduceLeDiff,Nat.reduceLT,Nat.reduceSub,Int.reduceToNat,Int.reduceLE,Int.reduceLT, ga1, app_get, app_get0, List.getElem?_set, List.length_append, l3, l4, eq_false (show ¬ (f.n : Int) < f.n by omega)]
        repeat ((with_reducible refine And.intro ?_ ?_); · omega)
        refine ⟨_, Frz.agg (ys := [rowsA L.inn, rowsA L.out]) ?_, rfl⟩
        exact ⟨_, _, rfl, rows_frz (m := L.inn) (Nat.zero_le _) (by rw [set_ne (by omega), app_get]; show some (VObj.mk s1 39 1 ((L.inn.take f.n).map bools)) = _; rw [tk1]) hli.symm, _, _, rfl, rows_frz (m := L.out) (Nat.zero_le _) (by rw [set_ne (by omega), app_get]; show some (VObj.mk s2 39 1 ((L.out.take f.n).map bools)) = _; rw [tk2]) hlo.symm, rfl⟩
  · rw [List.concat_eq_append] at hcat
    have hwt := h.wt
    rw [hcat] at hwt
    rcases hwt with ⟨_, hwt⟩ | ⟨k, s, rest, rfl, hk, hkp⟩
    · simp at hwt
    have hb : b < f.n := hi.wn b (by rw [hcat]; simp)
    have hnd := hi.nd
    rw [hcat, List.nodup_append] at hnd
    have hb0 : b ∉ w0 := fun e => hnd.2.2 b e b (by simp) rfl
    have e1 := ty_ne hso hk (by simp)
    have e2 := ty_ne hso hw (by simp)
    have e3 := ty_ne hw hk (by simp)
    have e4 := ty_ne hw hso (by simp)
    have l1 := lt_of hso
    have l2 := lt_of hw
    have hwl0 : w0.length + 1 ≤ 500 := by rw [hcat] at hwl; simp at hwl; omega
    have hle : (w0 ++ [b]).length = w0.length + 1 := by simp
    have hlg := last_get w0 b rest
    have hrl : (w0 ++ [b] ++ rest).length = w0.length + 1 + rest.length := by simp only [List.length_append, List.length_cons, List.length_nil]
    have ei : IntKind.i64.wrap ((w0.length + 1 : Nat) - 1 : Int) = w0.length := by rw [i64_in (by omega) (by omega)]; omega
    rw [hcat] at hw
    simp only [go_sem,Nat.reduceEqDiff,Nat.reduceAdd,Nat.reduceMul,↓reduceIte,↓dreduceIte,reduceCtorEq,Nat.reduceLeDiff,Nat.reduceLT,Nat.reduceSub,Int.reduceToNat,Int.reduceLE,Int.reduceLT, hso, hw, hk, one_imm, one_ref, hle, eq_true (show (0 : Int) < ((w0.length + 1 : Nat) : Int) by omega), ei, cellT_nats, hlg, List.getElem?_set, List.length_set, e1, e2, e3, e4, l1, l2, flags_len, set_B, flags_del hb hb0, Nat.sub_zero]
    repeat ((with_reducible refine And.intro ?_ ?_); · omega)
    have kp0 : KeepT [66, 4, 3] H ((H.set q.kS ⟨q.sS, 66, 1, slvL f q (.ref k s 0 w0.length)⟩).set q.kW ⟨q.sW, 4, 1, (flags f.n w0).map B⟩) :=
      (KeepT.set hso (by simp)).trans (KeepT.set (ob := ⟨q.sW, 4, 1, (flags f.n (w0 ++ [b])).map B⟩) (by rw [set_ne (fun e => by rw [e] at hso; rw [hso] at hw; simp at hw)]; exact hw) (by simp))
    have hS2 : HS f ((H.set q.kS ⟨q.sS, 66, 1, slvL f q (.ref k s 0 w0.length)⟩).set q.kW ⟨q.sW, 4, 1, (flags f.n w0).map B⟩) q (.ref k s 0 w0.length) ⟨σ.I, σ.O, w0⟩ := by
      refine h.keep (wt' := w0) kp0 ?_ ?_ (.inr ⟨k, s, b :: rest, rfl, ?_, hkp⟩) fun c hc => ?_
      · simp only [List.getElem?_set, List.length_set, e4, l1, l2, ↓reduceIte]
      · simp only [List.getElem?_set, List.length_set, e4, l1, l2, ↓reduceIte]
      · simp only [List.getElem?_set, List.length_set, e1, e3, l1, l2, ↓reduceIte, hk]
        simp
      · have hp := h.pr c hc
        have p1 := ty_ne hw hp (by simp)
        have p2 := ty_ne hso hp (by simp)
        simp only [List.getElem?_set, p1, p2, ↓reduceIte]
    have hrd := hi.round hf hcat
    have hsz : SizedP f (SV.L ⟨σ.I, σ.O, w0⟩) := hi.sz
    have hg0 := kp0 _ _ h0 (by simp)
    have hg1 := kp0 _ _ h1 (by simp)
    generalize (H.set q.kS ⟨q.sS, 66, 1, slvL f q (.ref k s 0 w0.length)⟩).set q.kW ⟨q.sW, 4, 1, (flags f.n w0).map B⟩ = H2 at hS2 hg0 hg1 ⊢
    clear kp0
    refine grow_v hf hS2 hsz hr nx b hb _ fun H3 hS3 kp3 => ?_
    have hms : moreS f ⟨σ.I, σ.O, w0⟩ b = moreS f σ b := rfl
    have hgs : growS f ⟨σ.I, σ.O, w0⟩ b = ⟨(growS f σ b).I, (growS f σ b).O, w0⟩ := rfl
    rw [hms]
    rw [hgs] at hS3
    have h30 := kp3 _ _ hg0 (by simp)
    have h31 := kp3 _ _ hg1 (by simp)
    have hrdw : (roundS f σ w0 b).wt = if moreS f σ b = true then waitsS w0 (predL f b) else w0 := rfl
    cases hm : moreS f σ b
    · rw [hm] at hrdw
      simp only [go_sem,Nat.reduceEqDiff,Nat.reduceAdd,Nat.reduceMul,↓reduceIte,↓dreduceIte,reduceCtorEq,Nat.reduceLeDiff,Nat.reduceLT,Nat.reduceSub,Int.reduceToNat,Int.reduceLE,Int.reduceLT]
      refine ⟨⟨H3, .ref k s 0 w0.length, roundS f σ w0 b, nx⟩, ⟨?_, hrd.1, h30, h31⟩, hrd.2, Wk.mk (by simp [get_cons]) ⟨[], by simp⟩ (Nat.le_refl _)⟩
      have : roundS f σ w0 b = ⟨(growS f σ b).I, (growS f σ b).O, w0⟩ := by unfold roundS; rw [hm]; rfl
      rw [this]; exact hS3
    · rw [hm, if_pos rfl] at hrdw
      have hso3 := hS3.so
      have hla3 := hS3.la
      have hpr3 := hS3.pr b hb
      have hpl := predL_len f b
      simp only [go_sem,Nat.reduceEqDiff,Nat.reduceAdd,Nat.reduceMul,↓reduceIte,↓dreduceIte,reduceCtorEq,Nat.reduceLeDiff,Nat.reduceLT,Nat.reduceSub,Int.reduceToNat,Int.reduceLE,Int.reduceLT, hso3, hla3, hpr3, one_imm, one_ref, cellT_preds, hlg]
      repeat ((with_reducible refine And.intro ?_ ?_); · omega)
      refine VW_loop (fun x : WQ => ⟨[(1, .ptr 0 0 0), (2, .ptr 1 1 0), (3, .ptr q.kS q.sS 0), (55, .ref (q.pi b).1 (q.pi b).2 0 (predL f b).length), (56, I (predL f b).length), (57, I x.j)], x.H, x.nx⟩)
        (fun x => x.j ≤ (predL f b).length ∧ HS f x.H q x.wv ⟨(growS f σ b).I, (growS f σ b).O, waitsS w0 ((predL f b).take x.j)⟩ ∧ x.H[0]? = some ⟨0, 24, 1, bfL f⟩ ∧ x.H[1]? = some ⟨1, 29, 1, [nilv, nilv]⟩)
        (fun x => (predL f b).length - x.j) ⟨0, H3, .ref k s 0 w0.length, nx⟩ (Wk.mk (by simp [get_cons]) ⟨[], by simp⟩ (Nat.le_refl _)) ⟨Nat.zero_le _, hS3, h30, h31⟩ ?_
      clear hS3 h30 h31 hso3 hla3 hpr3 kp3 hS2 hg0 hg1
      rintro ⟨j, H4, wv4, nx4⟩ ⟨hj, hS4, h40, h41⟩
      simp only at hj hS4 h40 h41
      by_cases hlt : j < (predL f b).length
      · have hp4 := hS4.pr b hb
        have hwt := waits_take w0 (predL f b) hlt
        have hmem := mem_pred.1 (mem_getD hlt)
        have hlw : (waitsS w0 ((predL f b).take j)).length ≤ f.n := nodup_le _ _ (nodup_waits hnd.1) fun c hc => by
          rcases mem_waits.1 hc with g | g
          · exact hi.wn c (by rw [hcat]; simp [g])
          · exact (mem_pred.1 (List.mem_of_mem_take g)).1
        simp only [go_sem,Nat.reduceEqDiff,Nat.reduceAdd,Nat.reduceMul,↓reduceIte,↓dreduceIte,reduceCtorEq,Nat.reduceLeDiff,Nat.reduceLT,Nat.reduceSub,Int.reduceToNat,Int.reduceLE,Int.reduceLT, hp4, one_imm, one_ref, cellT_nats, eq_true (show (j : Int) < (predL f b).length by omega)]
        repeat ((with_reducible refine And.intro ?_ ?_); · omega)
        refine wait_v hS4 nx4 _ hmem.1 hn5 (by show (waitsS w0 ((predL f b).take j)).length ≤ 500; omega) _ fun r H5 nx5 wv5 hS5 kp5 => ?_
        have hS5' : HS f H5 q wv5 ⟨(growS f σ b).I, (growS f σ b).O, waitsS w0 ((predL f b).take (j + 1))⟩ := by rw [hwt]; exact hS5
        simp only [go_sem,Nat.reduceEqDiff,Nat.reduceAdd,Nat.reduceMul,↓reduceIte,↓dreduceIte,reduceCtorEq,Nat.reduceLeDiff,Nat.reduceLT,Nat.reduceSub,Int.reduceToNat,Int.reduceLE,Int.reduceLT]
        rw [i64_in (by omega) (by omega)]
        exact ⟨⟨j + 1, H5, wv5, nx5⟩, ⟨by simp only; omega, hS5', kp5 _ _ h40 (by simp), kp5 _ _ h41 (by simp)⟩, by simp only; omega, Wk.mk (by simp [get_cons]) ⟨[], by simp⟩ (Nat.le_refl _)⟩
      · have hjl : j = (predL f b).length := by omega
        rw [hjl, List.take_length] at hS4
        simp only [go_sem,Nat.reduceEqDiff,Nat.reduceAdd,Nat.reduceMul,↓reduceIte,↓dreduceIte,reduceCtorEq,Nat.reduceLeDiff,Nat.reduceLT,Nat.reduceSub,Int.reduceToNat,Int.reduceLE,Int.reduceLT, eq_false (show ¬ (j : Int) < (predL f b).length by omega)]
        refine ⟨⟨H4, wv4, roundS f σ w0 b, nx4⟩, ⟨?_, hrd.1, h40, h41⟩, hrd.2, Wk.mk (by simp [get_cons]) ⟨[], by simp⟩ (Nat.le_refl _)⟩
        have : roundS f σ w0 b = ⟨(growS f σ b).I, (growS f σ b).O, waitsS w0 (predL f b)⟩ := by unfold roundS; rw [hm]; rfl
        rw [this]; exact hS4
end Go.Proofs.Ytjdeediehmhdoaa
namespace Go.Proofs.Ytjdeediehmhdoaa
set_option linter.unusedSimpArgs false
set_option linter.unusedVariables false
set_option maxRecDepth 10000
open Go.V

def predJ (f : BF) (b j : Nat) (c : Nat) : List Nat :=
  ((List.range b).flatMap fun a => ((nxt (f.bk a)).filter fun k => decide (k.toNat = c)).map fun _ => a) ++ (((nxt (f.bk b)).take j).filter fun k => decide (k.toNat = c)).map fun _ => b
theorem predJ_zero (f : BF) (c : Nat) : predJ f 0 0 c = [] := rfl
theorem predJ_next (f : BF) (b c : Nat) : predJ f b (nxt (f.bk b)).length c = predJ f (b + 1) 0 c := by
  unfold predJ
  rw [List.take_length, List.range_succ, List.flatMap_append]
  simp
theorem predJ_all (f : BF) (c : Nat) : predJ f f.n 0 c = predL f c := by unfold predJ predL; simp
theorem predJ_step (f : BF) (b c : Nat) {j : Nat} (hj : j < (nxt (f.bk b)).length) : predJ f b (j + 1) c = if ((nxt (f.bk b)).getD j default).toNat = c then predJ f b j c ++ [b] else predJ f b j c := by
  unfold predJ
  have e : (nxt (f.bk b)).take (j + 1) = (nxt (f.bk b)).take j ++ [(nxt (f.bk b)).getD j default] := by rw [List.take_add_one]; simp [List.getD, List.getElem?_eq_getElem hj]
  rw [e, List.filter_append, List.map_append]
  generalize (nxt (f.bk b)).getD j default = k
  by_cases h : k.toNat = c
  · rw [if_pos h]; simp [h]
  · rw [if_neg h]; simp [h]
theorem predJ_len (f : BF) (b j c : Nat) : (predJ f b j c).length ≤ 2 * b + 2 := by
  unfold predJ
  rw [List.length_append, List.length_map]
  have h1 := flat_le (fun a => ((nxt (f.bk a)).filter fun k => decide (k.toNat = c)).map fun _ => a) (fun a => by rw [List.length_map]; exact Nat.le_trans (List.length_filter_le _ _) (nxt_len _)) (List.range b)
  have h2 : (((nxt (f.bk b)).take j).filter fun k => decide (k.toNat = c)).length ≤ 2 := Nat.le_trans (List.length_filter_le _ _) (Nat.le_trans (by simp [List.length_take]; omega) (nxt_len (f.bk b)))
  rw [List.length_range] at h1
  omega

structure BQ where
  b : Nat
  H : List VObj
  s6 : Nat
  s7 : Nat
  s8 : Nat
  s9 : Nat
  sp : Nat → Nat
  ri : Nat → Nat × Nat
  ro : Nat → Nat × Nat
  nx : Nat
abbrev ahC (n : Nat) (sp : Nat → Nat) (pl : Nat → List Nat) : List AV := (List.range n).map fun c => .ref (10 + c) (sp c) 0 (pl c).length
abbrev slB (f : BF) (ka kw b s6 s7 s8 s9 : Nat) : List AV := [nextA f, .ref ka ka 0 f.n, .ref 6 s6 0 b, .ref 7 s7 0 b, .ref 8 s8 0 b, .ref 9 s9 0 b, nilv, .ref kw kw 0 f.n]
structure SB (f : BF) (ka kw : Nat) (o0 o1 : VObj) (pl : Nat → List Nat) (x : BQ) : Prop where
  h0 : x.H[0]? = some o0
  h1 : x.H[1]? = some o1
  h2 : x.H[2]? = some ⟨2, 24, 1, bfL f⟩
  so : x.H[5]? = some ⟨5, 66, 1, slB f ka kw x.b x.s6 x.s7 x.s8 x.s9⟩
  ah : x.H[ka]? = some ⟨ka, 43, 1, ahC f.n x.sp pl⟩
  pr : ∀ c < f.n, x.H[10 + c]? = some ⟨x.sp c, 3, 1, natsL (pl c)⟩
  r6 : x.H[6]? = some ⟨x.s6, 70, 1, (f.bks.take x.b).map fun b => .imm 1 (rowC64 (readL b f.r))⟩
  r7 : x.H[7]? = some ⟨x.s7, 70, 1, (f.bks.take x.b).map fun b => .imm 1 (rowC64 (setL b f.r))⟩
  r8 : x.H[8]? = some ⟨x.s8, 70, 1, rowsL x.b f.r x.ri⟩
  r9 : x.H[9]? = some ⟨x.s9, 70, 1, rowsL x.b f.r x.ro⟩
  ri : ∀ c < x.b, x.H[(x.ri c).1]? = some ⟨(x.ri c).2, 88, 1, rowC64 (List.replicate f.r false)⟩
  ro : ∀ c < x.b, x.H[(x.ro c).1]? = some ⟨(x.ro c).2, 88, 1, rowC64 (List.replicate f.r false)⟩
  w : x.H[kw]? = some ⟨kw, 4, 1, (List.replicate f.n false).map B⟩
  dI : ∀ b < x.b, ∀ c < x.b, (x.ri b).1 = (x.ri c).1 → b = c
  dO : ∀ b < x.b, ∀ c < x.b, (x.ro b).1 = (x.ro c).1 → b = c
  dIO : ∀ b < x.b, ∀ c < x.b, (x.ri b).1 ≠ (x.ro c).1

theorem cellT_ah {n b : Nat} {sp : Nat → Nat} {pl : Nat → List Nat} {C : AV → Prop} : cellT (ahC n sp pl) b false 1 C .mk = (b < n ∧ C (.ref (10 + b) (sp b) 0 (pl b).length)) := by
  rw [cellT_map (fun _ => rfl)]
  apply propext
  rw [List.length_range]
  refine ⟨fun ⟨h1, h2⟩ => ⟨h1, ?_⟩, fun ⟨h1, h2⟩ => ⟨h1, ?_⟩⟩
  · rw [range_get h1] at h2; exact h2
  · rw [range_get h1]; exact h2
theorem ahC_set {n k s : Nat} {sp : Nat → Nat} {pl : Nat → List Nat} {m : Nat} (hk : k < n) (l : List Nat) (hm : m = l.length) : (ahC n sp pl).set k (.ref (10 + k) s 0 m) = ahC n (fun c => if c = k then s else sp c) (fun c => if c = k then l else pl c) := by
  subst hm
  refine List.ext_getElem (by simp) fun i h1 h2 => ?_
  rw [List.getElem_set]
  simp only [List.getElem_map, List.getElem_range]
  by_cases e : k = i
  · subst e; simp
  · have : ¬ i = k := fun h => e h.symm
    simp [e, this]

/-- One more that goes on to a block. -/
theorem SB.add {f : BF} {ka kw : Nat} {o0 o1 : VObj} {pl : Nat → List Nat} {x : BQ} (h : SB f ka kw o0 o1 pl x) (hka : ka = 3 ∨ ka = 4) (hkw : kw = 3 ∨ kw = 4) (hne : ka ≠ kw) (t0 : o0.ty = 24) (t1 : o1.ty = 29) {k : Nat} (hk : k < f.n) (l : List Nat) (s' : Nat) (tmp : VObj) (nx' : Nat) :
    SB f ka kw o0 o1 (fun c => if c = k then l else pl c) { x with H := ((x.H ++ [tmp]).set (10 + k) ⟨s', 3, 1, natsL l⟩).set ka ⟨ka, 43, 1, ahC f.n (fun c => if c = k then s' else x.sp c) (fun c => if c = k then l else pl c)⟩, sp := fun c => if c = k then s' else x.sp c, nx := nx' } := by
  have k1 : KeepT [3, 43] x.H (((x.H ++ [tmp]).set (10 + k) ⟨s', 3, 1, natsL l⟩).set ka ⟨ka, 43, 1, ahC f.n (fun c => if c = k then s' else x.sp c) (fun c => if c = k then l else pl c)⟩) :=
    ((KeepT.app _ _ _).trans (KeepT.set (app_old (h.pr k hk) _) (by simp))).trans (KeepT.set (ob := ⟨ka, 43, 1, ahC f.n x.sp pl⟩) (by rw [set_ne (by omega)]; exact app_old h.ah _) (by simp))
  refine ⟨k1 _ _ h.h0 (by rw [t0]; simp), k1 _ _ h.h1 (by rw [t1]; simp), k1 _ _ h.h2 (by simp), k1 _ _ h.so (by simp), ?_, fun c hc => ?_, k1 _ _ h.r6 (by simp), k1 _ _ h.r7 (by simp), k1 _ _ h.r8 (by simp), k1 _ _ h.r9 (by simp), fun c hc => k1 _ _ (h.ri c hc) (by simp), fun c hc => k1 _ _ (h.ro c hc) (by simp), k1 _ _ h.w (by simp), h.dI, h.dO, h.dIO⟩
  · exact set_get (a := ⟨ka, 43, 1, ahC f.n x.sp pl⟩) (by rw [set_ne (by omega)]; exact app_old h.ah _)
  · simp only
    rw [set_ne (by omega)]
    by_cases e : c = k
    · subst e
      rw [if_pos rfl, if_pos rfl]
      exact set_get (app_old (h.pr c hk) _)
    · rw [if_neg e, if_neg e, set_ne (by omega)]
      exact app_old (h.pr c hc) _
end Go.Proofs.Ytjdeediehmhdoaa
namespace Go.Proofs.Ytjdeediehmhdoaa
set_option linter.unusedSimpArgs false
set_option linter.unusedVariables false
set_option maxRecDepth 10000
open Go.V

theorem virt_set {env : List (Nat × AV)} {H : List VObj} {nx i j : Nat} {ob : VObj} (ty sz : Nat) (hsz : sz ≠ 0) (he : ∀ p ∈ env, get env p.1 = p.2) (ho : H[i]? = some ob) (hz : ob.sz ≠ 0) (hj : ob.cs[j]? = some nilv) :
    Wk ⟨env, H, nx⟩ ⟨env, H.set i ⟨ob.s, ob.ty, ob.sz, ob.cs.set j (.ref H.length nx 0 0)⟩ ++ [⟨nx, ty, sz, []⟩], nx + 1⟩ :=
  virt_at ty sz hsz he ho hz (by simp) fun m x y hx hy => by
    rw [List.getElem?_set] at hy
    by_cases e : j = m
    · subst e
      rw [if_pos rfl, if_pos (List.getElem?_eq_some_iff.1 hj).1] at hy
      rw [hj] at hx
      cases hx; cases hy
      exact .inr ⟨rfl, rfl⟩
    · rw [if_neg e] at hy
      rw [hx] at hy; exact .inl (Option.some.inj hy)

theorem virt_cells (n ka : Nat) (hka : ka < 10) (env : List (Nat × AV)) (he : ∀ p ∈ env, get env p.1 = p.2) (H : List VObj) (hl : H.length = 10) (ha : H[ka]? = some ⟨ka, 43, 1, List.replicate n nilv⟩) : ∀ c, c ≤ n →
    ∃ H', Wk ⟨env, H, 10⟩ ⟨env, H', 10 + c⟩ ∧ H'.length = 10 + c ∧ (∀ i, i < 10 → i ≠ ka → H'[i]? = H[i]?) ∧ H'[ka]? = some ⟨ka, 43, 1, (List.range n).map fun d => if d < c then .ref (10 + d) (10 + d) 0 0 else nilv⟩ ∧ ∀ d < c, H'[10 + d]? = some ⟨10 + d, 3, 1, []⟩
  | 0, _ => ⟨H, Wk.refl _, hl, fun _ _ _ => rfl, by rw [ha]; congr 2; refine List.ext_getElem (by simp) fun i h1 h2 => by simp, fun d hd => by omega⟩
  | c + 1, hc => by
    obtain ⟨H', hw, h1, h2, h3, h4⟩ := virt_cells n ka hka env he H hl ha c (by omega)
    have hv := virt_set (env := env) (nx := 10 + c) (j := c) 3 1 (by decide) he h3 (by simp) (by simp [show c < n by omega])
    refine ⟨_, hw.trans hv, by simp [h1]; omega, fun i hi hne => ?_, ?_, fun d hd => ?_⟩
    · rw [List.getElem?_append_left (by simp; omega), List.getElem?_set_ne (by omega)]
      exact h2 i hi hne
    · rw [List.getElem?_append_left (by simp; omega), List.getElem?_set_self (by omega), h1]
      congr 2
      refine List.ext_getElem (by simp) fun i g1 g2 => ?_
      rw [List.getElem_set]
      simp only [List.getElem_map, List.getElem_range]
      by_cases e : c = i
      · subst e; simp
      · rw [if_neg e]
        by_cases e2 : i < c
        · rw [if_pos e2, if_pos (by omega)]
        · rw [if_neg e2, if_neg (by omega)]
    · by_cases e : d = c
      · subst e
        rw [List.getElem?_append_right (by simp; omega)]
        simp [h1]
      · rw [List.getElem?_append_left (by simp; omega), List.getElem?_set_ne (by omega)]
        exact h4 d (by omega)

theorem begin_virt (f : BF) (ka kw : Nat) (hk : (ka = 3 ∧ kw = 4) ∨ (ka = 4 ∧ kw = 3)) (o0 o1 : VObj) (env : List (Nat × AV)) (he : ∀ p ∈ env, get env p.1 = p.2) (H : List VObj) (hl : H.length = 6) (h0 : H[0]? = some o0) (h1 : H[1]? = some o1)
    (h2 : H[2]? = some ⟨2, 24, 1, bfL f⟩) (hS : H[5]? = some ⟨5, 66, 1, [nextA f, .ref ka ka 0 f.n, nilv, nilv, nilv, nilv, nilv, .ref kw kw 0 f.n]⟩)
    (ha : H[ka]? = some ⟨ka, 43, 1, List.replicate f.n nilv⟩) (hw : H[kw]? = some ⟨kw, 4, 1, (List.replicate f.n false).map B⟩) :
    ∃ H' nx', Wk ⟨env, H, 6⟩ ⟨env, H', nx'⟩ ∧ SB f ka kw o0 o1 (fun _ => []) ⟨0, H', 6, 7, 8, 9, fun c => 10 + c, fun _ => (0, 0), fun _ => (0, 0), nx'⟩ := by
  have w1 := virt_set (env := env) (nx := 6) (j := 2) 70 1 (by decide) he hS (by simp) rfl
  obtain ⟨H1, e1⟩ : ∃ H1, H1 = H.set 5 ⟨5, 66, 1, [nextA f, .ref ka ka 0 f.n, .ref 6 6 0 0, nilv, nilv, nilv, nilv, .ref kw kw 0 f.n]⟩ ++ [⟨6, 70, 1, []⟩] := ⟨_, rfl⟩
  rw [hl] at w1
  have w1' : Wk ⟨env, H, 6⟩ ⟨env, H1, 7⟩ := by rw [e1]; exact w1
  have l1 : H1.length = 7 := by rw [e1]; simp [hl]
  have hS1 : H1[5]? = some ⟨5, 66, 1, [nextA f, .ref ka ka 0 f.n, .ref 6 6 0 0, nilv, nilv, nilv, nilv, .ref kw kw 0 f.n]⟩ := by rw [e1, List.getElem?_append_left (by simp [hl]), List.getElem?_set_self (by omega)]
  have o1' : ∀ i, i < 6 → i ≠ 5 → H1[i]? = H[i]? := fun i hi hne => by rw [e1, List.getElem?_append_left (by simp [hl]; omega), List.getElem?_set_ne (by omega)]
  have n1 : H1[6]? = some ⟨6, 70, 1, []⟩ := by rw [e1, List.getElem?_append_right (by simp [hl])]; simp [hl]
  clear e1 w1
  have w2 := virt_set (env := env) (nx := 7) (j := 3) 70 1 (by decide) he hS1 (by simp) rfl
  obtain ⟨H2, e2⟩ : ∃ H2, H2 = H1.set 5 ⟨5, 66, 1, [nextA f, .ref ka ka 0 f.n, .ref 6 6 0 0, .ref 7 7 0 0, nilv, nilv, nilv, .ref kw kw 0 f.n]⟩ ++ [⟨7, 70, 1, []⟩] := ⟨_, rfl⟩
  rw [l1] at w2
  have w2' : Wk ⟨env, H1, 7⟩ ⟨env, H2, 8⟩ := by rw [e2]; exact w2
  have l2 : H2.length = 8 := by rw [e2]; simp [l1]
  have hS2 : H2[5]? = some ⟨5, 66, 1, [nextA f, .ref ka ka 0 f.n, .ref 6 6 0 0, .ref 7 7 0 0, nilv, nilv, nilv, .ref kw kw 0 f.n]⟩ := by rw [e2, List.getElem?_append_left (by simp [l1]), List.getElem?_set_self (by omega)]
  have o2' : ∀ i, i < 7 → i ≠ 5 → H2[i]? = H1[i]? := fun i hi hne => by rw [e2, List.getElem?_append_left (by simp [l1]; omega), List.getElem?_set_ne (by omega)]
  have n2 : H2[7]? = some ⟨7, 70, 1, []⟩ := by rw [e2, List.getElem?_append_right (by simp [l1])]; simp [l1]
  clear e2 w2
  have w3 := virt_set (env := env) (nx := 8) (j := 4) 70 1 (by decide) he hS2 (by simp) rfl
  obtain ⟨H3, e3⟩ : ∃ H3, H3 = H2.set 5 ⟨5, 66, 1, [nextA f, .ref ka ka 0 f.n, .ref 6 6 0 0, .ref 7 7 0 0, .ref 8 8 0 0, nilv, nilv, .ref kw kw 0 f.n]⟩ ++ [⟨8, 70, 1, []⟩] := ⟨_, rfl⟩
  rw [l2] at w3
  have w3' : Wk ⟨env, H2, 8⟩ ⟨env, H3, 9⟩ := by rw [e3]; exact w3
  have l3 : H3.length = 9 := by rw [e3]; simp [l2]
  have hS3 : H3[5]? = some ⟨5, 66, 1, [nextA f, .ref ka ka 0 f.n, .ref 6 6 0 0, .ref 7 7 0 0, .ref 8 8 0 0, nilv, nilv, .ref kw kw 0 f.n]⟩ := by rw [e3, List.getElem?_append_left (by simp [l2]), List.getElem?_set_self (by omega)]
  have o3' : ∀ i, i < 8 → i ≠ 5 → H3[i]? = H2[i]? := fun i hi hne => by rw [e3, List.getElem?_append_left (by simp [l2]; omega), List.getElem?_set_ne (by omega)]
  have n3 : H3[8]? = some ⟨8, 70, 1, []⟩ := by rw [e3, List.getElem?_append_right (by simp [l2])]; simp [l2]
  clear e3 w3
  have w4 := virt_set (env := env) (nx := 9) (j := 5) 70 1 (by decide) he hS3 (by simp) rfl
  obtain ⟨H4, e4⟩ : ∃ H4, H4 = H3.set 5 ⟨5, 66, 1, slB f ka kw 0 6 7 8 9⟩ ++ [⟨9, 70, 1, []⟩] := ⟨_, rfl⟩
  rw [l3] at w4
  have w4' : Wk ⟨env, H3, 9⟩ ⟨env, H4, 10⟩ := by rw [e4]; exact w4
  have l4 : H4.length = 10 := by rw [e4]; simp [l3]
  have hS4 : H4[5]? = some ⟨5, 66, 1, slB f ka kw 0 6 7 8 9⟩ := by rw [e4, List.getElem?_append_left (by simp [l3]), List.getElem?_set_self (by omega)]
  have o4' : ∀ i, i < 9 → i ≠ 5 → H4[i]? = H3[i]? := fun i hi hne => by rw [e4, List.getElem?_append_left (by simp [l3]; omega), List.getElem?_set_ne (by omega)]
  have n4 : H4[9]? = some ⟨9, 70, 1, []⟩ := by rw [e4, List.getElem?_append_right (by simp [l3])]; simp [l3]
  clear e4 w4
  have old : ∀ i, i < 6 → i ≠ 5 → H4[i]? = H[i]? := fun i hi hne => by rw [o4' i (by omega) hne, o3' i (by omega) hne, o2' i (by omega) hne, o1' i hi hne]
  obtain ⟨H', hw', g1, g2, g3, g4⟩ := virt_cells f.n ka (by omega) env he H4 l4 (by rw [old ka (by omega) (by omega)]; exact ha) f.n (Nat.le_refl _)
  refine ⟨H', _, (((w1'.trans w2').trans w3').trans w4').trans hw', ?_⟩
  refine ⟨?_, ?_, ?_, ?_, ?_, fun c hc => g4 c hc, ?_, ?_, ?_, ?_, fun c hc => absurd hc (by simp), fun c hc => absurd hc (by simp), ?_, fun c hc => absurd hc (by simp), fun c hc => absurd hc (by simp), fun c hc => absurd hc (by simp)⟩
  · rw [g2 0 (by omega) (by omega), old 0 (by omega) (by omega)]; exact h0
  · rw [g2 1 (by omega) (by omega), old 1 (by omega) (by omega)]; exact h1
  · rw [g2 2 (by omega) (by omega), old 2 (by omega) (by omega)]; exact h2
  · rw [g2 5 (by omega) (by omega)]; exact hS4
  · rw [g3]
    congr 2
    refine List.ext_getElem (by simp) fun i q1 q2 => ?_
    have : i < f.n := by simpa using q1
    simp [this]
  · rw [g2 6 (by omega) (by omega), o4' 6 (by omega) (by omega), o3' 6 (by omega) (by omega), o2' 6 (by omega) (by omega)]; exact n1
  · rw [g2 7 (by omega) (by omega), o4' 7 (by omega) (by omega), o3' 7 (by omega) (by omega)]; exact n2
  · rw [g2 8 (by omega) (by omega), o4' 8 (by omega) (by omega)]; exact n3
  · rw [g2 9 (by omega) (by omega)]; exact n4
  · rw [g2 kw (by omega) (by omega), old kw (by omega) (by omega)]; exact hw
end Go.Proofs.Ytjdeediehmhdoaa
namespace Go.Proofs.Ytjdeediehmhdoaa
set_option linter.unusedSimpArgs false
set_option linter.unusedVariables false
set_option maxRecDepth 10000
open Go.V

def orP (x y : List Bool) (k : Nat) : List Bool := (List.range x.length).map fun i => if i < k then gB x i || gB y i else gB x i
theorem orP_len (x y : List Bool) (k : Nat) : (orP x y k).length = x.length := by simp [orP]
theorem gB_orP (x y : List Bool) (k : Nat) {i : Nat} (hi : i < x.length) : gB (orP x y k) i = if i < k then gB x i || gB y i else gB x i := by
  unfold orP; rw [gB, List.getD]; simp [hi]
theorem orP_zero (x y : List Bool) : orP x y 0 = x := gB_ext (orP_len _ _ _) fun v hv => by
  rw [orP_len] at hv; rw [gB_orP _ _ _ hv, if_neg (by omega)]
theorem orP_all (x y : List Bool) {k : Nat} (hk : x.length ≤ k) : orP x y k = orL x y := gB_ext (by rw [orP_len, orL_len]) fun v hv => by
  rw [orP_len] at hv; rw [gB_orP _ _ _ hv, if_pos (by omega), gB_or _ _ hv]
theorem orP_set (x y : List Bool) {k : Nat} (hk : k < x.length) {w : Bool} (hw : w = (gB x k || gB y k)) : (orP x y k).set k w = orP x y (k + 1) := gB_ext (by simp [orP]) fun v hv => by
  have hv' : v < x.length := by simpa [orP] using hv
  rw [gB_set _ _ _ _ (by rw [orP_len]; exact hv'), gB_orP _ _ _ hv', gB_orP _ _ _ hv']
  by_cases e : k = v
  · subst e; rw [if_pos rfl, if_pos (by omega)]; exact hw
  · rw [if_neg e]
    by_cases h : v < k
    · rw [if_pos h, if_pos (by omega)]
    · rw [if_neg h, if_neg (by omega)]
theorem orP_skip (x y : List Bool) {k : Nat} (hk : k < x.length) (hw : gB x k = (gB x k || gB y k)) : orP x y k = orP x y (k + 1) := by
  rw [← orP_set x y hk hw]
  exact gB_ext (by simp) fun v hv => by
    have hv' : v < x.length := by rw [orP_len] at hv; exact hv
    rw [gB_set _ _ _ _ hv]
    by_cases e : k = v
    · subst e; rw [if_pos rfl, gB_orP _ _ _ hv', if_neg (by omega)]
    · rw [if_neg e]

def moreP (x a : List Bool) (k : Nat) : Bool := (List.range k).any fun i => gB a i && !gB x i
theorem moreP_step (x a : List Bool) (k : Nat) : moreP x a (k + 1) = (moreP x a k || (gB a k && !gB x k)) := by
  unfold moreP; rw [List.range_succ, List.any_append]; simp
theorem moreP_all (x a : List Bool) : moreP x a x.length = decide (orL x a ≠ x) := by
  rw [Bool.eq_iff_iff, decide_eq_true_iff]
  unfold moreP
  rw [List.any_eq_true]
  constructor
  · rintro ⟨i, hi, h⟩ e
    have hi := List.mem_range.1 hi
    have h3 := gB_or x a hi
    rw [e] at h3
    rw [Bool.and_eq_true, Bool.not_eq_true'] at h
    rw [h.1, h.2] at h3
    cases h3
  · intro h
    refine Classical.byContradiction fun hn => h (gB_ext (orL_len _ _) fun v hv => ?_)
    rw [orL_len] at hv
    rw [gB_or _ _ hv]
    cases h1 : gB x v
    · cases h2 : gB a v
      · rfl
      · exact absurd ⟨v, List.mem_range.2 hv, by rw [h1, h2]; rfl⟩ hn
    · rfl
structure RK where
  kl : Nat
  sl : Nat
  k1 : Nat
  s1 : Nat
  k2 : Nat
  s2 : Nat
  g1 : Nat → Nat × Nat
  g2 : Nat → Nat × Nat
structure RS (f : BF) (H : List VObj) (q : RK) (I O : List (List Bool)) : Prop where
  fb : H[0]? = some ⟨0, 24, 1, bfL f⟩
  rl : H[1]? = some ⟨1, 29, 1, [nilv, nilv]⟩
  lv : H[q.kl]? = some ⟨q.sl, 29, 1, [.ref q.k1 q.s1 0 f.n, .ref q.k2 q.s2 0 f.n]⟩
  mi : MT f.n f.r H q.k1 q.s1 q.g1 I
  mo : MT f.n f.r H q.k2 q.s2 q.g2 O
  dio : ∀ b < f.n, ∀ c < f.n, (q.g1 b).1 ≠ (q.g2 c).1
section
variable {f : BF} {H : List VObj} {q : RK} {I O : List (List Bool)}
theorem RS.app (h : RS f H q I O) (R : List VObj) : RS f (H ++ R) q I O := ⟨app_old h.fb R, app_old h.rl R, app_old h.lv R, h.mi.app R, h.mo.app R, h.dio⟩
theorem RS.setO (h : RS f H q I O) (hl : O.length = f.n) {b : Nat} (hb : b < f.n) (l : List Bool) : RS f (H.set (q.g2 b).1 ⟨(q.g2 b).2, 4, 1, l.map B⟩) q I (O.set b l) := by
  have k : KeepT [4] H (H.set (q.g2 b).1 ⟨(q.g2 b).2, 4, 1, l.map B⟩) := KeepT.set (h.mo.r b hb) (by simp)
  have hO : b < O.length := by omega
  refine ⟨k _ _ h.fb (by simp), k _ _ h.rl (by simp), k _ _ h.lv (by simp), ⟨k _ _ h.mi.l (by simp), fun c hc => ?_, h.mi.d⟩, ⟨k _ _ h.mo.l (by simp), fun c hc => ?_, h.mo.d⟩, h.dio⟩
  · rw [set_ne (fun e => h.dio c hc b hb e.symm)]; exact h.mi.r c hc
  · rw [row_set hO]
    by_cases e : b = c
    · subst e; rw [if_pos rfl]; exact set_get (h.mo.r b hb)
    · rw [if_neg e, set_ne (fun g => e (h.mo.d b hb c hc g))]; exact h.mo.r c hc
theorem RS.setI (h : RS f H q I O) (hl : I.length = f.n) {b : Nat} (hb : b < f.n) (l : List Bool) : RS f (H.set (q.g1 b).1 ⟨(q.g1 b).2, 4, 1, l.map B⟩) q (I.set b l) O := by
  have k : KeepT [4] H (H.set (q.g1 b).1 ⟨(q.g1 b).2, 4, 1, l.map B⟩) := KeepT.set (h.mi.r b hb) (by simp)
  have hI : b < I.length := by omega
  refine ⟨k _ _ h.fb (by simp), k _ _ h.rl (by simp), k _ _ h.lv (by simp), ⟨k _ _ h.mi.l (by simp), fun c hc => ?_, h.mi.d⟩, ⟨k _ _ h.mo.l (by simp), fun c hc => ?_, h.mo.d⟩, h.dio⟩
  · rw [row_set hI]
    by_cases e : b = c
    · subst e; rw [if_pos rfl]; exact set_get (h.mi.r b hb)
    · rw [if_neg e, set_ne (fun g => e (h.mi.d b hb c hc g))]; exact h.mi.r c hc
  · rw [set_ne (fun e => h.dio b hb c hc e)]; exact h.mo.r c hc
end

theorem MT.keep {n r : Nat} {H H' : List VObj} {k s : Nat} {g : Nat → Nat × Nat} {m : List (List Bool)} {ts : List Nat} (h : MT n r H k s g m) (kp : KeepT ts H H') (h1 : 39 ∉ ts) (h2 : 4 ∉ ts) : MT n r H' k s g m :=
  ⟨kp _ _ h.l h1, fun b hb => kp _ _ (h.r b hb) h2, h.d⟩
theorem MT.frz {n r : Nat} {H : List VObj} {k s nx : Nat} {g : Nat → Nat × Nat} {m : List (List Bool)} (h : MT n r H k s g m) (hm : m.length = n) (hr : ∀ l ∈ m, l.length = r) : Frz 0 H nx (.ref k s 0 n) (rowsA m) := by
  refine frz_whole (Nat.zero_le _) h.l (by simp [hm]) (by simp [hm]) (by simp [AV.one]) fun i x y hx hy => ?_
  have hi : i < n := by have := (List.getElem?_eq_some_iff.1 hx).1; simpa using this
  simp only [List.getElem?_map, List.getElem?_range hi, Option.map_some, Option.some.injEq] at hx
  rw [List.getElem?_map, List.getElem?_eq_getElem (show i < m.length by omega), Option.map_some, Option.some.injEq] at hy
  subst hx; subst hy
  have e : m.getD i [] = m[i] := by simp [List.getD, List.getElem?_eq_getElem (show i < m.length by omega)]
  have ho := h.r i hi
  rw [e] at ho
  exact frz_bools (Nat.zero_le _) ho (hr _ (List.getElem_mem _)).symm
structure MQ where
  H : List VObj
  I : List (List Bool)
  O : List (List Bool)
  m : Bool
  nx : Nat
structure CQ where
  c : Nat
  H : List VObj
  nx : Nat
def _root_.Go.V.VC.tl : VC → VC
  | .seq _ y => y
  | x => x
theorem rof_tail (f : BF) (hf : Fine f) (L : LD) (hL : Least f L) (env : List (Nat × AV)) (H : List VObj) (nx : Nat) (q : RK) (he1 : get env 1 = .ptr 0 0 0) (he2 : get env 2 = .ptr 1 1 0) (he3 : get env 3 = I f.n) (he4 : get env 4 = .ptr q.kl q.sl 0)
    (hRS : RS f H q (beginS f).I (beginS f).O) : VW Try.prog c_scref27_Of.tl.tl.tl (retQ Try.prog [VR.cell 2 true 2] fun r H nx => ∃ y, Frz 0 H nx r y ∧ y = liveA L) ⟨env, H, nx⟩ := by
  have hr0 := hf.r0
  have hr4 : f.r ≤ 4000 := by have := hf.r1; unfold BF.r; omega
  have hregs : f.regs = (f.r : Int) := by unfold BF.r; omega
  have hn5 : f.n ≤ 500 := hf.b1
  have hlen : (f.bks.length : Int) = f.n := rfl
  have hfb := hRS.fb
  simp only [go_sem,Nat.reduceEqDiff,Nat.reduceAdd,Nat.reduceMul,↓reduceIte,↓dreduceIte,reduceCtorEq,Nat.reduceLeDiff,Nat.reduceLT,Nat.reduceSub,Int.reduceToNat,Int.reduceLE,Int.reduceLT, c_scref27_Of, VC.tl, he1, he2, he3, he4, hfb]
  refine VCall.of_contract (refnext_c f hf.b1) (SleL.pure rfl) fun x hx => ?_
  subst hx
  simp only [go_sem,Nat.reduceEqDiff,Nat.reduceAdd,Nat.reduceMul,↓reduceIte,↓dreduceIte,reduceCtorEq,Nat.reduceLeDiff,Nat.reduceLT,Nat.reduceSub,Int.reduceToNat,Int.reduceLE,Int.reduceLT]
  refine VW_loop (fun x : MQ => ⟨[(1, .ptr 0 0 0), (2, .ptr 1 1 0), (3, I f.n), (4, .ptr q.kl q.sl 0), (5, nextA f), (6, B x.m)], x.H, x.nx⟩) (fun x => RS f x.H q x.I x.O ∧ RInv f x.I x.O ∧ (x.m = false → Least f ⟨x.I, x.O⟩)) (fun x => if x.m then unset x.I + 1 else 0)
    ⟨H, (beginS f).I, (beginS f).O, true, nx⟩ (Wk.mk (by simp [get_cons, he1, he2, he3, he4]) ⟨[], by simp⟩ (Nat.le_refl _)) ⟨hRS, begin_r f, fun e => by cases e⟩ ?_
  clear hRS hfb
  rintro ⟨H, I0, O0, m, nx⟩ ⟨hRS, hRI, hm⟩
  simp only at hRS hRI hm
  cases m
  · have hLL : (⟨I0, O0⟩ : LD) = L := (hm rfl).unique hL
    subst hLL
    have hlv := hRS.lv
    have hrl := hRS.rl
    have l1 := lt_of hrl
    have kp : KeepT [29] H (H.set 1 ⟨1, 29, 1, [.ref q.k1 q.s1 0 f.n, .ref q.k2 q.s2 0 f.n]⟩) := KeepT.set hrl (by simp)
    simp only [go_sem,Nat.reduceEqDiff,Nat.reduceAdd,Nat.reduceMul,↓reduceIte,↓dreduceIte,reduceCtorEq,Nat.reduceLeDiff,Nat.reduceLT,Nat.reduceSub,Int.reduceToNat,Int.reduceLE,Int.reduceLT, hlv, hrl, List.getElem?_set, l1]
    repeat ((with_reducible refine And.intro ?_ ?_); · omega)
    refine ⟨_, Frz.agg (ys := [rowsA I0, rowsA O0]) ?_, rfl⟩
    exact ⟨_, _, rfl, (hRS.mi.keep kp (by simp) (by simp)).frz hRI.sz.i hRI.sz.ir, _, _, rfl, (hRS.mo.keep kp (by simp) (by simp)).frz hRI.sz.o hRI.sz.or, rfl⟩
  · simp only [go_sem,Nat.reduceEqDiff,Nat.reduceAdd,Nat.reduceMul,↓reduceIte,↓dreduceIte,reduceCtorEq,Nat.reduceLeDiff,Nat.reduceLT,Nat.reduceSub,Int.reduceToNat,Int.reduceLE,Int.reduceLT]
    rw [i64_in (by omega) (by omega)]
    refine VW_loop (fun x : CQ => ⟨[(1, .ptr 0 0 0), (2, .ptr 1 1 0), (3, I f.n), (4, .ptr q.kl q.sl 0), (5, nextA f), (6, B (passR f I0 O0 x.c).m), (7, I ((f.n : Int) - 1 - x.c))], x.H, x.nx⟩) (fun x => x.c ≤ f.n ∧ RS f x.H q (passR f I0 O0 x.c).I (passR f I0 O0 x.c).O) (fun x => f.n - x.c)
      ⟨0, H, nx⟩ (Wk.mk (by simp [get_cons, passR]) ⟨[], by simp⟩ (Nat.le_refl _)) ⟨by simp, hRS⟩ ?_
    clear hRS
    rintro ⟨c, H, nx⟩ ⟨hc, hRS⟩
    simp only at hc hRS
    by_cases hlt : c < f.n
    · have hP := hRI.pass hf c (by omega)
      have e1 : ((f.n : Int) - 1 - c).toNat = f.n - 1 - c := by omega
      obtain ⟨b, hbe⟩ : ∃ b, b = f.n - 1 - c := ⟨_, rfl⟩
      have hb : b < f.n := by omega
      have hbn : b < f.bks.length := hb
      have hbk : f.bks.getD b default = f.bk b := rfl
      have hbi : (f.n : Int) - 1 - c = b := by omega
      have hnext : passR f I0 O0 (c + 1) = stepR f (passR f I0 O0 c) b := by rw [hbe]; rfl
      rw [hbi]
      generalize passR f I0 O0 c = p at hRS hP hnext ⊢
      have hil : (p.I.getD b []).length = f.r := hP.sz.il hb
      have hol : (p.O.getD b []).length = f.r := hP.sz.ol hb
      have hfb := hRS.fb
      have hlv := hRS.lv
      have hmil := hRS.mi.l
      have hmol := hRS.mo.l
      have hob := hRS.mo.r b hb
      have f1 := ty_ne hob hfb (by simp)
      have f2 := ty_ne hob hlv (by simp)
      have f3 := ty_ne hob hmil (by simp)
      have f4 := ty_ne hob hmol (by simp)
      have l1 := lt_of hob
      have hnl := nxt_len (f.bk b)
      have hto := hf.to _ (BF.mem hb)
      have hlen2 : (f.bks.map fun b => ints (nxt b)).length = f.n := by simp [BF.n]
      simp only [go_sem,Nat.reduceEqDiff,Nat.reduceAdd,Nat.reduceMul,↓reduceIte,↓dreduceIte,reduceCtorEq,Nat.reduceLeDiff,Nat.reduceLT,Nat.reduceSub,Int.reduceToNat,Int.reduceLE,Int.reduceLT, eq_true (show (0 : Int) ≤ (b : Int) by omega)]
      refine VW_loop (fun j : Nat => ⟨[(1, .ptr 0 0 0), (2, .ptr 1 1 0), (3, I f.n), (4, .ptr q.kl q.sl 0), (5, nextA f), (6, B p.m), (7, I b), (8, I j)], H.set (q.g2 b).1 ⟨(q.g2 b).2, 4, 1, (gath p.I (p.O.getD b []) ((nxt (f.bk b)).take j)).map B⟩, nx⟩) (fun j => j ≤ (nxt (f.bk b)).length) (fun j => (nxt (f.bk b)).length - j) 0
        (Wk.mk (by simp [get_cons]) ⟨[], by rw [List.append_nil]; exact (set_of_get hob).symm⟩ (Nat.le_refl _)) (by omega) ?_
      intro j hj
      by_cases hl2 : j < (nxt (f.bk b)).length
      · have hk := hto _ (mem_getD hl2)
        have hgt := gath_take p.I (p.O.getD b []) _ hl2
        have hgl := gath_len p.I ((nxt (f.bk b)).take j) (p.O.getD b [])
        generalize hkk : (nxt (f.bk b)).getD j default = k at hk hgt ⊢
        have hkn : k.toNat < f.n := by unfold BF.n; omega
        have hik := hRS.mi.r k.toNat hkn
        have hkl : (p.I.getD k.toNat []).length = f.r := hP.sz.il hkn
        have f5 : ((q.g2 b).1 = (q.g1 k.toNat).1) = False := eq_false fun e => hRS.dio _ hkn b hb e.symm
        generalize hx : gath p.I (p.O.getD b []) ((nxt (f.bk b)).take j) = x at hgt hgl ⊢
        rw [hol] at hgl
        have hgt' : gath p.I (p.O.getD b []) ((nxt (f.bk b)).take (j + 1)) = orL x (p.I.getD k.toNat []) := hgt
        generalize hy : p.I.getD k.toNat [] = y at hik hkl hgt'
        simp only [go_sem,Nat.reduceEqDiff,Nat.reduceAdd,Nat.reduceMul,↓reduceIte,↓dreduceIte,reduceCtorEq,Nat.reduceLeDiff,Nat.reduceLT,Nat.reduceSub,Int.reduceToNat,Int.reduceLE,Int.reduceLT, one_imm, one_ref, hbk, hkk, List.length_map, eq_true (show (j : Int) < (nxt (f.bk b)).length by omega)]
        repeat ((with_reducible refine And.intro ?_ ?_); · omega)
        refine VW_loop (fun v : Nat => ⟨[(1, .ptr 0 0 0), (2, .ptr 1 1 0), (3, I f.n), (4, .ptr q.kl q.sl 0), (5, nextA f), (6, B p.m), (7, I b), (8, I j), (9, I v)], H.set (q.g2 b).1 ⟨(q.g2 b).2, 4, 1, (orP x y v).map B⟩, nx⟩) (fun v => v ≤ f.r) (fun v => f.r - v) 0
          (Wk.mk (by simp [get_cons]) ⟨[], by rw [orP_zero, List.append_nil]⟩ (Nat.le_refl _)) (by omega) ?_
        intro v hv
        by_cases hl3 : v < f.r
        · have hgx : gB (orP x y v) v = gB x v := by rw [gB_orP _ _ _ (by omega), if_neg (by omega)]
          cases h5 : gB x v
          · have hst : (orP x y v).set v (gB y v) = orP x y (v + 1) := orP_set x y (by omega) (by rw [h5]; rfl)
            simp only [go_sem,Nat.reduceEqDiff,Nat.reduceAdd,Nat.reduceMul,↓reduceIte,↓dreduceIte,reduceCtorEq,Nat.reduceLeDiff,Nat.reduceLT,Nat.reduceSub,Int.reduceToNat,Int.reduceLE,Int.reduceLT, hfb, hlv, hmil, hmol, hik, one_imm, one_ref, cellT_row, hbk, hkk, hregs, List.length_map, eq_true (show (v : Int) < f.r by omega), List.getElem?_set, f1, f2, f3, f4, f5, l1, gB_getD, hgx, h5, set_B, hst, orP_len, List.set_set]
            repeat ((with_reducible refine And.intro ?_ ?_); · omega)
            rw [i64_in (by omega) (by omega)]
            exact ⟨v + 1, by omega, by omega, Wk.mk (by simp [get_cons]) ⟨[], by simp⟩ (Nat.le_refl _)⟩
          · have hst : (orP x y v).set v true = orP x y (v + 1) := orP_set x y (by omega) (by rw [h5]; rfl)
            simp only [go_sem,Nat.reduceEqDiff,Nat.reduceAdd,Nat.reduceMul,↓reduceIte,↓dreduceIte,reduceCtorEq,Nat.reduceLeDiff,Nat.reduceLT,Nat.reduceSub,Int.reduceToNat,Int.reduceLE,Int.reduceLT, hfb, hlv, hmil, hmol, hik, one_imm, one_ref, cellT_row, hbk, hkk, hregs, List.length_map, eq_true (show (v : Int) < f.r by omega), List.getElem?_set, f1, f2, f3, f4, f5, l1, gB_getD, hgx, h5, set_B, hst, orP_len, List.set_set]
            repeat ((with_reducible refine And.intro ?_ ?_); · omega)
            rw [i64_in (by omega) (by omega)]
            exact ⟨v + 1, by omega, by omega, Wk.mk (by simp [get_cons]) ⟨[], by simp⟩ (Nat.le_refl _)⟩
        · obtain rfl : v = f.r := by omega
          simp only [go_sem,Nat.reduceEqDiff,Nat.reduceAdd,Nat.reduceMul,↓reduceIte,↓dreduceIte,reduceCtorEq,Nat.reduceLeDiff,Nat.reduceLT,Nat.reduceSub,Int.reduceToNat,Int.reduceLE,Int.reduceLT, hfb, one_imm, one_ref, hregs, List.getElem?_set, f1, eq_false (show ¬ (f.r : Int) < f.r by omega)]
          rw [i64_in (by omega) (by omega)]
          refine ⟨j + 1, by omega, by omega, Wk.mk (by simp [get_cons]) ⟨[], ?_⟩ (Nat.le_refl _)⟩
          rw [List.append_nil, hgt', orP_all x y (by omega)]
      · obtain rfl : j = (nxt (f.bk b)).length := by omega
        rw [List.take_length, show gath p.I (p.O.getD b []) (nxt (f.bk b)) = newO f p.I p.O b from rfl]
        have hob1 := set_get (x := ⟨(q.g2 b).2, 4, 1, (newO f p.I p.O b).map B⟩) hob
        have hRS1 := hRS.setO hP.sz.o hb (newO f p.I p.O b)
        have holn := hP.olen hf hb
        have haln := hP.alen hf hb
        generalize H.set (q.g2 b).1 ⟨(q.g2 b).2, 4, 1, (newO f p.I p.O b).map B⟩ = H1 at hob1 hRS1 ⊢
        have hfb1 := hRS1.fb
        have hlv1 := hRS1.lv
        have hmol1 := hRS1.mo.l
        have hrg := hf.regs hb (l := newO f p.I p.O b) holn
        have hln := hf.len _ (BF.mem hb)
        simp only [go_sem,Nat.reduceEqDiff,Nat.reduceAdd,Nat.reduceMul,↓reduceIte,↓dreduceIte,reduceCtorEq,Nat.reduceLeDiff,Nat.reduceLT,Nat.reduceSub,Int.reduceToNat,Int.reduceLE,Int.reduceLT, hfb1, hlv1, hmol1, one_imm, one_ref, hbk, cellT_row, List.length_map, eq_false (show ¬ ((nxt (f.bk b)).length : Int) < (nxt (f.bk b)).length by omega)]
        repeat ((with_reducible refine And.intro ?_ ?_); · omega)
        refine rahead_v (f.bk b) (newO f p.I p.O b) _ _ _ (by omega) (by omega) hrg.2 hrg.1 (fun R nx' => frz_bools (Nat.zero_le _) (app_old hob1 R) (by rw [holn])) _ fun R nx2 => ?_
        rw [show aheadL (f.bk b) (newO f p.I p.O b) = inOf f p.I p.O b from rfl]
        have hRS2 := hRS1.app R
        generalize H1 ++ R = H2 at hRS2 ⊢
        clear hob1 hRS1 hfb1 hlv1 hmol1
        have hib2 := hRS2.mi.r b hb
        have hfb2 := hRS2.fb
        have hlv2 := hRS2.lv
        have hmil2 := hRS2.mi.l
        have g1 := ty_ne hib2 hfb2 (by simp)
        have g2 := ty_ne hib2 hlv2 (by simp)
        have g3 := ty_ne hib2 hmil2 (by simp)
        have l2 := lt_of hib2
        have hRS3 := hRS2.setI hP.sz.i hb (orL (p.I.getD b []) (inOf f p.I p.O b))
        have hfin : stepR f p b = ⟨p.I.set b (orL (p.I.getD b []) (inOf f p.I p.O b)), p.O.set b (newO f p.I p.O b), p.m || moreP (p.I.getD b []) (inOf f p.I p.O b) f.r⟩ := by
          unfold stepR; rw [← hil, moreP_all]
        generalize p.I.getD b [] = x at hib2 hil hRS3 hfin
        generalize inOf f p.I p.O b = y at haln hRS3 hfin ⊢
        simp only [go_sem,Nat.reduceEqDiff,Nat.reduceAdd,Nat.reduceMul,↓reduceIte,↓dreduceIte,reduceCtorEq,Nat.reduceLeDiff,Nat.reduceLT,Nat.reduceSub,Int.reduceToNat,Int.reduceLE,Int.reduceLT, one_imm, one_ref]
        refine VW_loop (fun v : Nat => ⟨[(1, .ptr 0 0 0), (2, .ptr 1 1 0), (3, I f.n), (4, .ptr q.kl q.sl 0), (5, nextA f), (6, B (p.m || moreP x y v)), (7, I b), (10, bools y), (11, I v)], H2.set (q.g1 b).1 ⟨(q.g1 b).2, 4, 1, (orP x y v).map B⟩, nx2⟩) (fun v => v ≤ f.r) (fun v => f.r - v) 0
          (Wk.mk (by simp [get_cons, moreP]) ⟨[], by rw [orP_zero, List.append_nil]; exact (set_of_get hib2).symm⟩ (Nat.le_refl _)) (by omega) ?_
        intro v hv
        by_cases hl3 : v < f.r
        · have hgx : gB (orP x y v) v = gB x v := by rw [gB_orP _ _ _ (by omega), if_neg (by omega)]
          have hms := moreP_step x y v
          cases h5 : gB y v
          · have hsk := orP_skip x y (k := v) (by omega) (by rw [h5, Bool.or_false])
            rw [h5] at hms
            simp only [go_sem,Nat.reduceEqDiff,Nat.reduceAdd,Nat.reduceMul,↓reduceIte,↓dreduceIte,reduceCtorEq,Nat.reduceLeDiff,Nat.reduceLT,Nat.reduceSub,Int.reduceToNat,Int.reduceLE,Int.reduceLT, hfb2, one_imm, one_ref, hregs, List.length_map, eq_true (show (v : Int) < f.r by omega), List.getElem?_set, g1, g2, g3, l2, gB_getD, h5]
            repeat ((with_reducible refine And.intro ?_ ?_); · omega)
            rw [i64_in (by omega) (by omega)]
            refine ⟨v + 1, by omega, by omega, Wk.mk (by simp [get_cons, hms]) ⟨[], by simp [hsk]⟩ (Nat.le_refl _)⟩
          · cases h6 : gB x v
            · have hst : (orP x y v).set v true = orP x y (v + 1) := orP_set x y (by omega) (by rw [h5]; simp)
              rw [h5, h6] at hms
              simp only [go_sem,Nat.reduceEqDiff,Nat.reduceAdd,Nat.reduceMul,↓reduceIte,↓dreduceIte,reduceCtorEq,Nat.reduceLeDiff,Nat.reduceLT,Nat.reduceSub,Int.reduceToNat,Int.reduceLE,Int.reduceLT, hfb2, hlv2, hmil2, one_imm, one_ref, cellT_row, hregs, List.length_map, eq_true (show (v : Int) < f.r by omega), List.getElem?_set, g1, g2, g3, l2, gB_getD, h5, hgx, h6, set_B, hst, orP_len, List.set_set]
              repeat ((with_reducible refine And.intro ?_ ?_); · omega)
              rw [i64_in (by omega) (by omega)]
              refine ⟨v + 1, by omega, by omega, Wk.mk (by simp [get_cons, hms]) ⟨[], by simp⟩ (Nat.le_refl _)⟩
            · have hsk := orP_skip x y (k := v) (by omega) (by rw [h6, Bool.true_or])
              rw [h5, h6] at hms
              simp only [go_sem,Nat.reduceEqDiff,Nat.reduceAdd,Nat.reduceMul,↓reduceIte,↓dreduceIte,reduceCtorEq,Nat.reduceLeDiff,Nat.reduceLT,Nat.reduceSub,Int.reduceToNat,Int.reduceLE,Int.reduceLT, hfb2, hlv2, hmil2, one_imm, one_ref, cellT_row, hregs, List.length_map, eq_true (show (v : Int) < f.r by omega), List.getElem?_set, g1, g2, g3, l2, gB_getD, h5, hgx, h6, orP_len]
              repeat ((with_reducible refine And.intro ?_ ?_); · omega)
              rw [i64_in (by omega) (by omega)]
              refine ⟨v + 1, by omega, by omega, Wk.mk (by simp [get_cons, hms]) ⟨[], by simp [hsk]⟩ (Nat.le_refl _)⟩
        · obtain rfl : v = f.r := by omega
          simp only [go_sem,Nat.reduceEqDiff,Nat.reduceAdd,Nat.reduceMul,↓reduceIte,↓dreduceIte,reduceCtorEq,Nat.reduceLeDiff,Nat.reduceLT,Nat.reduceSub,Int.reduceToNat,Int.reduceLE,Int.reduceLT, hfb2, one_imm, one_ref, hregs, List.getElem?_set, g1, eq_false (show ¬ (f.r : Int) < f.r by omega)]
          rw [i64_in (by omega) (by omega), orP_all x y (by omega)]
          refine ⟨⟨c + 1, _, nx2⟩, ⟨by simp only; omega, ?_⟩, by simp only; omega, Wk.mk (by simp [get_cons, hnext, hfin]; omega) ⟨[], by rw [List.append_nil]⟩ (Nat.le_refl _)⟩
          simp only [hnext, hfin]
          exact hRS3
    · obtain rfl : c = f.n := by omega
      simp only [go_sem,Nat.reduceEqDiff,Nat.reduceAdd,Nat.reduceMul,↓reduceIte,↓dreduceIte,reduceCtorEq,Nat.reduceLeDiff,Nat.reduceLT,Nat.reduceSub,Int.reduceToNat,Int.reduceLE,Int.reduceLT, eq_false (show ¬ (0 : Int) ≤ (f.n : Int) - 1 - f.n by omega)]
      have hpm := pass_mono hf hRI f.n (Nat.le_refl _)
      refine ⟨⟨H, (passR f I0 O0 f.n).I, (passR f I0 O0 f.n).O, (passR f I0 O0 f.n).m, nx⟩, ⟨hRS, hRI.pass hf f.n (Nat.le_refl _), fun e => pass_least hf hRI e⟩, ?_, Wk.mk (by simp [get_cons]) ⟨[], by simp⟩ (Nat.le_refl _)⟩
      simp only
      split
      · rename_i e; have := hpm.2 e; omega
      · omega
/-- What was there stays. -/
def Kept (H H' : List VObj) : Prop := ∀ (i : Nat) (ob : VObj), H[i]? = some ob → H'[i]? = some ob
theorem Kept.stab {H H' : List VObj} (h : Kept H H') : Stab (fun _ => True) 1 H H' := fun id ob _ ho => ⟨ob, h id ob ho, rfl, rfl⟩
theorem Kept.app (H R : List VObj) : Kept H (H ++ R) := fun _ _ h => app_old h R
theorem Kept.trans {A B C : List VObj} (h : Kept A B) (k : Kept B C) : Kept A C := fun i ob ho => k i ob (h i ob ho)
theorem MT.kept {n r : Nat} {H H' : List VObj} {k s : Nat} {g : Nat → Nat × Nat} {m : List (List Bool)} (h : MT n r H k s g m) (kp : Kept H H') : MT n r H' k s g m := ⟨kp _ _ h.l, fun b hb => kp _ _ (h.r b hb), h.d⟩
theorem MT.lt {n r : Nat} {H : List VObj} {k s : Nat} {g : Nat → Nat × Nat} {m : List (List Bool)} (h : MT n r H k s g m) {b : Nat} (hb : b < n) : (g b).1 < H.length := (List.getElem?_eq_some_iff.1 (h.r b hb)).1
theorem MT.lv {n r : Nat} {H : List VObj} {k s kl : Nat} {g : Nat → Nat × Nat} {m : List (List Bool)} {o o' : VObj} (h : MT n r H k s g m) (ho : H[kl]? = some o) (ht : o.ty = 29) : MT n r (H.set kl o') k s g m :=
  h.keep (ts := [29]) (KeepT.set ho (by rw [ht]; simp)) (by simp) (by simp)
theorem rof_c (f : BF) (hf : Fine f) (L : LD) (hL : Least f L) : Contract Try.prog 15 [bfA f] (fun x => x = liveA L) := by
  refine Contract.of_call (VCall.of_body hmix f_scref27_Of (by simp) ?_)
  have hr0 := hf.r0
  have hr4 : f.r ≤ 4000 := by have := hf.r1; unfold BF.r; omega
  have hregs : f.regs = (f.r : Int) := by unfold BF.r; omega
  have hn5 : f.n ≤ 500 := hf.b1
  have hlen : (f.bks.length : Int) = f.n := rfl
  have hv1 : ∀ (H : List VObj) (nx : Nat) (C : AV → List VObj → Nat → Prop), (∀ s g H' nx', MT f.n f.r H' H.length s g (beginS f).I → (∀ b < f.n, H.length < (g b).1) → Kept H H' → C (.ref H.length s 0 f.n) H' nx') →
      VCall Try.prog 34 [I f.bks.length, I f.regs] H nx C := fun H nx C hC => by
    rw [hregs, hlen]
    exact none_v f.n f.r hn5 hr4 H nx C fun s g R nx' h1 h2 => hC s g _ nx' h1 h2 (Kept.app _ _)
  have hc : c_scref27_Of = VC.seq _ (VC.seq _ (VC.seq _ c_scref27_Of.tl.tl.tl)) := rfl
  have htail := rof_tail f hf L hL
  obtain ⟨D, hD⟩ : ∃ D, D = c_scref27_Of.tl.tl.tl := ⟨_, rfl⟩
  rw [← hD] at htail
  rw [hc, ← hD]
  simp only [go_sem,Nat.reduceEqDiff,Nat.reduceAdd,Nat.reduceMul,↓reduceIte,↓dreduceIte,reduceCtorEq,Nat.reduceLeDiff,Nat.reduceLT,Nat.reduceSub,Int.reduceToNat,Int.reduceLE,Int.reduceLT, one_imm, one_ref, List.length_map]
  repeat' (with_reducible apply And.intro)
  all_goals
    refine hv1 _ _ _ ?_
    intro s1 g1 H1 nx1 m1 p1 kp1
    refine ⟨kp1.stab, ?_⟩
    have a0 := kp1 0 _ rfl
    have a1 := kp1 1 _ rfl
    have c0 := app_old a0
    have z1 : 2 ≤ H1.length := by have := (List.getElem?_eq_some_iff.1 m1.l).1; (try simp at this); omega
    simp only [go_sem,Nat.reduceEqDiff,Nat.reduceAdd,Nat.reduceMul,↓reduceIte,↓dreduceIte,reduceCtorEq,Nat.reduceLeDiff,Nat.reduceLT,Nat.reduceSub,Int.reduceToNat,Int.reduceLE,Int.reduceLT, one_imm, one_ref, a0, c0]
    repeat' (with_reducible apply And.intro)
    all_goals
      refine hv1 _ _ _ ?_
      intro s2 g2 H2 nx2 m2 p2 kp2
      refine ⟨kp2.stab, ?_⟩
      have kp12 : Kept H1 H2 := by first | exact kp2 | exact (Kept.app _ _).trans kp2
      have hdio : ∀ b < f.n, ∀ c < f.n, (g1 b).1 ≠ (g2 c).1 := fun b hb c hc => by
        have h1 := m1.lt hb
        have h2 := p2 c hc
        try simp only [List.length_append] at h2
        omega
      have z2 : 2 ≤ H2.length := by have := (List.getElem?_eq_some_iff.1 m2.l).1; (try simp at this); omega
      have b0 := kp12 _ _ a0
      have b1 := kp12 _ _ a1
      have mm1 := m1.kept kp12
      first
      | (have b2 := kp12 _ _ (kp1 2 _ rfl)
         simp only [go_sem,Nat.reduceEqDiff,Nat.reduceAdd,Nat.reduceMul,↓reduceIte,↓dreduceIte,reduceCtorEq,Nat.reduceLeDiff,Nat.reduceLT,Nat.reduceSub,Int.reduceToNat,Int.reduceLE,Int.reduceLT, one_imm, one_ref, b2]
         repeat' (with_reducible apply And.intro)
         all_goals first | omega | (refine htail _ _ _ ⟨2, 2, 3, s1, H1.length, s2, g1, g2⟩ ?_ ?_ ?_ ?_ ?_ <;> first | rfl | exact ⟨by rw [set_ne (by omega)]; exact b0, by rw [set_ne (by omega)]; exact b1, set_get b2, mm1.lv b2 rfl, m2.lv b2 rfl, hdio⟩))
      | (simp only [go_sem,Nat.reduceEqDiff,Nat.reduceAdd,Nat.reduceMul,↓reduceIte,↓dreduceIte,reduceCtorEq,Nat.reduceLeDiff,Nat.reduceLT,Nat.reduceSub,Int.reduceToNat,Int.reduceLE,Int.reduceLT, one_imm, one_ref, app_get0, app_set0]
         repeat' (with_reducible apply And.intro)
         all_goals first | omega | (refine htail _ _ _ ⟨H2.length, nx2, 2, s1, H1.length, s2, g1, g2⟩ ?_ ?_ ?_ ?_ ?_ <;> first | rfl | exact ⟨app_old b0 _, app_old b1 _, by rw [app_get0]; rfl, mm1.app _, m2.app _, hdio⟩))
      | (have b2 := kp2 H1.length _ (by rw [app_get0]; rfl)
         have q1 : 1 < H1.length := (List.getElem?_eq_some_iff.1 a1).1
         rw [List.length_append] at m2 ⊢
         simp only [go_sem,Nat.reduceEqDiff,Nat.reduceAdd,Nat.reduceMul,↓reduceIte,↓dreduceIte,reduceCtorEq,Nat.reduceLeDiff,Nat.reduceLT,Nat.reduceSub,Int.reduceToNat,Int.reduceLE,Int.reduceLT, one_imm, one_ref, b2]
         repeat' (with_reducible apply And.intro)
         all_goals first | omega | (refine htail _ _ _ ⟨H1.length, nx1, 2, s1, H1.length + 1, s2, g1, g2⟩ ?_ ?_ ?_ ?_ ?_ <;> first | rfl | exact ⟨by rw [set_ne (by omega)]; exact b0, by rw [set_ne (by omega)]; exact b1, set_get b2, mm1.lv b2 rfl, m2.lv b2 rfl, hdio⟩))
end Go.Proofs.Ytjdeediehmhdoaa
namespace Go.Proofs.Ytjdeediehmhdoaa
set_option linter.unusedSimpArgs false
set_option linter.unusedVariables false
set_option maxRecDepth 10000
open Go.V

structure WQ2 where
  k : Nat
  H : List VObj
  wv : AV
  nx : Nat
/-- What was gathered is the search's beginning, no one waiting yet. -/
theorem SB.HS {f : BF} {ka kw : Nat} {o0 o1 : VObj} {x : BQ} (h : SB f ka kw o0 o1 (predJ f f.n 0) x) (hb : x.b = f.n) :
    HS f x.H ⟨5, 5, 8, x.s8, 9, x.s9, kw, kw, ka, ka, 6, x.s6, 7, x.s7, fun c => (10 + c, x.sp c), x.ri, x.ro⟩ nilv ⟨List.replicate f.n (List.replicate f.r false), List.replicate f.n (List.replicate f.r false), []⟩ := by
  have hrep : ∀ b, b < f.n → (List.replicate f.n (List.replicate f.r false)).getD b [] = List.replicate f.r false := fun b hb => by simp [List.getD, hb]
  have htk : f.bks.take f.n = f.bks := List.take_of_length_le (Nat.le_refl _)
  have hpl : predJ f f.n 0 = predL f := funext fun c => predJ_all f c
  have hso := h.so
  have h6 := h.r6
  have h7 := h.r7
  have h8 := h.r8
  have h9 := h.r9
  rw [hb] at hso h6 h7 h8 h9
  rw [htk] at h6 h7
  have hah := h.ah
  have hpr := h.pr
  rw [hpl] at hah hpr
  have hfl : flags f.n [] = List.replicate f.n false := gB_ext (by simp [flags]) fun v hv => by
    have hv' : v < f.n := by simpa [flags] using hv
    rw [flags_get hv', gB_rep]; simp
  exact ⟨hso, h8, h9, fun b hb' => by rw [hrep b hb']; exact h.ri b (by omega), fun b hb' => by rw [hrep b hb']; exact h.ro b (by omega), by rw [hfl]; exact h.w, .inl ⟨rfl, rfl⟩, hah, h6, h7, hpr, fun b hb' c hc => h.dI b (by omega) c (by omega), fun b hb' c hc => h.dO b (by omega) c (by omega), fun b hb' c hc => h.dIO b (by omega) c (by omega)⟩
structure PQ where
  j : Nat
  H : List VObj
  sp : Nat → Nat
  nx : Nat
theorem lt_succ' {a n : Nat} (h : a < n) : (a < n + 1) = True := eq_true (by omega)
theorem app_at {α : Type} {H R : List α} {i : Nat} (h : i < H.length) : (H ++ R)[i]? = H[i]? := List.getElem?_append_left h
theorem app_end {α : Type} {H : List α} {a : α} : (H ++ [a])[H.length]? = some a := by simp
theorem app_endn {α : Type} {H : List α} {a : α} {k : Nat} (h : k = H.length) : (H ++ [a])[k]? = some a := by subst h; simp
theorem set_at {α : Type} {H : List α} {a : α} {i : Nat} (h : i < H.length) : (H.set i a)[i]? = some a := by simp [h]
theorem set_off {α : Type} {H : List α} {a : α} {i j : Nat} (h : (i = j) = False) : (H.set i a)[j]? = H[j]? := List.getElem?_set_ne (fun e => by rw [e] at h; simp at h)
theorem push_at {H : List VObj} {t x y a : VObj} {k i : Nat} (h : H[i]? = some a) (hk : k ≠ i) (h5 : 5 ≠ i) : (((H ++ [t]).set k x).set 5 y)[i]? = some a := by rw [set_ne h5, set_ne hk]; exact app_old h _
theorem push_5 {H : List VObj} {t x y a : VObj} {k : Nat} (h : H[5]? = some a) : (((H ++ [t]).set k x).set 5 y)[5]? = some y := by
  have := (List.getElem?_eq_some_iff.1 h).1
  rw [List.getElem?_set_self (by simp; omega)]
theorem push_k {H : List VObj} {t x y a : VObj} {k : Nat} (h : H[k]? = some a) (h5 : 5 ≠ k) : (((H ++ [t]).set k x).set 5 y)[k]? = some x := by
  rw [set_ne h5]; exact set_get (app_old h _)
theorem push_keep {H : List VObj} {t x y a z : VObj} {k : Nat} (h : H[k]? = some a) (h5 : H[5]? = some z) (ha : a.ty = 70) (hz : z.ty = 66) : KeepT [70, 66] H (((H ++ [t]).set k x).set 5 y) := fun i ob hi ho => by
  have f1 : k ≠ i := fun e => by subst e; rw [h] at hi; cases hi; exact ho (by simp [ha])
  have f2 : 5 ≠ i := fun e => by subst e; rw [h5] at hi; cases hi; exact ho (by simp [hz])
  exact push_at hi f1 f2
theorem rowsL_succ (n r : Nat) (ri : Nat → Nat × Nat) (q : Nat × Nat) : rowsL n r ri ++ [AV.ref q.1 q.2 0 (rl r)] = rowsL (n + 1) r (fun c => if c = n then q else ri c) := by
  unfold rowsL
  rw [List.range_succ, List.map_append]
  congr 1
  · refine List.map_congr_left fun c hc => ?_
    have : c ≠ n := by have := List.mem_range.1 hc; omega
    simp only [if_neg this]
  · simp
theorem SB.row {f : BF} {ka kw : Nat} {o0 o1 : VObj} {pl : Nat → List Nat} {x : BQ} (h : SB f ka kw o0 o1 pl x) (t0 : o0.ty = 24) (t1 : o1.ty = 29) (hb : x.b < f.n)
    {H4 H6 H7 : List VObj} {y1 u1 u2 a5 : VObj} {s6' s7' s8' s9' n4 n6 nx' : Nat}
    (k4 : KeepT [70, 66] x.H H4) (g5 : H4[5]? = some a5) (g5t : a5.ty = 66)
    (g6 : H4[6]? = some ⟨s6', 70, 1, (f.bks.take (x.b + 1)).map fun b => .imm 1 (rowC64 (readL b f.r))⟩)
    (g7 : H4[7]? = some ⟨s7', 70, 1, (f.bks.take (x.b + 1)).map fun b => .imm 1 (rowC64 (setL b f.r))⟩)
    (g8 : H4[8]? = some ⟨x.s8, 70, 1, rowsL x.b f.r x.ri⟩) (g9 : H4[9]? = some ⟨x.s9, 70, 1, rowsL x.b f.r x.ro⟩)
    (y1t : y1.ty = 66)
    (e6 : H6 = (((H4 ++ [VObj.mk n4 88 1 (rowC64 (List.replicate f.r false))]) ++ [u1]).set 8 (VObj.mk s8' 70 1 (rowsL x.b f.r x.ri ++ [AV.ref H4.length n4 0 (rl f.r)]))).set 5 y1)
    (e7 : H7 = (((H6 ++ [VObj.mk n6 88 1 (rowC64 (List.replicate f.r false))]) ++ [u2]).set 9 (VObj.mk s9' 70 1 (rowsL x.b f.r x.ro ++ [AV.ref H6.length n6 0 (rl f.r)]))).set 5 (VObj.mk 5 66 1 (slB f ka kw (x.b + 1) s6' s7' s8' s9'))) :
    SB f ka kw o0 o1 pl ⟨x.b + 1, H7, s6', s7', s8', s9', x.sp, fun c => if c = x.b then (H4.length, n4) else x.ri c, fun c => if c = x.b then (H6.length, n6) else x.ro c, nx'⟩ := by
  have k5 : KeepT [70, 66] (H4 ++ [⟨n4, 88, 1, rowC64 (List.replicate f.r false)⟩]) H6 := by
    rw [e6]; exact push_keep (app_old g8 _) (app_old g5 _) rfl g5t
  have k6 := (KeepT.app [70, 66] H4 [⟨n4, 88, 1, rowC64 (List.replicate f.r false)⟩]).trans k5
  have j5 : H6[5]? = some y1 := by rw [e6]; exact push_5 (app_old g5 _)
  have j6 : H6[6]? = some _ := (congrArg (fun l : List VObj => l[(6 : Nat)]?) e6).trans (push_at (app_old g6 _) (by decide) (by decide))
  have j7 : H6[7]? = some _ := (congrArg (fun l : List VObj => l[(7 : Nat)]?) e6).trans (push_at (app_old g7 _) (by decide) (by decide))
  have j8 : H6[8]? = some _ := (congrArg (fun l : List VObj => l[(8 : Nat)]?) e6).trans (push_k (app_old g8 _) (by decide))
  have j9 : H6[9]? = some _ := (congrArg (fun l : List VObj => l[(9 : Nat)]?) e6).trans (push_at (app_old g9 _) (by decide) (by decide))
  have k7' : KeepT [70, 66] (H6 ++ [⟨n6, 88, 1, rowC64 (List.replicate f.r false)⟩]) H7 := by
    rw [e7]; exact push_keep (app_old j9 _) (app_old j5 _) rfl y1t
  have k7 := (KeepT.app [70, 66] H6 [⟨n6, 88, 1, rowC64 (List.replicate f.r false)⟩]).trans k7'
  have k := (k4.trans k6).trans k7
  have li : ∀ c < x.b, (x.ri c).1 < H4.length := fun c hc => (List.getElem?_eq_some_iff.1 (k4 _ _ (h.ri c hc) (by simp))).1
  have lo : ∀ c < x.b, (x.ro c).1 < H4.length := fun c hc => (List.getElem?_eq_some_iff.1 (k4 _ _ (h.ro c hc) (by simp))).1
  have l46 : H4.length < H6.length := by rw [e6]; simp
  refine ⟨k _ _ h.h0 (by rw [t0]; simp), k _ _ h.h1 (by rw [t1]; simp), k _ _ h.h2 (by simp), ?_, k _ _ h.ah (by simp), fun c hc => k _ _ (h.pr c hc) (by simp), ?_, ?_, ?_, ?_, fun c hc => ?_, fun c hc => ?_, k _ _ h.w (by simp), fun c hc d hd => ?_, fun c hc d hd => ?_, fun c hc d hd => ?_⟩
  · rw [e7]; exact push_5 (app_old j5 _)
  · rw [e7]; exact push_at (app_old j6 _) (by decide) (by decide)
  · rw [e7]; exact push_at (app_old j7 _) (by decide) (by decide)
  · rw [← rowsL_succ, e7]; exact push_at (app_old j8 _) (by decide) (by decide)
  · rw [← rowsL_succ, e7]; exact push_k (app_old j9 _) (by decide)
  · simp only at hc ⊢
    by_cases e : c = x.b
    · rw [if_pos e]; exact k7 _ _ (k5 _ _ app_end (by simp)) (by simp)
    · rw [if_neg e]; exact k _ _ (h.ri c (by omega)) (by simp)
  · simp only at hc ⊢
    by_cases e : c = x.b
    · rw [if_pos e]; exact k7' _ _ app_end (by simp)
    · rw [if_neg e]; exact k _ _ (h.ro c (by omega)) (by simp)
  · simp only at hc hd ⊢
    by_cases e : c = x.b
    · by_cases e2 : d = x.b
      · intro _; omega
      · rw [if_pos e, if_neg e2]; intro he; have := li d (by omega); simp only at he; omega
    · by_cases e2 : d = x.b
      · rw [if_neg e, if_pos e2]; intro he; have := li c (by omega); simp only at he; omega
      · rw [if_neg e, if_neg e2]; exact h.dI c (by omega) d (by omega)
  · simp only at hc hd ⊢
    by_cases e : c = x.b
    · by_cases e2 : d = x.b
      · intro _; omega
      · rw [if_pos e, if_neg e2]; intro he; have := lo d (by omega); simp only at he; omega
    · by_cases e2 : d = x.b
      · rw [if_neg e, if_pos e2]; intro he; have := lo c (by omega); simp only at he; omega
      · rw [if_neg e, if_neg e2]; exact h.dO c (by omega) d (by omega)
  · simp only at hc hd ⊢
    by_cases e : c = x.b
    · by_cases e2 : d = x.b
      · rw [if_pos e, if_pos e2]; intro he; simp only at he; omega
      · rw [if_pos e, if_neg e2]; intro he; have := lo d (by omega); simp only at he; omega
    · by_cases e2 : d = x.b
      · rw [if_neg e, if_pos e2]; intro he; have := li c (by omega); simp only at he; omega
      · rw [if_neg e, if_neg e2]; exact h.dIO c (by omega) d (by omega)
theorem takeL_succ {f : BF} {b : Nat} (hb : b < f.n) (g : Bk → AV) : List.take b (List.map g (List.take b f.bks)) ++ [g (f.bk b)] = (f.bks.take (b + 1)).map g := by
  have : f.bks[b]? = some (f.bk b) := by
    have h : b < f.bks.length := hb
    unfold BF.bk; simp [List.getD, h]
  rw [List.take_of_length_le (by simp; omega), List.take_add_one, this]
  simp
theorem solver_tail (f : BF) (hf : Fine f) (hr : f.r ≤ 64) (ka kw : Nat) (hk : (ka = 3 ∧ kw = 4) ∨ (ka = 4 ∧ kw = 3)) (o0 o1 : VObj) (t0 : o0.ty = 24) (t1 : o1.ty = 29) (env : List (Nat × AV)) (he1 : get env 1 = .ptr 2 2 0) (he3 : get env 3 = I f.n) (he4 : get env 4 = .ptr 5 5 0)
    (H : List VObj) (hl : H.length = 6) (h0 : H[0]? = some o0) (h1 : H[1]? = some o1)
    (h2 : H[2]? = some ⟨2, 24, 1, bfL f⟩) (hS : H[5]? = some ⟨5, 66, 1, [nextA f, .ref ka ka 0 f.n, nilv, nilv, nilv, nilv, nilv, .ref kw kw 0 f.n]⟩)
    (ha : H[ka]? = some ⟨ka, 43, 1, List.replicate f.n nilv⟩) (hw : H[kw]? = some ⟨kw, 4, 1, (List.replicate f.n false).map B⟩) (C : AV → List VObj → Nat → Prop)
    (hC : ∀ q H nx wv, HS f H q wv (beginS f) → H[0]? = some o0 → H[1]? = some o1 → C (.ptr q.kS q.sS 0) H nx) : VW Try.prog c_live_solverOf.tl.tl.tl (retQ Try.prog [VR.tmp 2] C) ⟨env, H, 6⟩ := by
  have hr0 := hf.r0
  have hregs : f.regs = (f.r : Int) := by unfold BF.r; omega
  have hn5 : f.n ≤ 500 := hf.b1
  have hlen : f.bks.length = f.n := rfl
  have hmx : (200000 : Nat) ≤ maxLen := by decide
  simp only [go_sem,Nat.reduceEqDiff,Nat.reduceAdd,Nat.reduceMul,↓reduceIte,↓dreduceIte,reduceCtorEq,Nat.reduceLeDiff,Nat.reduceLT,Nat.reduceSub,Int.reduceToNat,Int.reduceLE,Int.reduceLT, c_live_solverOf, VC.tl, he1, he3, he4, hS, List.length_map, hlen]
  obtain ⟨H', nx', hwk, hsb⟩ := begin_virt f ka kw hk o0 o1 [(1, .ptr 2 2 0), (3, I f.n), (4, .ptr 5 5 0), (26, nextA f), (27, I f.n), (28, I ((0 : Nat) : Int))] (by simp [get_cons]) H hl h0 h1 h2 hS ha hw
  refine VW_loop (fun x : BQ => ⟨[(1, .ptr 2 2 0), (3, I f.n), (4, .ptr 5 5 0), (26, nextA f), (27, I f.n), (28, I x.b)], x.H, x.nx⟩) (fun x => x.b ≤ f.n ∧ SB f ka kw o0 o1 (predJ f x.b 0) x) (fun x => f.n - x.b) ⟨0, H', 6, 7, 8, 9, fun c => 10 + c, fun _ => (0, 0), fun _ => (0, 0), nx'⟩
    (by refine Wk.trans ?_ hwk; exact Wk.mk (by simp [get_cons, he1, he3, he4]) ⟨[], by simp⟩ (Nat.le_refl _)) ⟨Nat.zero_le _, hsb⟩ ?_
  clear hsb hwk h0 h1 h2 hS ha hw hl
  rintro ⟨b, H, s6, s7, s8, s9, sp, ri, ro, nx⟩ ⟨hb, h⟩
  simp only at hb h
  have hka : ka = 3 ∨ ka = 4 := by omega
  have hkw : kw = 3 ∨ kw = 4 := by omega
  have hne : ka ≠ kw := by omega
  by_cases hlt : b < f.n
  · have hbk : f.bks.getD b default = f.bk b := rfl
    have hnl := nxt_len (f.bk b)
    have hto := hf.to _ (BF.mem hlt)
    simp only [go_sem,Nat.reduceEqDiff,Nat.reduceAdd,Nat.reduceMul,↓reduceIte,↓dreduceIte,reduceCtorEq,Nat.reduceLeDiff,Nat.reduceLT,Nat.reduceSub,Int.reduceToNat,Int.reduceLE,Int.reduceLT, one_imm, one_ref, hbk, List.length_map, hlen, eq_true (show (b : Int) < f.n by omega)]
    repeat ((with_reducible refine And.intro ?_ ?_); · omega)
    refine VW_loop (fun y : PQ => ⟨[(1, .ptr 2 2 0), (3, I f.n), (4, .ptr 5 5 0), (26, nextA f), (27, I f.n), (28, I b), (5, I b), (33, ints (nxt (f.bk b))), (34, I (nxt (f.bk b)).length), (35, I y.j)], y.H, y.nx⟩)
      (fun y => y.j ≤ (nxt (f.bk b)).length ∧ SB f ka kw o0 o1 (predJ f b y.j) ⟨b, y.H, s6, s7, s8, s9, y.sp, ri, ro, y.nx⟩) (fun y => (nxt (f.bk b)).length - y.j) ⟨0, H, sp, nx⟩ (Wk.mk (by simp [get_cons]) ⟨[], by simp⟩ (Nat.le_refl _)) ⟨Nat.zero_le _, h⟩ ?_
    clear h
    rintro ⟨j, H, sp, nx⟩ ⟨hj, h⟩
    simp only at hj h
    have hso := h.so
    have hah := h.ah
    simp only at hso hah
    have l5 := lt_of hso
    have lka := lt_of hah
    by_cases hl2 : j < (nxt (f.bk b)).length
    · have hkk := hto _ (mem_getD hl2)
      have hps := fun c => predJ_step f b c hl2
      obtain ⟨k, hkd⟩ : ∃ k, k = ((nxt (f.bk b)).getD j default).toNat := ⟨_, rfl⟩
      have hki : (nxt (f.bk b)).getD j default = (k : Int) := by omega
      have hkn : k < f.n := by unfold BF.n; omega
      have hpr := h.pr k hkn
      have hpl := predJ_len f b j k
      simp only at hpr
      have lk := lt_of hpr
      have m1 := eq_true (show 5 < H.length + 1 by have := of_eq_true l5; omega)
      have m2 := eq_true (show ka < H.length + 1 by have := of_eq_true lka; omega)
      have m3 := eq_true (show 10 + k < H.length + 1 by have := of_eq_true lk; omega)
      have f1 : (10 + k = ka) = False := eq_false (by omega)
      have f2 : (10 + k = 5) = False := eq_false (by omega)
      have f3 : (5 = ka) = False := eq_false (by omega)
      have f4 : (ka = 5) = False := eq_false (by omega)
      have f5 : (ka = 10 + k) = False := eq_false (by omega)
      simp only [go_sem,Nat.reduceEqDiff,Nat.reduceAdd,Nat.reduceMul,↓reduceIte,↓dreduceIte,reduceCtorEq,Nat.reduceLeDiff,Nat.reduceLT,Nat.reduceSub,Int.reduceToNat,Int.reduceLE,Int.reduceLT, hso, hah, hpr, one_imm, one_ref, hki, cellT_ah, eq_true (show (j : Int) < (nxt (f.bk b)).length by omega), List.getElem?_set, List.getElem?_append, List.length_set, List.length_append, l5, lka, lk, m1, m2, m3, f1, f2, f3, f4, f5, Nat.lt_irrefl, Nat.sub_self]
      repeat' (with_reducible apply And.intro)
      all_goals first | omega | exact ⟨rfl, rfl, rfl⟩ | (simp only [List.length_range]; omega) | skip
      all_goals
        have hpn : (fun c => if c = k then predJ f b j k ++ [b] else predJ f b j c) = predJ f b (j + 1) := by
          funext c
          rw [hps c, hki, Int.toNat_natCast]
          by_cases e : c = k
          · subst e; simp
          · rw [if_neg e, if_neg (fun h => e h.symm)]
        have hadd := h.add hka hkw hne t0 t1 hkn (predJ f b j k ++ [b]) (nx + 1) ⟨nx, 3, 1, [I b]⟩ (nx + 1 + 1)
        rw [hpn] at hadd
        refine ⟨⟨j + 1, ((H ++ [(⟨nx, 3, 1, [I b]⟩ : VObj)]).set (10 + k) (⟨nx + 1, 3, 1, natsL (predJ f b j k ++ [b])⟩ : VObj)).set ka (⟨ka, 43, 1, ahC f.n (fun c => if c = k then nx + 1 else sp c) (predJ f b (j + 1))⟩ : VObj), fun c => if c = k then nx + 1 else sp c, nx + 1 + 1⟩, ⟨by show j + 1 ≤ _; omega, hadd⟩, by show _ - (j + 1) < _ - j; omega, ?_⟩
        rw [ahC_set hkn (predJ f b j k ++ [b]) (by simp), hpn, show List.take (predJ f b j k).length (natsL (predJ f b j k)) ++ [I (b : Int)] = natsL (predJ f b j k ++ [b]) by simp [natsL, List.take_of_length_le]]
        rw [i64_in (by omega) (by omega)]
        exact Wk.mk (by simp [get_cons]) ⟨[], by simp⟩ (Nat.le_refl _)
    · have hje : j = (nxt (f.bk b)).length := by omega
      subst hje
      rw [show predJ f b (nxt (f.bk b)).length = predJ f (b + 1) 0 from funext fun c => predJ_next f b c] at h
      have h6 := h.r6
      have h7 := h.r7
      have h8 := h.r8
      have h9 := h.r9
      have h2 := h.h2
      simp only at h6 h7 h8 h9 h2
      have l2 := lt_of h2
      have l6 := lt_of h6
      have l7 := lt_of h7
      have l8 := lt_of h8
      have l9 := lt_of h9
      simp only [go_sem,Nat.reduceEqDiff,Nat.reduceAdd,Nat.reduceMul,↓reduceIte,↓dreduceIte,reduceCtorEq,Nat.reduceLeDiff,Nat.reduceLT,Nat.reduceSub,Int.reduceToNat,Int.reduceLE,Int.reduceLT, h2, hso, one_imm, one_ref, hbk, List.length_map, hlen, eq_false (show ¬ ((nxt (f.bk b)).length : Int) < (nxt (f.bk b)).length by omega)]
      have hbm := BF.mem hlt
      have hro := hf.v _ hbm
      have hrt := hf.ins _ hbm
      rw [hregs] at hro hrt
      refine ⟨hlt, ECall.of (touch_c (f.bk b) f.r hr (by have := hf.len _ hbm; omega) hro hrt) (by rw [hregs]; exact SleL.pure rfl) ⟨_, fun _ => Iff.rfl⟩ fun x hx => ?_⟩
      subst hx
      have e56 : (5 = 6) = False := by simp
      have e57 : (5 = 7) = False := by simp
      have e58 : (5 = 8) = False := by simp
      have e59 : (5 = 9) = False := by simp
      have e65 : (6 = 5) = False := by simp
      have e75 : (7 = 5) = False := by simp
      have e76 : (7 = 6) = False := by simp
      have e67 : (6 = 7) = False := by simp
      simp only [go_sem,Nat.reduceEqDiff,Nat.reduceAdd,Nat.reduceMul,↓reduceIte,↓dreduceIte,reduceCtorEq,Nat.reduceLeDiff,Nat.reduceLT,Nat.reduceSub,Int.reduceToNat,Int.reduceLE,Int.reduceLT, hso, h6, h7, h8, h9, h2, one_imm, one_ref, List.length_set, List.length_append, l2, l5, l6, l7, l8, l9, lt_succ', app_at, app_end, app_endn, set_at, set_off, List.length_cons, List.length_nil, Nat.zero_add, e56, e57, e58, e59, e65, e75, e76, e67, List.length_map, List.length_take, hlen]
      repeat ((with_reducible refine And.intro ?_ ?_); · first | omega | exact ⟨rfl, rfl, rfl⟩)
      obtain ⟨H4, e4⟩ : ∃ H4, H4 = (((((H ++ [((VObj.mk (nx) 70 1 ([AV.imm 1 (rowC64 (readL (f.bk b) f.r))])))]).set 6 (VObj.mk (nx + 1) 70 1 (List.take b (List.map (fun b => AV.imm 1 (rowC64 (readL b f.r))) (List.take b f.bks)) ++ [AV.imm 1 (rowC64 (readL (f.bk b) f.r))]))).set 5 (VObj.mk (5) 66 1 ([nextA f, AV.ref ka ka 0 f.n, AV.ref 6 (nx + 1) 0 (b + 1), AV.ref 7 s7 0 b, AV.ref 8 s8 0 b, AV.ref 9 s9 0 b, nilv, AV.ref kw kw 0 f.n])) ++ [(VObj.mk (nx + 1 + 1) 70 1 ([AV.imm 1 (rowC64 (setL (f.bk b) f.r))]))]).set 7 (VObj.mk (nx + 1 + 1 + 1) 70 1 (List.take b (List.map (fun b => AV.imm 1 (rowC64 (setL b f.r))) (List.take b f.bks)) ++ [AV.imm 1 (rowC64 (setL (f.bk b) f.r))]))).set 5 (VObj.mk (5) 66 1 ([nextA f, AV.ref ka ka 0 f.n, AV.ref 6 (nx + 1) 0 (b + 1), AV.ref 7 (nx + 1 + 1 + 1) 0 (b + 1), AV.ref 8 s8 0 b, AV.ref 9 s9 0 b, nilv, AV.ref kw kw 0 f.n]))) := ⟨_, rfl⟩
      rw [← e4]
      have k4 : KeepT [70, 66] H H4 := by
        rw [e4]
        exact (push_keep h6 hso rfl rfl).trans (push_keep (push_at h7 (by decide) (by decide)) (push_5 hso) rfl rfl)
      have h45 : H4[5]? = some ⟨5, 66, 1, [nextA f, AV.ref ka ka 0 f.n, AV.ref 6 (nx + 1) 0 (b + 1), AV.ref 7 (nx + 1 + 1 + 1) 0 (b + 1), AV.ref 8 s8 0 b, AV.ref 9 s9 0 b, nilv, AV.ref kw kw 0 f.n]⟩ := by rw [e4]; exact push_5 (push_5 hso)
      have h42 : H4[2]? = some ⟨2, 24, 1, bfL f⟩ := k4 _ _ h2 (by simp)
      have h48 : H4[8]? = some ⟨s8, 70, 1, rowsL b f.r ri⟩ := by rw [e4]; exact push_at (push_at h8 (by decide) (by decide)) (by decide) (by decide)
      have h49 : H4[9]? = some ⟨s9, 70, 1, rowsL b f.r ro⟩ := by rw [e4]; exact push_at (push_at h9 (by decide) (by decide)) (by decide) (by decide)
      have l45 := lt_of h45
      have l42 := lt_of h42
      have l48 := lt_of h48
      have l49 := lt_of h49
      have e85 : (8 = 5) = False := by simp
      have e89 : (8 = 9) = False := by simp
      have e98 : (9 = 8) = False := by simp
      have e95 : (9 = 5) = False := by simp
      simp only [go_sem,Nat.reduceEqDiff,Nat.reduceAdd,Nat.reduceMul,↓reduceIte,↓dreduceIte,reduceCtorEq,Nat.reduceLeDiff,Nat.reduceLT,Nat.reduceSub,Int.reduceToNat,Int.reduceLE,Int.reduceLT, h45, h42, h48, h49, one_imm, one_ref, List.length_set, List.length_append, l45, l42, l48, l49, lt_succ', app_at, app_end, app_endn, set_at, set_off, e85, e89, e98, e95, List.length_cons, List.length_nil, Nat.zero_add, e58, e59]
      rw [← e4, hregs]
      refine ⟨?_, ?_⟩
      all_goals
        unfold VCallT
        refine rowOf_v f.r hr _ _ _ ?_
        refine ⟨?_, ?_⟩
        · simp only [go_sem,Nat.reduceEqDiff,Nat.reduceAdd,Nat.reduceMul,↓reduceIte,↓dreduceIte,reduceCtorEq,Nat.reduceLeDiff,Nat.reduceLT,Nat.reduceSub,Int.reduceToNat,Int.reduceLE,Int.reduceLT, List.length_set, List.length_append, app_at, app_end, app_endn, set_at, set_off, List.length_cons, List.length_nil, Nat.zero_add]
          rw [← e4]
          exact stab_app _ _
        simp only [go_sem,Nat.reduceEqDiff,Nat.reduceAdd,Nat.reduceMul,↓reduceIte,↓dreduceIte,reduceCtorEq,Nat.reduceLeDiff,Nat.reduceLT,Nat.reduceSub,Int.reduceToNat,Int.reduceLE,Int.reduceLT, h45, h42, h48, h49, one_imm, one_ref, List.length_set, List.length_append, l45, l42, l48, l49, lt_succ', app_at, app_end, app_endn, set_at, set_off, e85, e89, e98, e95, List.length_cons, List.length_nil, Nat.zero_add, e58, e59]
        repeat ((with_reducible refine And.intro ?_ ?_); · omega)
        obtain ⟨n4, en4⟩ : ∃ n4, n4 = nx + 1 + 1 + 1 + 1 := ⟨_, rfl⟩
        rw [← en4]
        have htk : List.take b (rowsL b f.r ri) = rowsL b f.r ri := List.take_of_length_le (by simp)
        have htk2 : List.take b (rowsL b f.r ro) = rowsL b f.r ro := List.take_of_length_le (by simp)
        rw [htk]
        obtain ⟨H6, e6⟩ : ∃ H6, H6 = (((H4 ++ [VObj.mk n4 88 1 (rowC64 (List.replicate f.r false))]) ++ [VObj.mk (n4 + 1) 70 1 [AV.ref H4.length n4 0 (rl f.r)]]).set 8 (VObj.mk (n4 + 1 + 1) 70 1 (rowsL b f.r ri ++ [AV.ref H4.length n4 0 (rl f.r)]))).set 5 (VObj.mk 5 66 1 [nextA f, AV.ref ka ka 0 f.n, AV.ref 6 (nx + 1) 0 (b + 1), AV.ref 7 (nx + 1 + 1 + 1) 0 (b + 1), AV.ref 8 (n4 + 1 + 1) 0 (b + 1), AV.ref 9 s9 0 b, nilv, AV.ref kw kw 0 f.n]) := ⟨_, rfl⟩
        rw [← e6]
        have k64 : KeepT [70, 66] H4 H6 := by
          rw [e6]; exact (KeepT.app _ _ _).trans (push_keep (app_old h48 _) (app_old h45 _) rfl rfl)
        have h65 : H6[5]? = some _ := (congrArg (fun l : List VObj => l[(5 : Nat)]?) e6).trans (push_5 (app_old h45 _))
        have h62 := k64 _ _ h42 (by simp)
        have h69 : H6[9]? = some _ := (congrArg (fun l : List VObj => l[(9 : Nat)]?) e6).trans (push_at (app_old h49 _) (by decide) (by decide))
        have l65 := lt_of h65
        have l62 := lt_of h62
        have l69 := lt_of h69
        simp only [go_sem,Nat.reduceEqDiff,Nat.reduceAdd,Nat.reduceMul,↓reduceIte,↓dreduceIte,reduceCtorEq,Nat.reduceLeDiff,Nat.reduceLT,Nat.reduceSub,Int.reduceToNat,Int.reduceLE,Int.reduceLT, h65, h62, h69, one_imm, one_ref, List.length_set, List.length_append, l65, l62, l69, lt_succ', app_at, app_end, app_endn, set_at, set_off, e89, e98, e95, List.length_cons, List.length_nil, Nat.zero_add, e59]
        rw [htk, ← e6, hregs]
        refine ⟨?_, ?_⟩
        all_goals
          unfold VCallT
          refine rowOf_v f.r hr _ _ _ ?_
          refine ⟨?_, ?_⟩
          · simp only [go_sem,Nat.reduceEqDiff,Nat.reduceAdd,Nat.reduceMul,↓reduceIte,↓dreduceIte,reduceCtorEq,Nat.reduceLeDiff,Nat.reduceLT,Nat.reduceSub,Int.reduceToNat,Int.reduceLE,Int.reduceLT, List.length_set, List.length_append, app_at, app_end, app_endn, set_at, set_off, List.length_cons, List.length_nil, Nat.zero_add]
            rw [htk, ← e6]
            exact stab_app _ _
          simp only [go_sem,Nat.reduceEqDiff,Nat.reduceAdd,Nat.reduceMul,↓reduceIte,↓dreduceIte,reduceCtorEq,Nat.reduceLeDiff,Nat.reduceLT,Nat.reduceSub,Int.reduceToNat,Int.reduceLE,Int.reduceLT, h65, h62, h69, one_imm, one_ref, List.length_set, List.length_append, l65, l62, l69, lt_succ', app_at, app_end, app_endn, set_at, set_off, e89, e98, e95, List.length_cons, List.length_nil, Nat.zero_add, e59]
          repeat ((with_reducible refine And.intro ?_ ?_); · omega)
          rw [htk2]
          have g6 : H4[6]? = some ⟨nx + 1, 70, 1, (f.bks.take (b + 1)).map fun b => .imm 1 (rowC64 (readL b f.r))⟩ := by
            rw [← takeL_succ hlt (fun b => .imm 1 (rowC64 (readL b f.r))), e4]
            exact push_at (push_k h6 (by decide)) (by decide) (by decide)
          have g7 : H4[7]? = some ⟨nx + 1 + 1 + 1, 70, 1, (f.bks.take (b + 1)).map fun b => .imm 1 (rowC64 (setL b f.r))⟩ := by
            rw [← takeL_succ hlt (fun b => .imm 1 (rowC64 (setL b f.r))), e4]
            exact push_k (push_at h7 (by decide) (by decide)) (by decide)
          have hrow := fun nx' H7 e7 => h.row (H7 := H7) (u2 := VObj.mk (n4 + 1 + 1 + 1 + 1) 70 1 [AV.ref H6.length (n4 + 1 + 1 + 1) 0 (rl f.r)]) (s9' := n4 + 1 + 1 + 1 + 1 + 1) (n6 := n4 + 1 + 1 + 1) (nx' := nx') t0 t1 hlt k4 h45 rfl g6 g7 h48 h49 rfl e6 e7
          refine ⟨⟨b + 1, _, nx + 1, nx + 1 + 1 + 1, n4 + 1 + 1, n4 + 1 + 1 + 1 + 1 + 1, sp, _, _, _⟩, ⟨by show b + 1 ≤ _; omega, hrow (n4 + 1 + 1 + 1 + 1 + 1 + 1) _ rfl⟩, by show f.n - (b + 1) < f.n - b; omega, ?_⟩
          rw [i64_in (by omega) (by omega)]
          exact Wk.mk (by simp [get_cons]) ⟨[], by simp⟩ (Nat.le_refl _)
  · have hbe : b = f.n := by omega
    subst hbe
    have hs := h.HS rfl
    have hg0 := h.h0
    have hg1 := h.h1
    simp only at hs hg0 hg1
    obtain ⟨q, hq⟩ : ∃ q : Ids, q = ⟨5, 5, 8, s8, 9, s9, kw, kw, ka, ka, 6, s6, 7, s7, fun c => (10 + c, sp c), ri, ro⟩ := ⟨_, rfl⟩
    rw [← hq] at hs
    have hqS : AV.ptr 5 5 0 = .ptr q.kS q.sS 0 := by rw [hq]
    clear hq h
    simp only [go_sem,Nat.reduceEqDiff,Nat.reduceAdd,Nat.reduceMul,↓reduceIte,↓dreduceIte,reduceCtorEq,Nat.reduceLeDiff,Nat.reduceLT,Nat.reduceSub,Int.reduceToNat,Int.reduceLE,Int.reduceLT, one_imm, one_ref, List.length_map, hlen, eq_false (show ¬ ((f.n : Nat) : Int) < f.n by omega), hqS]
    refine VW_loop (fun y : WQ2 => ⟨[(4, .ptr q.kS q.sS 0), (112, I f.n), (113, I y.k)], y.H, y.nx⟩) (fun y => y.k ≤ f.n ∧ HS f y.H q y.wv ⟨List.replicate f.n (List.replicate f.r false), List.replicate f.n (List.replicate f.r false), List.range y.k⟩ ∧ y.H[0]? = some o0 ∧ y.H[1]? = some o1) (fun y => f.n - y.k) ⟨0, H, nilv, nx⟩ (Wk.mk (by simp [get_cons]) ⟨[], by simp⟩ (Nat.le_refl _)) ⟨Nat.zero_le _, hs, hg0, hg1⟩ ?_
    clear hs hg0 hg1
    rintro ⟨k, H, wv, nx⟩ ⟨hk1, hs, hg0, hg1⟩
    simp only at hk1 hs hg0 hg1
    by_cases hl3 : k < f.n
    · simp only [go_sem,Nat.reduceEqDiff,Nat.reduceAdd,Nat.reduceMul,↓reduceIte,↓dreduceIte,reduceCtorEq,Nat.reduceLeDiff,Nat.reduceLT,Nat.reduceSub,Int.reduceToNat,Int.reduceLE,Int.reduceLT, one_imm, one_ref, eq_true (show (k : Int) < f.n by omega)]
      refine wait_v hs _ _ hl3 hn5 (by simp; omega) _ ?_
      intro r H' nx' wv' hs' hkeep
      have hw : waitS (List.range k) k = List.range (k + 1) := by
        unfold waitS
        rw [if_neg (by simp), List.range_succ]
      simp only [hw] at hs'
      simp only [go_sem,Nat.reduceEqDiff,Nat.reduceAdd,Nat.reduceMul,↓reduceIte,↓dreduceIte,reduceCtorEq,Nat.reduceLeDiff,Nat.reduceLT,Nat.reduceSub,Int.reduceToNat,Int.reduceLE,Int.reduceLT, one_imm, one_ref]
      refine ⟨⟨k + 1, H', wv', nx'⟩, ⟨by show k + 1 ≤ _; omega, hs', hkeep _ _ hg0 (by rw [t0]; simp), hkeep _ _ hg1 (by rw [t1]; simp)⟩, by show f.n - (k + 1) < f.n - k; omega, ?_⟩
      rw [i64_in (by omega) (by omega)]
      exact Wk.mk (by simp [get_cons]) ⟨[], by simp⟩ (Nat.le_refl _)
    · have hke : k = f.n := by omega
      subst hke
      simp only [go_sem,Nat.reduceEqDiff,Nat.reduceAdd,Nat.reduceMul,↓reduceIte,↓dreduceIte,reduceCtorEq,Nat.reduceLeDiff,Nat.reduceLT,Nat.reduceSub,Int.reduceToNat,Int.reduceLE,Int.reduceLT, one_imm, one_ref, eq_false (show ¬ ((f.n : Nat) : Int) < f.n by omega)]
      exact hC q H nx wv hs hg0 hg1
end Go.Proofs.Ytjdeediehmhdoaa
namespace Go.Proofs.Ytjdeediehmhdoaa
set_option linter.unusedSimpArgs false
set_option linter.unusedVariables false
set_option maxRecDepth 10000
open Go.V

theorem solverOf_v (f : BF) (hf : Fine f) (hr : f.r ≤ 64) : SolverOfV f := by
  intro o0 o1 C t0 t1 hC
  refine VCall.of_body hmix f_live_solverOf (by simp) ?_
  have hn5 : f.n ≤ 500 := hf.b1
  have hmx : (200000 : Nat) ≤ maxLen := by decide
  have hlen : f.bks.length = f.n := rfl
  have hc : c_live_solverOf = VC.seq _ (VC.seq _ (VC.seq _ c_live_solverOf.tl.tl.tl)) := rfl
  have htail := fun ka kw hk env he1 he3 he4 H hl h0 h1 h2 hS ha hw => solver_tail f hf hr ka kw hk o0 o1 t0 t1 env he1 he3 he4 H hl h0 h1 h2 hS ha hw C (fun q H nx wv h g0 g1 => hC q H nx wv h g0 g1)
  obtain ⟨D, hD⟩ : ∃ D, D = c_live_solverOf.tl.tl.tl := ⟨_, rfl⟩
  rw [← hD] at htail
  rw [hc, ← hD]
  have hrp : ∀ m, (List.replicate m [AV.val (.slice none 0 0)]).flatten = List.replicate m nilv := fun m => by simp [List.flatten_replicate_singleton]
  have hrb : ∀ m, (List.replicate m [AV.val (.bool false)]).flatten = (List.replicate m false).map B := fun m => by simp [List.flatten_replicate_singleton]
  simp only [go_sem,Nat.reduceEqDiff,Nat.reduceAdd,Nat.reduceMul,↓reduceIte,↓dreduceIte,reduceCtorEq,Nat.reduceLeDiff,Nat.reduceLT,Nat.reduceSub,Int.reduceToNat,Int.reduceLE,Int.reduceLT, one_imm, one_ref, List.length_map, hlen]
  refine ECall.of (next_c f hf.b1) (SleL.pure rfl) ⟨_, fun _ => Iff.rfl⟩ fun x hx => ?_
  subst hx
  simp only [go_sem,Nat.reduceEqDiff,Nat.reduceAdd,Nat.reduceMul,↓reduceIte,↓dreduceIte,reduceCtorEq,Nat.reduceLeDiff,Nat.reduceLT,Nat.reduceSub,Int.reduceToNat,Int.reduceLE,Int.reduceLT, one_imm, one_ref, List.length_map, hlen]
  repeat' (with_reducible apply And.intro)
  all_goals first | omega | skip
  · rw [hrp, hrb]
    exact htail 3 4 (.inl ⟨rfl, rfl⟩) _ rfl rfl rfl _ rfl rfl rfl rfl rfl rfl rfl
  · rw [hrp, hrb]
    exact htail 4 3 (.inr ⟨rfl, rfl⟩) _ rfl rfl rfl _ rfl rfl rfl rfl rfl rfl rfl
theorem live_of_c (f : BF) (hf : Fine f) (hr : f.r ≤ 64) (L : LD) (hL : Least f L) : Contract Try.prog 13 [bfA f] (fun x => x = liveA L) := of_c f hf hr (solverOf_v f hf hr) L hL
end Go.Proofs.Ytjdeediehmhdoaa
namespace Go.V
set_option linter.unusedSimpArgs false
set_option linter.unusedVariables false

section
variable {P : Program}
theorem rl0_vals {w : World} {I J : Nat → Prop} : ∀ {us : List Value} {vs : List Value}, RL0 w I (us.map .val) vs → RL0 w J (us.map .val) vs
  | [], vs, h => by simpa only [List.map_nil, RL0] using h
  | u :: us, vs, h => by
    simp only [List.map_cons, RL0] at h ⊢
    obtain ⟨v, vs', rfl, h1, h2⟩ := h
    exact ⟨v, vs', rfl, by simpa only [RV0] using h1, rl0_vals h2⟩
/-- A function that answers with values alone. -/
theorem Contract.vals {f : Nat} {args : List AV} {C : AV → Prop} (h : Contract P f args C) (hC : ∀ r, C r → (∃ u, r = .val u) ∨ ∃ us : List Value, r = .agg (us.map .val)) : ContractN P f args C :=
  ⟨h.1, fun I w vs hI hvs => (h.2 I w vs hI hvs).mono fun e w' hp => by
    obtain ⟨v, r, h1, h2, h3, h4⟩ := hp
    refine ⟨v, r, h1, ?_, h3, h4⟩
    rcases hC r h4 with ⟨u, rfl⟩ | ⟨us, rfl⟩
    · simpa only [RV0] using h2
    · simp only [RV0] at h2 ⊢
      obtain ⟨vs, e1, e2⟩ := h2
      exact ⟨vs, e1, rl0_vals e2⟩⟩
end

theorem flat_get {α : Type} {z : Nat} : ∀ {ls : List (List α)}, (∀ l ∈ ls, l.length = z) → ∀ {i j : Nat} {l : List α} {u : α}, ls[i]? = some l → l[j]? = some u → ls.flatten[i * z + j]? = some u
  | [], _, i, j, l, u, h, _ => by simp at h
  | a :: ls, hz, i, j, l, u, h, hu => by
    have ha := hz a (by simp)
    cases i with
    | zero =>
      simp at h; subst h
      rw [List.flatten_cons, Nat.zero_mul, Nat.zero_add, List.getElem?_append_left (List.getElem?_eq_some_iff.1 hu).1]; exact hu
    | succ i =>
      simp only [List.getElem?_cons_succ] at h
      rw [List.flatten_cons, List.getElem?_append_right (by rw [ha, Nat.succ_mul]; omega), ha, show (i + 1) * z + j - z = i * z + j by rw [Nat.succ_mul]; omega]
      exact flat_get (fun l hl => hz l (by simp [hl])) h hu

theorem RL.split {M : MM} : ∀ {xs ys : List AV} {vs : List Value}, RL M (xs ++ ys) vs → ∃ v1 v2, vs = v1 ++ v2 ∧ RL M xs v1 ∧ RL M ys v2
  | [], ys, vs, h => ⟨[], vs, rfl, by simp only [RL], h⟩
  | x :: xs, ys, vs, h => by
    simp only [List.cons_append, RL] at h
    obtain ⟨v, vs', rfl, h1, h2⟩ := h
    obtain ⟨v1, v2, rfl, h3, h4⟩ := RL.split h2
    exact ⟨v :: v1, v2, rfl, by simp only [RL]; exact ⟨v, v1, rfl, h1, h3⟩, h4⟩

theorem RL.chunks {M : MM} : ∀ {yss : List (List AV)} {vs : List Value}, RL M yss.flatten vs → ∃ vss : List (List Value), vs = vss.flatten ∧ vss.length = yss.length ∧ ∀ (i : Nat) (l : List AV) (v : List Value), yss[i]? = some l → vss[i]? = some v → RL M l v
  | [], vs, h => by
    simp only [List.flatten_nil, RL] at h
    exact ⟨[], h, rfl, fun i l v h => by simp at h⟩
  | y :: yss, vs, h => by
    rw [List.flatten_cons] at h
    obtain ⟨v1, v2, rfl, h1, h2⟩ := RL.split h
    obtain ⟨vss, rfl, h3, h4⟩ := RL.chunks h2
    refine ⟨v1 :: vss, by simp, by simp [h3], fun i l v hl hv => ?_⟩
    cases i with
    | zero => simp at hl hv; subst hl; subst hv; exact h1
    | succ i => exact h4 i l v (by simpa using hl) (by simpa using hv)

/-- Elements, one after the other. -/
def FrzLL (n : Nat) (H : List VObj) (nx : Nat) : List (List AV) → List (List AV) → Prop
  | [], zs => zs = []
  | y :: ys, zs => ∃ z zs', zs = z :: zs' ∧ FrzL n H nx y z ∧ FrzLL n H nx ys zs'
theorem FrzLL.pure {n : Nat} {H : List VObj} {nx : Nat} : ∀ {yss : List (List AV)}, (∀ l ∈ yss, l.all AV.pure = true) → FrzLL n H nx yss yss
  | [], _ => rfl
  | y :: ys, h => ⟨y, ys, rfl, FrzL.pure (h y (by simp)), FrzLL.pure fun l hl => h l (by simp [hl])⟩

theorem FrzLL.length {n : Nat} {H : List VObj} {nx : Nat} : ∀ {yss zss : List (List AV)}, FrzLL n H nx yss zss → zss.length = yss.length
  | [], _, h => by simp only [FrzLL] at h; subst h; rfl
  | y :: ys, _, h => by
    simp only [FrzLL] at h
    obtain ⟨z, zs', rfl, _, h3⟩ := h
    simp [FrzLL.length h3]

theorem rl0_aggsT {M : MM} {n : Nat} (hR : RH M) : ∀ {yss zss : List (List AV)} {vss : List (List Value)}, vss.length = yss.length → (∀ (i : Nat) (l : List AV) (v : List Value), yss[i]? = some l → vss[i]? = some v → RL M l v) → FrzLL n M.H M.nx yss zss →
    RL0 M.w (Drop M n) (zss.map .agg) (vss.map fun l => Value.agg l.toArray)
  | [], _, [], _, _, h => by simp only [FrzLL] at h; subst h; simp only [List.map_nil, RL0]
  | [], _, v :: vs, h, _, _ => by simp at h
  | y :: ys, _, [], h, _, _ => by simp at h
  | y :: ys, _, v :: vs, h, h1, h2 => by
    simp only [FrzLL] at h2
    obtain ⟨z, zs', rfl, h2, h3⟩ := h2
    simp only [List.map_cons, RL0]
    refine ⟨_, _, rfl, ?_, rl0_aggsT hR (by simpa using h) (fun i l v hl hv => h1 (i + 1) l v (by simpa using hl) (by simpa using hv)) h3⟩
    simp only [RV0]
    exact ⟨v, rfl, h2.rl hR rfl rfl (h1 0 y v (by simp) (by simp))⟩

theorem flatz_len {α : Type} {z : Nat} : ∀ {ls : List (List α)}, (∀ l ∈ ls, l.length = z) → ls.flatten.length = ls.length * z
  | [], _ => by simp
  | y :: ys, h => by rw [List.flatten_cons, List.length_append, flatz_len (fun l hl => h l (by simp [hl])), h y (by simp), List.length_cons, Nat.succ_mul]; omega

/-- A slice over an object of structs. -/
theorem Frz.refT {n : Nat} {H : List VObj} {nx id s len z : Nat} {ob : VObj} {yss zss : List (List AV)} (hid : n ≤ id) (ho : H[id]? = some ob) (hs : ob.s = s) (hz : ob.sz = z) (hcs : ob.cs = yss.flatten)
    (hy : ∀ l ∈ yss, l.length = z) (hlen : len = yss.length) (hf : FrzLL n H nx yss zss) : Frz n H nx (.ref id s 0 len) (.imm z (zss.map .agg)) := fun M hR hH hnx v r => by
  subst hH; subst hnx; subst hlen
  simp only [RV] at r
  obtain ⟨hzz, r⟩ := r.2.2 ob ho hs
  have hfl : yss.flatten.length = yss.length * z := flatz_len hy
  cases hm : M.m.getD id none with
  | none =>
    rw [hm] at r
    obtain ⟨rfl, h1, h2⟩ := r
    have : yss = [] := List.length_eq_zero_iff.1 (by omega)
    subst this
    simp only [FrzLL] at hf
    subst hf
    simp only [List.map_nil, RV0, RL0]
    exact ⟨none, 0, 0, [], rfl, rfl, Nat.le_refl _, by simp [maxLen], rfl, by simp, .inl rfl⟩
  | some g =>
    rw [hm] at r
    obtain ⟨oo, cap, rfl, q2, q3, q4, q5, q6⟩ := r
    obtain ⟨vs, g1, g2, g3⟩ := hR.cells ho hzz hm 0 (yss.length * z) (by rw [hcs, hfl]; omega)
    rw [List.drop_zero, hcs, List.take_of_length_le (by omega)] at g2
    obtain ⟨vss, rfl, h3, h4⟩ := RL.chunks g2
    have hlv : ∀ i v, vss[i]? = some v → ∃ l, yss[i]? = some l ∧ RL M l v ∧ v.length = z := fun i v hv => by
      have hi : i < yss.length := by have := (List.getElem?_eq_some_iff.1 hv).1; omega
      have hl := List.getElem?_eq_getElem hi
      have := h4 i _ v hl hv
      exact ⟨_, hl, this, by rw [this.length]; exact hy _ (List.getElem_mem hi)⟩
    have hmem : ∀ v ∈ vss, v.length = z := fun v hv => by
      obtain ⟨i, hi⟩ := List.getElem?_of_mem hv
      obtain ⟨_, _, _, e⟩ := hlv i v hi
      exact e
    simp only [RV0]
    refine ⟨_, yss.length, cap, vss.map fun l => Value.agg l.toArray, rfl, by simp [h3, hf.length], q2, q3, ?_, fun u hu => ?_, ?_⟩
    · exact rl0_aggsT hR h3 h4 hf
    · obtain ⟨l, hl, rfl⟩ := List.mem_map.1 hu
      simp [Value.cells, hmem l hl]
    · by_cases hl : yss.length = 0
      · exact .inl hl
      · refine .inr ⟨g, oo, rfl, ⟨.inr ⟨(hR.lt hm).1, (hR.lt hm).2.1⟩, fun j hj e => by have := hR.inj j id g e hm; omega⟩, fun i u hu j x hx => ?_⟩
        have hoo : oo = M.o id + 0 := by rcases q5 with q5 | q5 <;> omega
        rw [List.getElem?_map] at hu
        cases hv : vss[i]? with
        | none => rw [hv] at hu; cases hu
        | some l =>
          rw [hv] at hu
          simp only [Option.map_some, Option.some.injEq] at hu
          subst hu
          have hx' : l[j]? = some x := by simpa [Value.cells] using hx
          have := g3 _ _ (flat_get hmem hv hx')
          rw [hoo, Nat.add_assoc]; exact this
end Go.V
namespace Go.Proofs.Ytjdeediehmhdoaa
set_option linter.unusedSimpArgs false
set_option linter.unusedVariables false
set_option maxRecDepth 10000
open Go.V
abbrev bpL (b : BP) : List AV := [I b.words, .imm 2 (b.funcs.map bfA)]
theorem frz_fun {n : Nat} {H : List VObj} {nx id s ty : Nat} {f : BF} (hid : n ≤ id) (ho : H[id]? = some ⟨s, ty, 2, bfL f⟩) : Frz n H nx (.ref id s 0 1) (.imm 2 [bfA f]) := by
  have h := Frz.refT (n := n) (nx := nx) (len := 1) hid ho rfl rfl (yss := [bfL f]) (zss := [bfL f]) (by simp) (by simp) rfl (FrzLL.pure fun l hl => by simp at hl; subst hl; rfl)
  exact h
theorem alone_c (f : BF) : Contract Try.prog 28 [bfA f] (fun r => r = bpA ⟨16, [f]⟩) := by
  refine Contract.of_call (VCall.of_body hmix f_scref27_Alone (by simp) ?_)
  simp only [go_sem,Nat.reduceEqDiff,Nat.reduceAdd,Nat.reduceMul,↓reduceIte,↓dreduceIte,reduceCtorEq,Nat.reduceLeDiff,Nat.reduceLT,Nat.reduceSub,Int.reduceToNat,Int.reduceLE,Int.reduceLT, c_scref27_Alone, one_imm, one_ref]
  exact ⟨_, Frz.agg ⟨_, _, rfl, Frz.pure rfl, _, _, rfl, frz_fun (Nat.zero_le _) rfl, rfl⟩, rfl⟩

/-- How many instructions are left behind so many blocks. -/
def leftI (f : BF) (n : Int) (k : Nat) : Int := n - ((f.bks.take k).map fun b => (b.ins.length : Int)).sum
def smallB (f : BF) (blocks ins : Int) : Bool :=
  decide ((f.bks.length : Int) ≤ blocks ∧ f.regs ≤ 40 ∧ 0 ≤ f.regs) && decide (0 ≤ leftI f ins f.bks.length) && rightB ⟨16, [f]⟩
theorem leftI_step (f : BF) (n : Int) {k : Nat} (h : k < f.bks.length) : leftI f n (k + 1) = leftI f n k - (f.bks.getD k default).ins.length := by
  unfold leftI
  have e : f.bks.take (k + 1) = f.bks.take k ++ [f.bks.getD k default] := by rw [List.take_add_one]; simp [List.getD, List.getElem?_eq_getElem h]
  rw [e]; simp; omega
theorem leftI_mono (f : BF) (n : Int) : ∀ {k j : Nat}, k ≤ j → leftI f n j ≤ leftI f n k := by
  intro k j h
  induction h with
  | refl => exact Int.le_refl _
  | step h ih =>
    rename_i j
    by_cases hj : j < f.bks.length
    · rw [leftI_step f n hj]; omega
    · unfold leftI at ih ⊢
      rw [List.take_of_length_le (by omega)]
      rw [List.take_of_length_le (by omega)] at ih
      exact ih
theorem small_c (f : BF) (blocks ins : Int) (hF : BfOk f) (hb : blocks ≤ 100000) (hi : 0 ≤ ins ∧ ins ≤ 100000) : Contract Try.prog 11 [bfA f, I blocks, I ins] (fun r => r = B (smallB f blocks ins)) := by
  refine Contract.of_call (VCall.of_body hmix f_scref27_Small (by simp) ?_)
  by_cases h1 : (f.bks.length : Int) ≤ blocks
  · by_cases h2 : f.regs ≤ 40
    · by_cases h3 : 0 ≤ f.regs
      · simp only [go_sem,Nat.reduceEqDiff,Nat.reduceAdd,Nat.reduceMul,↓reduceIte,↓dreduceIte,reduceCtorEq,Nat.reduceLeDiff,Nat.reduceLT,Nat.reduceSub,Int.reduceToNat,Int.reduceLE,Int.reduceLT, c_scref27_Small, one_imm, one_ref, List.length_map, eq_false (show ¬ blocks < (f.bks.length : Int) by omega), eq_false (show ¬ 40 < f.regs by omega), eq_false (show ¬ f.regs < 0 by omega)]
        refine VW_loop (fun k : Nat => ⟨[(2, I (leftI f ins k)), (3, .ptr 0 0 0), (7, I k)], [⟨0, 24, 1, bfL f⟩], 1⟩) (fun k => k ≤ f.bks.length ∧ 0 ≤ leftI f ins k) (fun k => f.bks.length - k) 0
          (Wk.mk (by simp [get_cons, leftI]) ⟨[], rfl⟩ (Nat.le_refl _)) ⟨by omega, by simp [leftI]; omega⟩ ?_
        rintro k ⟨hk, hp⟩
        have hm := leftI_mono f ins (Nat.zero_le k)
        have h0 : leftI f ins 0 = ins := by simp [leftI]
        by_cases hlt : k < f.bks.length
        · have hl := (hF.bk _ (mem_getD hlt)).len
          have hst := leftI_step f ins hlt
          simp only [go_sem,Nat.reduceEqDiff,Nat.reduceAdd,Nat.reduceMul,↓reduceIte,↓dreduceIte,reduceCtorEq,Nat.reduceLeDiff,Nat.reduceLT,Nat.reduceSub,Int.reduceToNat,Int.reduceLE,Int.reduceLT, one_imm, one_ref, List.length_map, eq_true (show (k : Int) < f.bks.length by omega)]
          rw [i64_in (by omega) (by omega), ← hst]
          by_cases h4 : leftI f ins (k + 1) < 0
          · simp only [go_sem,Nat.reduceEqDiff,Nat.reduceAdd,Nat.reduceMul,↓reduceIte,↓dreduceIte,reduceCtorEq,Nat.reduceLeDiff,Nat.reduceLT,Nat.reduceSub,Int.reduceToNat,Int.reduceLE,Int.reduceLT, one_imm, one_ref, List.length_map, eq_true h4]
            refine ⟨by omega, _, Frz.pure rfl, ?_⟩
            have := leftI_mono f ins (show k + 1 ≤ f.bks.length by omega)
            unfold smallB
            rw [decide_eq_false (show ¬ 0 ≤ leftI f ins f.bks.length by omega)]; simp
          · simp only [go_sem,Nat.reduceEqDiff,Nat.reduceAdd,Nat.reduceMul,↓reduceIte,↓dreduceIte,reduceCtorEq,Nat.reduceLeDiff,Nat.reduceLT,Nat.reduceSub,Int.reduceToNat,Int.reduceLE,Int.reduceLT, one_imm, one_ref, List.length_map, eq_false h4]
            rw [i64_in (by omega) (by omega)]
            exact ⟨by omega, k + 1, ⟨by omega, by omega⟩, by omega, Wk.mk (by simp [get_cons]) ⟨[], rfl⟩ (Nat.le_refl _)⟩
        · obtain rfl : k = f.bks.length := by omega
          simp only [go_sem,Nat.reduceEqDiff,Nat.reduceAdd,Nat.reduceMul,↓reduceIte,↓dreduceIte,reduceCtorEq,Nat.reduceLeDiff,Nat.reduceLT,Nat.reduceSub,Int.reduceToNat,Int.reduceLE,Int.reduceLT, one_imm, one_ref, List.length_map, eq_false (show ¬ (f.bks.length : Int) < f.bks.length by omega)]
          refine VCall.of_contract (alone_c f) (SleL.pure rfl) fun r hr => ?_
          subst hr
          simp only [go_sem,Nat.reduceEqDiff,Nat.reduceAdd,Nat.reduceMul,↓reduceIte,↓dreduceIte,reduceCtorEq,Nat.reduceLeDiff,Nat.reduceLT,Nat.reduceSub,Int.reduceToNat,Int.reduceLE,Int.reduceLT, one_imm, one_ref]
          refine VCall.of_contract (rright_c ⟨16, [f]⟩ (by simp) (fun g hg => by simp at hg; subst hg; exact hF.len) (fun g hg b hb => by simp at hg; subst hg; exact (hF.bk b hb).len)) (SleL.pure rfl) fun r hr => ?_
          subst hr
          simp only [go_sem,Nat.reduceEqDiff,Nat.reduceAdd,Nat.reduceMul,↓reduceIte,↓dreduceIte,reduceCtorEq,Nat.reduceLeDiff,Nat.reduceLT,Nat.reduceSub,Int.reduceToNat,Int.reduceLE,Int.reduceLT, one_imm, one_ref]
          refine ⟨_, Frz.pure rfl, ?_⟩
          unfold smallB
          rw [decide_eq_true hp, decide_eq_true ⟨h1, h2, h3⟩]; rfl
      · simp only [go_sem,Nat.reduceEqDiff,Nat.reduceAdd,Nat.reduceMul,↓reduceIte,↓dreduceIte,reduceCtorEq,Nat.reduceLeDiff,Nat.reduceLT,Nat.reduceSub,Int.reduceToNat,Int.reduceLE,Int.reduceLT, c_scref27_Small, one_imm, one_ref, List.length_map, eq_false (show ¬ blocks < (f.bks.length : Int) by omega), eq_false (show ¬ 40 < f.regs by omega), eq_true (show f.regs < 0 by omega)]
        refine ⟨_, Frz.pure rfl, ?_⟩
        unfold smallB
        rw [decide_eq_false (fun e => h3 e.2.2)]; rfl
    · simp only [go_sem,Nat.reduceEqDiff,Nat.reduceAdd,Nat.reduceMul,↓reduceIte,↓dreduceIte,reduceCtorEq,Nat.reduceLeDiff,Nat.reduceLT,Nat.reduceSub,Int.reduceToNat,Int.reduceLE,Int.reduceLT, c_scref27_Small, one_imm, one_ref, List.length_map, eq_false (show ¬ blocks < (f.bks.length : Int) by omega), eq_true (show 40 < f.regs by omega)]
      refine ⟨_, Frz.pure rfl, ?_⟩
      unfold smallB
      rw [decide_eq_false (fun e => h2 e.2.1)]; rfl
  · simp only [go_sem,Nat.reduceEqDiff,Nat.reduceAdd,Nat.reduceMul,↓reduceIte,↓dreduceIte,reduceCtorEq,Nat.reduceLeDiff,Nat.reduceLT,Nat.reduceSub,Int.reduceToNat,Int.reduceLE,Int.reduceLT, c_scref27_Small, one_imm, one_ref, List.length_map, eq_true (show blocks < (f.bks.length : Int) by omega)]
    refine ⟨_, Frz.pure rfl, ?_⟩
    unfold smallB
    rw [decide_eq_false (fun e => h1 e.1)]; rfl

theorem small_fine {f : BF} (h : smallB f 12 60 = true) : Fine f ∧ f.bks.length ≤ 12 ∧ f.regs ≤ 40 ∧ oneB f 0 16 = true ∧ 0 ≤ leftI f 60 f.bks.length := by
  unfold smallB rightB at h
  simp only [Bool.and_eq_true, decide_eq_true_eq, List.all_eq_true] at h
  obtain ⟨⟨⟨h1, h2, h3⟩, h4⟩, h5, h6⟩ := h
  have ho : oneB f 0 16 = true := by have := h6 0 (by simp); simpa using this
  have hins : ∀ b ∈ f.bks, b.ins.length ≤ 1000 := fun b hb => by
    obtain ⟨k, hk, e⟩ := List.getElem_of_mem hb
    have g1 := leftI_step f 60 hk
    have g2 := leftI_mono f 60 (Nat.zero_le k)
    have g3 := leftI_mono f 60 (show k + 1 ≤ f.bks.length by omega)
    have h0 : leftI f 60 0 = 60 := by simp [leftI]
    have : f.bks.getD k default = b := by simp [List.getD, List.getElem?_eq_getElem hk, e]
    rw [this] at g1
    omega
  exact ⟨one_fine ho (by omega) hins, by omega, h2, ho, h4⟩
end Go.Proofs.Ytjdeediehmhdoaa
