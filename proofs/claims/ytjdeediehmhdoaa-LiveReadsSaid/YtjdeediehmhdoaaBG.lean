/-
  The search in memory: its record, the rows, which blocks wait: 'wait': contract. No condition.
-/
import Derived.Test.YtjdeediehmhdoaaBE
namespace Go.Proofs.Ytjdeediehmhdoaa
set_option linter.unusedSimpArgs false
set_option linter.unusedVariables false
set_option maxRecDepth 10000
open Go.V

/-- Objects of other types than these stay. -/
def KeepT (tys : List Nat) (H H' : List VObj) : Prop := ∀ (k : Nat) (ob : VObj), H[k]? = some ob → ob.ty ∉ tys → H'[k]? = some ob
theorem KeepT.refl (tys : List Nat) (H : List VObj) : KeepT tys H H := fun _ _ h _ => h
theorem KeepT.trans {ts : List Nat} {A B C : List VObj} (h : KeepT ts A B) (k : KeepT ts B C) : KeepT ts A C := fun i ob h1 h2 => k i ob (h i ob h1 h2) h2
theorem KeepT.mono {ts us : List Nat} {A B : List VObj} (h : KeepT ts A B) (hs : ∀ t ∈ ts, t ∈ us) : KeepT us A B := fun i ob h1 h2 => h i ob h1 fun e => h2 (hs _ e)
theorem KeepT.app (ts : List Nat) (H R : List VObj) : KeepT ts H (H ++ R) := fun k ob h _ => by rw [List.getElem?_append_left (List.getElem?_eq_some_iff.1 h).1]; exact h
theorem KeepT.set {ts : List Nat} {H : List VObj} {k : Nat} {ob ob' : VObj} (h : H[k]? = some ob) (ht : ob.ty ∈ ts) : KeepT ts H (H.set k ob') := fun i o h1 h2 => by
  have hne : k ≠ i := fun e => by subst e; rw [h] at h1; cases h1; exact h2 ht
  rw [List.getElem?_set, if_neg hne]; exact h1
theorem ty_ne {H : List VObj} {i j : Nat} {a b : VObj} (h : H[i]? = some a) (k : H[j]? = some b) (ht : a.ty ≠ b.ty) : (i = j) = False := eq_false fun e => by subst e; rw [h] at k; cases k; exact ht rfl
theorem lt_of {H : List VObj} {i : Nat} {a : VObj} (h : H[i]? = some a) : (i < H.length) = True := eq_true (List.getElem?_eq_some_iff.1 h).1
theorem ne_len {H : List VObj} {i : Nat} {a : VObj} (h : H[i]? = some a) : (H.length = i) = False := eq_false fun e => by have := (List.getElem?_eq_some_iff.1 h).1; omega
theorem ne_len' {H : List VObj} {i : Nat} {a : VObj} (h : H[i]? = some a) : (H.length + 1 = i) = False := eq_false fun e => by have := (List.getElem?_eq_some_iff.1 h).1; omega

abbrev nextA (f : BF) : AV := .imm 1 (f.bks.map fun b => ints (nxt b))
abbrev readL64 (f : BF) : List AV := f.bks.map fun b => .imm 1 (rowC64 (readL b f.r))
abbrev setL64 (f : BF) : List AV := f.bks.map fun b => .imm 1 (rowC64 (setL b f.r))
structure Ids where
  kS : Nat
  sS : Nat
  kI : Nat
  sI : Nat
  kO : Nat
  sO : Nat
  kW : Nat
  sW : Nat
  kA : Nat
  sA : Nat
  kR : Nat
  sR : Nat
  kT : Nat
  sT : Nat
  pi : Nat → Nat × Nat
  ri : Nat → Nat × Nat
  ro : Nat → Nat × Nat
def flags (n : Nat) (wt : List Nat) : List Bool := (List.range n).map fun b => decide (b ∈ wt)
abbrev slvL (f : BF) (q : Ids) (wv : AV) : List AV := [nextA f, .ref q.kA q.sA 0 f.n, .ref q.kR q.sR 0 f.n, .ref q.kT q.sT 0 f.n, .ref q.kI q.sI 0 f.n, .ref q.kO q.sO 0 f.n, wv, .ref q.kW q.sW 0 f.n]
abbrev rowsL (n r : Nat) (g : Nat → Nat × Nat) : List AV := (List.range n).map fun b => .ref (g b).1 (g b).2 0 (rl r)
abbrev natsL (l : List Nat) : List AV := l.map fun b => I (b : Nat)

/-- The blocks that wait, as the record tells them. -/
def WtV (n : Nat) (pi : Nat → Nat × Nat) (H : List VObj) (wv : AV) (wt : List Nat) : Prop := (wv = nilv ∧ wt = []) ∨ ∃ k s rest, wv = .ref k s 0 wt.length ∧ H[k]? = some ⟨s, 3, 1, natsL (wt ++ rest)⟩ ∧ ∀ c < n, (pi c).1 ≠ k
structure HS (f : BF) (H : List VObj) (q : Ids) (wv : AV) (σ : SV) : Prop where
  so : H[q.kS]? = some ⟨q.sS, 66, 1, slvL f q wv⟩
  li : H[q.kI]? = some ⟨q.sI, 70, 1, rowsL f.n f.r q.ri⟩
  lo : H[q.kO]? = some ⟨q.sO, 70, 1, rowsL f.n f.r q.ro⟩
  ri : ∀ b < f.n, H[(q.ri b).1]? = some ⟨(q.ri b).2, 88, 1, rowC64 (σ.I.getD b [])⟩
  ro : ∀ b < f.n, H[(q.ro b).1]? = some ⟨(q.ro b).2, 88, 1, rowC64 (σ.O.getD b [])⟩
  w : H[q.kW]? = some ⟨q.sW, 4, 1, (flags f.n σ.wt).map B⟩
  wt : WtV f.n q.pi H wv σ.wt
  la : H[q.kA]? = some ⟨q.sA, 43, 1, (List.range f.n).map fun b => .ref (q.pi b).1 (q.pi b).2 0 (predL f b).length⟩
  lr : H[q.kR]? = some ⟨q.sR, 70, 1, readL64 f⟩
  lt : H[q.kT]? = some ⟨q.sT, 70, 1, setL64 f⟩
  pr : ∀ b < f.n, H[(q.pi b).1]? = some ⟨(q.pi b).2, 3, 1, natsL (predL f b)⟩
  dI : ∀ b < f.n, ∀ c < f.n, (q.ri b).1 = (q.ri c).1 → b = c
  dO : ∀ b < f.n, ∀ c < f.n, (q.ro b).1 = (q.ro c).1 → b = c
  dIO : ∀ b < f.n, ∀ c < f.n, (q.ri b).1 ≠ (q.ro c).1

theorem WtV.one {n : Nat} {pi : Nat → Nat × Nat} {H : List VObj} {wv : AV} {wt : List Nat} (h : WtV n pi H wv wt) : wv.one = true := by
  rcases h with ⟨h, _⟩ | ⟨_, _, _, h, _⟩ <;> rw [h] <;> rfl
theorem flags_get {n b : Nat} {wt : List Nat} (h : b < n) : gB (flags n wt) b = decide (b ∈ wt) := by
  unfold flags; rw [gB, List.getD]; simp [h]
theorem flags_len (n : Nat) (wt : List Nat) : (flags n wt).length = n := by simp [flags]
theorem flags_add {n b : Nat} {wt : List Nat} (h : b < n) : (flags n wt).set b true = flags n (wt ++ [b]) := gB_ext (by simp [flags]) fun v hv => by
  have hv' : v < n := by simpa [flags] using hv
  rw [gB_set _ _ _ _ (by rw [flags_len]; exact hv'), flags_get hv', flags_get hv']
  by_cases e : b = v
  · subst e; simp
  · rw [if_neg e]
    have : ¬ v = b := fun h => e h.symm
    simp [this]
theorem nats_B (l : List Nat) : allCells (natsL l) = natsL l := allCells_map1 (fun _ => rfl) l
/-- What other types hold stays. -/
theorem HS.keep {f : BF} {H H' : List VObj} {q : Ids} {wv wv' : AV} {σ : SV} {wt' : List Nat} (h : HS f H q wv σ) (k : KeepT [66, 4, 3] H H')
    (so : H'[q.kS]? = some ⟨q.sS, 66, 1, slvL f q wv'⟩) (w : H'[q.kW]? = some ⟨q.sW, 4, 1, (flags f.n wt').map B⟩) (wt : WtV f.n q.pi H' wv' wt') (pr : ∀ b < f.n, H'[(q.pi b).1]? = H[(q.pi b).1]?) : HS f H' q wv' ⟨σ.I, σ.O, wt'⟩ :=
  ⟨so, k _ _ h.li (by simp), k _ _ h.lo (by simp), fun b hb => k _ _ (h.ri b hb) (by simp), fun b hb => k _ _ (h.ro b hb) (by simp), w, wt, k _ _ h.la (by simp), k _ _ h.lr (by simp), k _ _ h.lt (by simp), fun b hb => (pr b hb).trans (h.pr b hb), h.dI, h.dO, h.dIO⟩

theorem wait_v {f : BF} {H : List VObj} {q : Ids} {wv : AV} {σ : SV} (h : HS f H q wv σ) (nx b : Nat) (hb : b < f.n) (hn : f.n ≤ 500) (hl : σ.wt.length ≤ 500) (C : AV → List VObj → Nat → Prop)
    (hC : ∀ r H' nx' wv', HS f H' q wv' ⟨σ.I, σ.O, waitS σ.wt b⟩ → KeepT [66, 4, 3] H H' → C r H' nx') :
    VCall Try.prog 32 [.ptr q.kS q.sS 0, I b] H nx C := by
  refine VCall.of_body hmix f_live_solver_wait (by simp) ?_
  have hmx : (200000 : Nat) ≤ maxLen := by decide
  have hso := h.so
  have hw := h.w
  have e1 := ty_ne hw hso (by simp)
  have e1' := ty_ne hso hw (by simp)
  have l1 := lt_of hso
  have l2 := lt_of hw
  by_cases hm : b ∈ σ.wt
  · have hg : gB (flags f.n σ.wt) b = true := by rw [flags_get hb, decide_eq_true hm]
    simp only [go_sem,Nat.reduceEqDiff,Nat.reduceAdd,Nat.reduceMul,↓reduceIte,↓dreduceIte,reduceCtorEq,Nat.reduceLeDiff,Nat.reduceLT,Nat.reduceSub,Int.reduceToNat,Int.reduceLE,Int.reduceLT, c_live_solver_wait, hso, hw, one_imm, one_ref, gB_getD, hg, flags_len]
    repeat ((with_reducible refine And.intro ?_ ?_); · omega)
    refine hC _ H _ wv ?_ (KeepT.refl _ _)
    rw [show waitS σ.wt b = σ.wt from if_pos hm]
    exact h
  · have hg : gB (flags f.n σ.wt) b = false := by rw [flags_get hb, decide_eq_false hm]
    have hws : waitS σ.wt b = σ.wt ++ [b] := if_neg hm
    rw [hws] at hC
    rcases h.wt with ⟨rfl, hwt⟩ | ⟨k, s, rest, rfl, hk, hkp⟩
    · have n1 := ne_len hso
      have n2 := ne_len hw
      simp only [go_sem,Nat.reduceEqDiff,Nat.reduceAdd,Nat.reduceMul,↓reduceIte,↓dreduceIte,reduceCtorEq,Nat.reduceLeDiff,Nat.reduceLT,Nat.reduceSub,Int.reduceToNat,Int.reduceLE,Int.reduceLT, c_live_solver_wait, hso, hw, one_imm, one_ref, gB_getD, hg, flags_len, set_B, flags_add hb, e1, e1', l1, l2, List.getElem?_set, List.getElem?_append, List.length_set, List.length_append, Nat.lt_irrefl, Nat.sub_self, List.length_cons, List.length_nil, ↓reduceIte, List.getElem?_cons_zero]
      repeat ((with_reducible refine And.intro ?_ ?_); · first | omega | exact ⟨rfl, rfl, rfl⟩)
      have m1 := eq_true (show q.kS < H.length + 1 by have := of_eq_true l1; omega)
      have m2 := eq_true (show q.kW < H.length + 1 by have := of_eq_true l2; omega)
      have m3 := eq_true (show q.kS < H.length + 1 + 1 by have := of_eq_true l1; omega)
      have m4 := ne_len' hso
      have m5 := eq_false (show ¬ q.kS = H.length + 1 by have := of_eq_true l1; omega)
      have kp : ∀ (x y : VObj) (oW oS : VObj), KeepT [66, 4, 3] H ((H.set q.kW oW ++ [x] ++ [y]).set q.kS oS) := fun x y oW oS =>
        (((KeepT.set hw (by simp)).trans (KeepT.app _ _ _)).trans (KeepT.app _ _ _)).trans (KeepT.set (ob := ⟨q.sS, 66, 1, slvL f q nilv⟩) (by simp only [List.getElem?_set, List.getElem?_append, List.length_set, List.length_append, Nat.lt_irrefl, Nat.sub_self, List.length_cons, List.length_nil, ↓reduceIte, List.getElem?_cons_zero, Nat.zero_add, m1, m2, m3, m4, l1, l2, e1, e1', hso, hw]) (by simp))
      refine hC _ _ _ (.ref (H.length + 1) (nx + 1) 0 1) (h.keep (wt' := σ.wt ++ [b]) (kp _ _ _ _) ?_ ?_ (.inr ⟨H.length + 1, nx + 1, [], by rw [hwt]; rfl, ?_, fun c hc e => by have := of_eq_true (lt_of (h.pr c hc)); omega⟩) fun c hc => ?_) (kp _ _ _ _)
      · simp only [List.getElem?_set, List.getElem?_append, List.length_set, List.length_append, Nat.lt_irrefl, Nat.sub_self, List.length_cons, List.length_nil, ↓reduceIte, List.getElem?_cons_zero, Nat.zero_add, m1, m2, m3, m4, l1, l2, e1, e1', hso, hw]
      · simp only [List.getElem?_set, List.getElem?_append, List.length_set, List.length_append, Nat.lt_irrefl, Nat.sub_self, List.length_cons, List.length_nil, ↓reduceIte, List.getElem?_cons_zero, Nat.zero_add, m1, m2, m3, m4, l1, l2, e1, e1', hso, hw]
      · simp only [List.getElem?_set, List.getElem?_append, List.length_set, List.length_append, Nat.lt_irrefl, Nat.sub_self, List.length_cons, List.length_nil, ↓reduceIte, List.getElem?_cons_zero, Nat.zero_add, m1, m2, m3, m4, l1, l2, e1, e1', hso, hw, m5]
        rw [hwt]; rfl
      · have hp := h.pr c hc
        have p1 := ty_ne hw hp (by simp)
        have p2 := ty_ne hso hp (by simp)
        have p3 := lt_of hp
        have p4 := eq_true (show (q.pi c).1 < H.length + 1 by have := of_eq_true p3; omega)
        simp only [List.getElem?_set, List.getElem?_append, List.length_set, List.length_append, List.length_cons, List.length_nil, ↓reduceIte, Nat.zero_add, p1, p2, p3, p4]
    · have e2 := ty_ne hk hso (by simp)
      have e3 := ty_ne hk hw (by simp)
      have e2' := ty_ne hso hk (by simp)
      have e3' := ty_ne hw hk (by simp)
      have l3 := lt_of hk
      simp only [go_sem,Nat.reduceEqDiff,Nat.reduceAdd,Nat.reduceMul,↓reduceIte,↓dreduceIte,reduceCtorEq,Nat.reduceLeDiff,Nat.reduceLT,Nat.reduceSub,Int.reduceToNat,Int.reduceLE,Int.reduceLT, c_live_solver_wait, hso, hw, hk, one_imm, one_ref, gB_getD, hg, flags_len, set_B, flags_add hb, e1, e1', l1, l2, e2, e2', e3, e3', l3, List.getElem?_set, List.getElem?_append, List.length_set, List.length_append, Nat.lt_irrefl, Nat.sub_self, List.length_cons, List.length_nil, ↓reduceIte, List.getElem?_cons_zero]
      repeat ((with_reducible refine And.intro ?_ ?_); · first | omega | exact ⟨rfl, rfl, rfl⟩)
      have m1 := eq_true (show q.kS < H.length + 1 by have := of_eq_true l1; omega)
      have m2 := eq_true (show q.kW < H.length + 1 by have := of_eq_true l2; omega)
      have m3 := eq_true (show k < H.length + 1 by have := of_eq_true l3; omega)
      have kp : ∀ (x y : VObj) (oW oS : VObj), KeepT [66, 4, 3] H (((H.set q.kW oW ++ [x]).set k y).set q.kS oS) := fun x y oW oS =>
        (((KeepT.set hw (by simp)).trans (KeepT.app _ _ _)).trans (KeepT.set (ob := ⟨s, 3, 1, natsL (σ.wt ++ rest)⟩) (by simp only [List.getElem?_set, List.getElem?_append, List.length_set, List.length_append, Nat.lt_irrefl, Nat.sub_self, List.length_cons, List.length_nil, ↓reduceIte, List.getElem?_cons_zero, m1, m2, m3, l1, l2, l3, e1, e1', e2, e2', e3, e3', hso, hw, hk]) (by simp))).trans
          (KeepT.set (ob := ⟨q.sS, 66, 1, slvL f q (.ref k s 0 σ.wt.length)⟩) (by simp only [List.getElem?_set, List.getElem?_append, List.length_set, List.length_append, Nat.lt_irrefl, Nat.sub_self, List.length_cons, List.length_nil, ↓reduceIte, List.getElem?_cons_zero, m1, m2, m3, l1, l2, l3, e1, e1', e2, e2', e3, e3', hso, hw, hk]) (by simp))
      refine hC _ _ _ (.ref k (nx + 1) 0 (σ.wt.length + 1)) (h.keep (wt' := σ.wt ++ [b]) (kp _ _ _ _) ?_ ?_ (.inr ⟨k, nx + 1, [], by simp, ?_, hkp⟩) fun c hc => ?_) (kp _ _ _ _)
      · simp only [List.getElem?_set, List.getElem?_append, List.length_set, List.length_append, Nat.lt_irrefl, Nat.sub_self, List.length_cons, List.length_nil, ↓reduceIte, List.getElem?_cons_zero, m1, m2, m3, l1, l2, l3, e1, e1', e2, e2', e3, e3', hso, hw, hk]
      · simp only [List.getElem?_set, List.getElem?_append, List.length_set, List.length_append, Nat.lt_irrefl, Nat.sub_self, List.length_cons, List.length_nil, ↓reduceIte, List.getElem?_cons_zero, m1, m2, m3, l1, l2, l3, e1, e1', e2, e2', e3, e3', hso, hw, hk]
      · simp only [List.getElem?_set, List.getElem?_append, List.length_set, List.length_append, Nat.lt_irrefl, Nat.sub_self, List.length_cons, List.length_nil, ↓reduceIte, List.getElem?_cons_zero, m1, m2, m3, l1, l2, l3, e1, e1', e2, e2', e3, e3', hso, hw, hk]
        simp [natsL]
      · have hp := h.pr c hc
        have p1 := ty_ne hw hp (by simp)
        have p2 := ty_ne hso hp (by simp)
        have p3 := lt_of hp
        have p5 := eq_false (show ¬ k = (q.pi c).1 from fun e => hkp c hc e.symm)
        simp only [List.getElem?_set, List.getElem?_append, List.length_set, List.length_append, List.length_cons, List.length_nil, ↓reduceIte, Nat.zero_add, p1, p2, p3, p5]
end Go.Proofs.Ytjdeediehmhdoaa
