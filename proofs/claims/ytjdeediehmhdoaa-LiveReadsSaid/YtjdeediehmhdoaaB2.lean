/-
  The document's word on three-address code: may an instruction, an end, a function, a program be: contracts. No condition.
-/
import Derived.Test.YtjdeediehmhdoaaB1
namespace Go.Proofs.Ytjdeediehmhdoaa
set_option linter.unusedSimpArgs false
set_option linter.unusedVariables false
set_option maxRecDepth 10000
open Go.V

section
variable {α : Type} [Inhabited α] {l : List α} {p : α → Bool} {k : Nat}
theorem all_stop (hk : k < l.length) (h : p (l.getD k default) = false) : l.all p = false := by
  rw [List.all_eq_false]
  exact ⟨_, mem_getD hk, by rw [h]; decide⟩
theorem all_step (hk : k < l.length) (h0 : (l.take k).all p = true) (h : p (l.getD k default) = true) : (l.take (k + 1)).all p = true := by
  have e : l.take (k + 1) = l.take k ++ [l.getD k default] := by rw [List.take_add_one]; simp [List.getD, List.getElem?_eq_getElem hk]
  rw [e, List.all_append, h0]; simp only [List.all_cons, List.all_nil, Bool.and_true, Bool.true_and]; exact h
omit [Inhabited α] in
theorem all_end (hk : l.length ≤ k) (h0 : (l.take k).all p = true) : l.all p = true := by
  rw [List.take_of_length_le hk] at h0; exact h0
end

theorem one_imm' {sz : Nat} {xs : List AV} : (AV.imm sz xs).one = true := rfl
theorem i64_lit1 : IntKind.i64.wrap (0 + 1) = 1 := by decide
theorem i64_lit2 : IntKind.i64.wrap (1 + 1) = 2 := by decide
theorem Nat.cast_zero' : ((0 : Nat) : Int) = 0 := rfl
theorem Nat.cast_one' : ((1 : Nat) : Int) = 1 := rfl
def inB (i n : Int) : Bool := decide (0 ≤ i ∧ i < n)
theorem rwithin_c (i n : Int) : Contract Try.prog 64 [I i, I n] (fun r => r = B (inB i n)) := by
  refine Contract.of_call (VCall.of_body hmix f_scref24_within (by simp) ?_)
  by_cases h : 0 ≤ i
  · simp only [go_sem,Nat.reduceEqDiff,Nat.reduceAdd,Nat.reduceMul,↓reduceIte,↓dreduceIte,reduceCtorEq,Nat.reduceLeDiff,Nat.reduceLT,Nat.reduceSub,Int.reduceToNat,Int.reduceLE,Int.reduceLT, c_scref24_within, h]
    exact ⟨_, Frz.pure rfl, by simp [inB, h]⟩
  · simp only [go_sem,Nat.reduceEqDiff,Nat.reduceAdd,Nat.reduceMul,↓reduceIte,↓dreduceIte,reduceCtorEq,Nat.reduceLeDiff,Nat.reduceLT,Nat.reduceSub,Int.reduceToNat,Int.reduceLE,Int.reduceLT, c_scref24_within, h]
    exact ⟨_, Frz.pure rfl, by simp [inB, h]⟩

/-- May an instruction be: its words' part. -/
def restT (t : Tac) (f words : Int) : Prop :=
  if t.op = 3 then 4 ≤ t.k ∧ t.k ≤ 15 ∧ t.base = 0 ∧ t.size = 0
  else t.k = 0 ∧ (if t.op = 4 ∨ t.op = 5 then 0 ≤ t.base ∧ t.base < words ∧ t.size = 0
    else if t.op = 6 ∨ t.op = 7 then 1 ≤ t.size ∧ t.size ≤ 4096 ∧ 0 ≤ t.base ∧ t.base ≤ words - t.size
    else if t.op = 10 then 0 ≤ t.base ∧ t.base < f ∧ t.size = 0
    else t.base = 0 ∧ t.size = 0)
/-- May an instruction be, in the function of number f, with so many registers and words? -/
def FitsT (t : Tac) (f regs words : Int) : Prop :=
  1 ≤ t.op ∧ t.op ≤ 10 ∧ (if SetsT t then 0 ≤ t.d ∧ t.d < regs else t.d = 0) ∧ (∀ u ∈ usesL t, 0 ≤ u ∧ u < regs) ∧
  (usesL t = [] → t.a = 0) ∧ ((usesL t).length ≤ 1 → t.b = 0) ∧ (t.op = 1 ∨ t.n = 0) ∧ restT t f words
instance (t : Tac) (f w : Int) : Decidable (restT t f w) := by unfold restT; exact inferInstance
instance (t : Tac) (f r w : Int) : Decidable (FitsT t f r w) := by unfold FitsT; exact inferInstance
def fitsT (t : Tac) (f regs words : Int) : Bool := decide (FitsT t f regs words)

-- FITS
theorem rfits_1 (d a b k base size n f regs words : Int) (hw : 0 ≤ words ∧ words ≤ 1048576) : Contract Try.prog 57 [tacA ⟨1, d, a, b, k, base, size, n⟩, I f, I regs, I words] (fun r => r = B (fitsT ⟨1, d, a, b, k, base, size, n⟩ f regs words)) := by
  refine Contract.of_call (VCall.of_body hmix f_scref24_fits (by simp) ?_)
  have hus : usesL ⟨1, d, a, b, k, base, size, n⟩ = [] := by simp [usesL]
  obtain ⟨x, hx⟩ : ∃ x, fitsT ⟨1, d, a, b, k, base, size, n⟩ f regs words = x := ⟨_, rfl⟩
  rw [hx]
  have hX : (x = true ↔ FitsT ⟨1, d, a, b, k, base, size, n⟩ f regs words) := by rw [← hx]; exact decide_eq_true_iff
  simp only [FitsT, hus, restT, SetsT, Int.reduceEq, or_false, or_true, false_or, true_or, or_self, if_true, if_false, List.mem_cons, List.not_mem_nil, forall_eq_or_imp, forall_eq, false_implies, implies_true, true_and, and_true, Int.reduceLE, List.length_cons, List.length_nil, Nat.reduceAdd, Nat.reduceLeDiff, Nat.le_refl, forall_const, reduceCtorEq, Nat.zero_le] at hX
  cases hd : inB d regs
  · have hx0 : x = false := by
      cases x
      · rfl
      · have := hX.1 rfl; have h2 := of_decide_eq_false hd; omega
    subst hx0
    by_cases h0 : 0 ≤ d
    · simp only [go_sem,Nat.reduceEqDiff,Nat.reduceAdd,Nat.reduceMul,↓reduceIte,↓dreduceIte,reduceCtorEq,Nat.reduceLeDiff,Nat.reduceLT,Nat.reduceSub,Int.reduceToNat,Int.reduceLE,Int.reduceLT, c_scref24_fits, Int.reduceEq, Int.reduceBEq, setsL, SetsT, or_false, or_true, false_or, true_or, or_self, hus, one_imm', List.length_map, Int.reduceLT, Int.reduceNeg, Int.reduceLE]
      refine VCall.of_contract (refsets_c ⟨1, d, a, b, k, base, size, n⟩) (SleL.pure rfl) fun r hr => ?_
      subst hr
      simp only [go_sem,Nat.reduceEqDiff,Nat.reduceAdd,Nat.reduceMul,↓reduceIte,↓dreduceIte,reduceCtorEq,Nat.reduceLeDiff,Nat.reduceLT,Nat.reduceSub,Int.reduceToNat,Int.reduceLE,Int.reduceLT, Int.reduceEq, Int.reduceBEq, setsL, SetsT, or_false, or_true, false_or, true_or, or_self, hus, one_imm', List.length_map, Int.reduceLT, Int.reduceNeg, Int.reduceLE, eq_true h0]
      refine VCall.of_contract (rwithin_c _ _) (SleL.pure rfl) fun r hr => ?_
      subst hr
      simp only [go_sem,Nat.reduceEqDiff,Nat.reduceAdd,Nat.reduceMul,↓reduceIte,↓dreduceIte,reduceCtorEq,Nat.reduceLeDiff,Nat.reduceLT,Nat.reduceSub,Int.reduceToNat,Int.reduceLE,Int.reduceLT, hd]
      exact ⟨_, Frz.pure rfl, rfl⟩
    · simp only [go_sem,Nat.reduceEqDiff,Nat.reduceAdd,Nat.reduceMul,↓reduceIte,↓dreduceIte,reduceCtorEq,Nat.reduceLeDiff,Nat.reduceLT,Nat.reduceSub,Int.reduceToNat,Int.reduceLE,Int.reduceLT, c_scref24_fits, Int.reduceEq, Int.reduceBEq, setsL, SetsT, or_false, or_true, false_or, true_or, or_self, hus, one_imm', List.length_map, Int.reduceLT, Int.reduceNeg, Int.reduceLE]
      refine VCall.of_contract (refsets_c ⟨1, d, a, b, k, base, size, n⟩) (SleL.pure rfl) fun r hr => ?_
      subst hr
      simp only [go_sem,Nat.reduceEqDiff,Nat.reduceAdd,Nat.reduceMul,↓reduceIte,↓dreduceIte,reduceCtorEq,Nat.reduceLeDiff,Nat.reduceLT,Nat.reduceSub,Int.reduceToNat,Int.reduceLE,Int.reduceLT, Int.reduceEq, Int.reduceBEq, setsL, SetsT, or_false, or_true, false_or, true_or, or_self, hus, one_imm', List.length_map, Int.reduceLT, Int.reduceNeg, Int.reduceLE, eq_false h0]
      refine VCall.of_contract (rwithin_c _ _) (SleL.pure rfl) fun r hr => ?_
      subst hr
      simp only [go_sem,Nat.reduceEqDiff,Nat.reduceAdd,Nat.reduceMul,↓reduceIte,↓dreduceIte,reduceCtorEq,Nat.reduceLeDiff,Nat.reduceLT,Nat.reduceSub,Int.reduceToNat,Int.reduceLE,Int.reduceLT, hd]
      exact ⟨_, Frz.pure rfl, rfl⟩
  have h0 := (of_decide_eq_true hd).1
  have h0' := (of_decide_eq_true hd).2
  simp only [go_sem,Nat.reduceEqDiff,Nat.reduceAdd,Nat.reduceMul,↓reduceIte,↓dreduceIte,reduceCtorEq,Nat.reduceLeDiff,Nat.reduceLT,Nat.reduceSub,Int.reduceToNat,Int.reduceLE,Int.reduceLT, c_scref24_fits, Int.reduceEq, Int.reduceBEq, setsL, SetsT, or_false, or_true, false_or, true_or, or_self, hus, one_imm', List.length_map, Int.reduceLT, Int.reduceNeg, Int.reduceLE]
  refine VCall.of_contract (refsets_c ⟨1, d, a, b, k, base, size, n⟩) (SleL.pure rfl) fun r hr => ?_
  subst hr
  simp only [go_sem,Nat.reduceEqDiff,Nat.reduceAdd,Nat.reduceMul,↓reduceIte,↓dreduceIte,reduceCtorEq,Nat.reduceLeDiff,Nat.reduceLT,Nat.reduceSub,Int.reduceToNat,Int.reduceLE,Int.reduceLT, Int.reduceEq, Int.reduceBEq, setsL, SetsT, or_false, or_true, false_or, true_or, or_self, hus, one_imm', List.length_map, Int.reduceLT, Int.reduceNeg, Int.reduceLE, eq_true h0]
  refine VCall.of_contract (rwithin_c _ _) (SleL.pure rfl) fun r hr => ?_
  subst hr
  simp only [go_sem,Nat.reduceEqDiff,Nat.reduceAdd,Nat.reduceMul,↓reduceIte,↓dreduceIte,reduceCtorEq,Nat.reduceLeDiff,Nat.reduceLT,Nat.reduceSub,Int.reduceToNat,Int.reduceLE,Int.reduceLT, Int.reduceEq, Int.reduceBEq, setsL, SetsT, or_false, or_true, false_or, true_or, or_self, hus, one_imm', List.length_map, Int.reduceLT, Int.reduceNeg, Int.reduceLE, hd]
  refine VCall.of_contractN (refuses_c ⟨1, d, a, b, k, base, size, n⟩) ?_ fun r hr => ?_
  · exact ⟨_, _, rfl, Frz.pure rfl, rfl⟩
  subst hr
  simp only [go_sem,Nat.reduceEqDiff,Nat.reduceAdd,Nat.reduceMul,↓reduceIte,↓dreduceIte,reduceCtorEq,Nat.reduceLeDiff,Nat.reduceLT,Nat.reduceSub,Int.reduceToNat,Int.reduceLE,Int.reduceLT, Int.reduceEq, Int.reduceBEq, setsL, SetsT, or_false, or_true, false_or, true_or, or_self, hus, one_imm', List.length_map, Int.reduceLT, Int.reduceNeg, Int.reduceLE]
  refine VW_loop (fun i : Nat => ⟨[(1, I f), (2, I regs), (3, I words), (4, .ptr 0 0 0), (9, .ptr 1 1 0), (10, ints []), (11, I i)], [⟨0, 47, 1, tacL ⟨1, d, a, b, k, base, size, n⟩⟩, ⟨1, 47, 1, [I 1, I d, I 0, I 0, I 0, I 0, I 0, U32 0]⟩], 2⟩)
    (fun i => i ≤ 0 ∧ ∀ j < i, inB (([] : List Int).getD j default) regs = true) (fun i => 0 - i) 0 (Wk.mk (by simp [get_cons]) ⟨[], rfl⟩ (Nat.le_refl _)) ⟨by omega, by omega⟩ ?_
  rintro i ⟨hi, hin⟩
  obtain rfl : i = 0 := by omega
  simp only [go_sem,Nat.reduceEqDiff,Nat.reduceAdd,Nat.reduceMul,↓reduceIte,↓dreduceIte,reduceCtorEq,Nat.reduceLeDiff,Nat.reduceLT,Nat.reduceSub,Int.reduceToNat,Int.reduceLE,Int.reduceLT, Int.reduceEq, Int.reduceBEq, setsL, SetsT, or_false, or_true, false_or, true_or, or_self, hus, one_imm', List.length_map, Int.reduceLT, Int.reduceNeg, Int.reduceLE, Int.cast_ofNat_Int, Nat.cast_zero', Nat.cast_one']
  have hwr : 1 ≤ size → size ≤ 4096 → IntKind.i64.wrap (words - size) = words - size := fun h1 h2 => i64_in (by omega) (by omega)
  repeat' (first | (with_reducible apply And.intro) | (with_reducible intro _))
  all_goals
    refine ⟨_, Frz.pure rfl, ?_⟩
    try (rename_i h1 h2 h3 h4; rw [hwr (by omega) (by omega)] at h4)
    congr 2
    rw [Bool.eq_iff_iff, hX]
    simp only [Bool.and_eq_true, beq_iff_eq, true_and, and_true, Bool.false_eq_true, false_iff, not_and, and_imp]
    first | omega | (intros; omega)
theorem rfits_2 (d a b k base size n f regs words : Int) (hw : 0 ≤ words ∧ words ≤ 1048576) : Contract Try.prog 57 [tacA ⟨2, d, a, b, k, base, size, n⟩, I f, I regs, I words] (fun r => r = B (fitsT ⟨2, d, a, b, k, base, size, n⟩ f regs words)) := by
  refine Contract.of_call (VCall.of_body hmix f_scref24_fits (by simp) ?_)
  have hus : usesL ⟨2, d, a, b, k, base, size, n⟩ = [a] := by simp [usesL]
  obtain ⟨x, hx⟩ : ∃ x, fitsT ⟨2, d, a, b, k, base, size, n⟩ f regs words = x := ⟨_, rfl⟩
  rw [hx]
  have hX : (x = true ↔ FitsT ⟨2, d, a, b, k, base, size, n⟩ f regs words) := by rw [← hx]; exact decide_eq_true_iff
  simp only [FitsT, hus, restT, SetsT, Int.reduceEq, or_false, or_true, false_or, true_or, or_self, if_true, if_false, List.mem_cons, List.not_mem_nil, forall_eq_or_imp, forall_eq, false_implies, implies_true, true_and, and_true, Int.reduceLE, List.length_cons, List.length_nil, Nat.reduceAdd, Nat.reduceLeDiff, Nat.le_refl, forall_const, reduceCtorEq, Nat.zero_le] at hX
  cases hd : inB d regs
  · have hx0 : x = false := by
      cases x
      · rfl
      · have := hX.1 rfl; have h2 := of_decide_eq_false hd; omega
    subst hx0
    by_cases h0 : 0 ≤ d
    · simp only [go_sem,Nat.reduceEqDiff,Nat.reduceAdd,Nat.reduceMul,↓reduceIte,↓dreduceIte,reduceCtorEq,Nat.reduceLeDiff,Nat.reduceLT,Nat.reduceSub,Int.reduceToNat,Int.reduceLE,Int.reduceLT, c_scref24_fits, Int.reduceEq, Int.reduceBEq, setsL, SetsT, or_false, or_true, false_or, true_or, or_self, hus, one_imm', List.length_map, Int.reduceLT, Int.reduceNeg, Int.reduceLE]
      refine VCall.of_contract (refsets_c ⟨2, d, a, b, k, base, size, n⟩) (SleL.pure rfl) fun r hr => ?_
      subst hr
      simp only [go_sem,Nat.reduceEqDiff,Nat.reduceAdd,Nat.reduceMul,↓reduceIte,↓dreduceIte,reduceCtorEq,Nat.reduceLeDiff,Nat.reduceLT,Nat.reduceSub,Int.reduceToNat,Int.reduceLE,Int.reduceLT, Int.reduceEq, Int.reduceBEq, setsL, SetsT, or_false, or_true, false_or, true_or, or_self, hus, one_imm', List.length_map, Int.reduceLT, Int.reduceNeg, Int.reduceLE, eq_true h0]
      refine VCall.of_contract (rwithin_c _ _) (SleL.pure rfl) fun r hr => ?_
      subst hr
      simp only [go_sem,Nat.reduceEqDiff,Nat.reduceAdd,Nat.reduceMul,↓reduceIte,↓dreduceIte,reduceCtorEq,Nat.reduceLeDiff,Nat.reduceLT,Nat.reduceSub,Int.reduceToNat,Int.reduceLE,Int.reduceLT, hd]
      exact ⟨_, Frz.pure rfl, rfl⟩
    · simp only [go_sem,Nat.reduceEqDiff,Nat.reduceAdd,Nat.reduceMul,↓reduceIte,↓dreduceIte,reduceCtorEq,Nat.reduceLeDiff,Nat.reduceLT,Nat.reduceSub,Int.reduceToNat,Int.reduceLE,Int.reduceLT, c_scref24_fits, Int.reduceEq, Int.reduceBEq, setsL, SetsT, or_false, or_true, false_or, true_or, or_self, hus, one_imm', List.length_map, Int.reduceLT, Int.reduceNeg, Int.reduceLE]
      refine VCall.of_contract (refsets_c ⟨2, d, a, b, k, base, size, n⟩) (SleL.pure rfl) fun r hr => ?_
      subst hr
      simp only [go_sem,Nat.reduceEqDiff,Nat.reduceAdd,Nat.reduceMul,↓reduceIte,↓dreduceIte,reduceCtorEq,Nat.reduceLeDiff,Nat.reduceLT,Nat.reduceSub,Int.reduceToNat,Int.reduceLE,Int.reduceLT, Int.reduceEq, Int.reduceBEq, setsL, SetsT, or_false, or_true, false_or, true_or, or_self, hus, one_imm', List.length_map, Int.reduceLT, Int.reduceNeg, Int.reduceLE, eq_false h0]
      refine VCall.of_contract (rwithin_c _ _) (SleL.pure rfl) fun r hr => ?_
      subst hr
      simp only [go_sem,Nat.reduceEqDiff,Nat.reduceAdd,Nat.reduceMul,↓reduceIte,↓dreduceIte,reduceCtorEq,Nat.reduceLeDiff,Nat.reduceLT,Nat.reduceSub,Int.reduceToNat,Int.reduceLE,Int.reduceLT, hd]
      exact ⟨_, Frz.pure rfl, rfl⟩
  have h0 := (of_decide_eq_true hd).1
  have h0' := (of_decide_eq_true hd).2
  simp only [go_sem,Nat.reduceEqDiff,Nat.reduceAdd,Nat.reduceMul,↓reduceIte,↓dreduceIte,reduceCtorEq,Nat.reduceLeDiff,Nat.reduceLT,Nat.reduceSub,Int.reduceToNat,Int.reduceLE,Int.reduceLT, c_scref24_fits, Int.reduceEq, Int.reduceBEq, setsL, SetsT, or_false, or_true, false_or, true_or, or_self, hus, one_imm', List.length_map, Int.reduceLT, Int.reduceNeg, Int.reduceLE]
  refine VCall.of_contract (refsets_c ⟨2, d, a, b, k, base, size, n⟩) (SleL.pure rfl) fun r hr => ?_
  subst hr
  simp only [go_sem,Nat.reduceEqDiff,Nat.reduceAdd,Nat.reduceMul,↓reduceIte,↓dreduceIte,reduceCtorEq,Nat.reduceLeDiff,Nat.reduceLT,Nat.reduceSub,Int.reduceToNat,Int.reduceLE,Int.reduceLT, Int.reduceEq, Int.reduceBEq, setsL, SetsT, or_false, or_true, false_or, true_or, or_self, hus, one_imm', List.length_map, Int.reduceLT, Int.reduceNeg, Int.reduceLE, eq_true h0]
  refine VCall.of_contract (rwithin_c _ _) (SleL.pure rfl) fun r hr => ?_
  subst hr
  simp only [go_sem,Nat.reduceEqDiff,Nat.reduceAdd,Nat.reduceMul,↓reduceIte,↓dreduceIte,reduceCtorEq,Nat.reduceLeDiff,Nat.reduceLT,Nat.reduceSub,Int.reduceToNat,Int.reduceLE,Int.reduceLT, Int.reduceEq, Int.reduceBEq, setsL, SetsT, or_false, or_true, false_or, true_or, or_self, hus, one_imm', List.length_map, Int.reduceLT, Int.reduceNeg, Int.reduceLE, hd]
  refine VCall.of_contractN (refuses_c ⟨2, d, a, b, k, base, size, n⟩) ?_ fun r hr => ?_
  · exact ⟨_, _, rfl, Frz.pure rfl, rfl⟩
  subst hr
  simp only [go_sem,Nat.reduceEqDiff,Nat.reduceAdd,Nat.reduceMul,↓reduceIte,↓dreduceIte,reduceCtorEq,Nat.reduceLeDiff,Nat.reduceLT,Nat.reduceSub,Int.reduceToNat,Int.reduceLE,Int.reduceLT, Int.reduceEq, Int.reduceBEq, setsL, SetsT, or_false, or_true, false_or, true_or, or_self, hus, one_imm', List.length_map, Int.reduceLT, Int.reduceNeg, Int.reduceLE]
  refine VW_loop (fun i : Nat => ⟨[(1, I f), (2, I regs), (3, I words), (4, .ptr 0 0 0), (9, .ptr 1 1 0), (10, ints [a]), (11, I i)], [⟨0, 47, 1, tacL ⟨2, d, a, b, k, base, size, n⟩⟩, ⟨1, 47, 1, [I 2, I d, I 0, I 0, I 0, I 0, I 0, U32 0]⟩], 2⟩)
    (fun i => i ≤ 1 ∧ ∀ j < i, inB (([a] : List Int).getD j default) regs = true) (fun i => 1 - i) 0 (Wk.mk (by simp [get_cons]) ⟨[], rfl⟩ (Nat.le_refl _)) ⟨by omega, by omega⟩ ?_
  rintro i ⟨hi, hin⟩
  by_cases hi0 : i = 0
  · subst hi0
    simp only [go_sem,Nat.reduceEqDiff,Nat.reduceAdd,Nat.reduceMul,↓reduceIte,↓dreduceIte,reduceCtorEq,Nat.reduceLeDiff,Nat.reduceLT,Nat.reduceSub,Int.reduceToNat,Int.reduceLE,Int.reduceLT, Int.reduceEq, Int.reduceBEq, setsL, SetsT, or_false, or_true, false_or, true_or, or_self, hus, one_imm', List.length_map, Int.reduceLT, Int.reduceNeg, Int.reduceLE, Int.cast_ofNat_Int, Nat.cast_zero', Nat.cast_one']
    refine VCall.of_contract (rwithin_c _ _) (SleL.pure rfl) fun r hr => ?_
    subst hr
    cases hu : inB a regs
    · simp only [go_sem,Nat.reduceEqDiff,Nat.reduceAdd,Nat.reduceMul,↓reduceIte,↓dreduceIte,reduceCtorEq,Nat.reduceLeDiff,Nat.reduceLT,Nat.reduceSub,Int.reduceToNat,Int.reduceLE,Int.reduceLT, hu]
      refine ⟨_, Frz.pure rfl, ?_⟩
      have h2 := of_decide_eq_false hu
      cases x
      · rfl
      · have := hX.1 rfl; omega
    · simp only [go_sem,Nat.reduceEqDiff,Nat.reduceAdd,Nat.reduceMul,↓reduceIte,↓dreduceIte,reduceCtorEq,Nat.reduceLeDiff,Nat.reduceLT,Nat.reduceSub,Int.reduceToNat,Int.reduceLE,Int.reduceLT, hu, i64_lit1, i64_lit2]
      refine ⟨1, ⟨by omega, fun j hj => ?_⟩, by omega, Wk.mk (by simp [get_cons]) ⟨[], rfl⟩ (Nat.le_refl _)⟩
      by_cases e : j = 0
      · subst e; exact hu
      · exact hin j (by omega)
  obtain rfl : i = 1 := by omega
  have hu0 := of_decide_eq_true (hin 0 (by omega))
  simp only [List.getD_cons_zero, List.getD_cons_succ] at hu0
  simp only [go_sem,Nat.reduceEqDiff,Nat.reduceAdd,Nat.reduceMul,↓reduceIte,↓dreduceIte,reduceCtorEq,Nat.reduceLeDiff,Nat.reduceLT,Nat.reduceSub,Int.reduceToNat,Int.reduceLE,Int.reduceLT, Int.reduceEq, Int.reduceBEq, setsL, SetsT, or_false, or_true, false_or, true_or, or_self, hus, one_imm', List.length_map, Int.reduceLT, Int.reduceNeg, Int.reduceLE, Int.cast_ofNat_Int, Nat.cast_zero', Nat.cast_one']
  have hwr : 1 ≤ size → size ≤ 4096 → IntKind.i64.wrap (words - size) = words - size := fun h1 h2 => i64_in (by omega) (by omega)
  repeat' (first | (with_reducible apply And.intro) | (with_reducible intro _))
  all_goals
    refine ⟨_, Frz.pure rfl, ?_⟩
    try (rename_i h1 h2 h3 h4; rw [hwr (by omega) (by omega)] at h4)
    congr 2
    rw [Bool.eq_iff_iff, hX]
    simp only [Bool.and_eq_true, beq_iff_eq, true_and, and_true, Bool.false_eq_true, false_iff, not_and, and_imp]
    first | omega | (intros; omega)
theorem rfits_3 (d a b k base size n f regs words : Int) (hw : 0 ≤ words ∧ words ≤ 1048576) : Contract Try.prog 57 [tacA ⟨3, d, a, b, k, base, size, n⟩, I f, I regs, I words] (fun r => r = B (fitsT ⟨3, d, a, b, k, base, size, n⟩ f regs words)) := by
  refine Contract.of_call (VCall.of_body hmix f_scref24_fits (by simp) ?_)
  have hus : usesL ⟨3, d, a, b, k, base, size, n⟩ = [a, b] := by simp [usesL]
  obtain ⟨x, hx⟩ : ∃ x, fitsT ⟨3, d, a, b, k, base, size, n⟩ f regs words = x := ⟨_, rfl⟩
  rw [hx]
  have hX : (x = true ↔ FitsT ⟨3, d, a, b, k, base, size, n⟩ f regs words) := by rw [← hx]; exact decide_eq_true_iff
  simp only [FitsT, hus, restT, SetsT, Int.reduceEq, or_false, or_true, false_or, true_or, or_self, if_true, if_false, List.mem_cons, List.not_mem_nil, forall_eq_or_imp, forall_eq, false_implies, implies_true, true_and, and_true, Int.reduceLE, List.length_cons, List.length_nil, Nat.reduceAdd, Nat.reduceLeDiff, Nat.le_refl, forall_const, reduceCtorEq, Nat.zero_le] at hX
  cases hd : inB d regs
  · have hx0 : x = false := by
      cases x
      · rfl
      · have := hX.1 rfl; have h2 := of_decide_eq_false hd; omega
    subst hx0
    by_cases h0 : 0 ≤ d
    · simp only [go_sem,Nat.reduceEqDiff,Nat.reduceAdd,Nat.reduceMul,↓reduceIte,↓dreduceIte,reduceCtorEq,Nat.reduceLeDiff,Nat.reduceLT,Nat.reduceSub,Int.reduceToNat,Int.reduceLE,Int.reduceLT, c_scref24_fits, Int.reduceEq, Int.reduceBEq, setsL, SetsT, or_false, or_true, false_or, true_or, or_self, hus, one_imm', List.length_map, Int.reduceLT, Int.reduceNeg, Int.reduceLE]
      refine VCall.of_contract (refsets_c ⟨3, d, a, b, k, base, size, n⟩) (SleL.pure rfl) fun r hr => ?_
      subst hr
      simp only [go_sem,Nat.reduceEqDiff,Nat.reduceAdd,Nat.reduceMul,↓reduceIte,↓dreduceIte,reduceCtorEq,Nat.reduceLeDiff,Nat.reduceLT,Nat.reduceSub,Int.reduceToNat,Int.reduceLE,Int.reduceLT, Int.reduceEq, Int.reduceBEq, setsL, SetsT, or_false, or_true, false_or, true_or, or_self, hus, one_imm', List.length_map, Int.reduceLT, Int.reduceNeg, Int.reduceLE, eq_true h0]
      refine VCall.of_contract (rwithin_c _ _) (SleL.pure rfl) fun r hr => ?_
      subst hr
      simp only [go_sem,Nat.reduceEqDiff,Nat.reduceAdd,Nat.reduceMul,↓reduceIte,↓dreduceIte,reduceCtorEq,Nat.reduceLeDiff,Nat.reduceLT,Nat.reduceSub,Int.reduceToNat,Int.reduceLE,Int.reduceLT, hd]
      exact ⟨_, Frz.pure rfl, rfl⟩
    · simp only [go_sem,Nat.reduceEqDiff,Nat.reduceAdd,Nat.reduceMul,↓reduceIte,↓dreduceIte,reduceCtorEq,Nat.reduceLeDiff,Nat.reduceLT,Nat.reduceSub,Int.reduceToNat,Int.reduceLE,Int.reduceLT, c_scref24_fits, Int.reduceEq, Int.reduceBEq, setsL, SetsT, or_false, or_true, false_or, true_or, or_self, hus, one_imm', List.length_map, Int.reduceLT, Int.reduceNeg, Int.reduceLE]
      refine VCall.of_contract (refsets_c ⟨3, d, a, b, k, base, size, n⟩) (SleL.pure rfl) fun r hr => ?_
      subst hr
      simp only [go_sem,Nat.reduceEqDiff,Nat.reduceAdd,Nat.reduceMul,↓reduceIte,↓dreduceIte,reduceCtorEq,Nat.reduceLeDiff,Nat.reduceLT,Nat.reduceSub,Int.reduceToNat,Int.reduceLE,Int.reduceLT, Int.reduceEq, Int.reduceBEq, setsL, SetsT, or_false, or_true, false_or, true_or, or_self, hus, one_imm', List.length_map, Int.reduceLT, Int.reduceNeg, Int.reduceLE, eq_false h0]
      refine VCall.of_contract (rwithin_c _ _) (SleL.pure rfl) fun r hr => ?_
      subst hr
      simp only [go_sem,Nat.reduceEqDiff,Nat.reduceAdd,Nat.reduceMul,↓reduceIte,↓dreduceIte,reduceCtorEq,Nat.reduceLeDiff,Nat.reduceLT,Nat.reduceSub,Int.reduceToNat,Int.reduceLE,Int.reduceLT, hd]
      exact ⟨_, Frz.pure rfl, rfl⟩
  have h0 := (of_decide_eq_true hd).1
  have h0' := (of_decide_eq_true hd).2
  simp only [go_sem,Nat.reduceEqDiff,Nat.reduceAdd,Nat.reduceMul,↓reduceIte,↓dreduceIte,reduceCtorEq,Nat.reduceLeDiff,Nat.reduceLT,Nat.reduceSub,Int.reduceToNat,Int.reduceLE,Int.reduceLT, c_scref24_fits, Int.reduceEq, Int.reduceBEq, setsL, SetsT, or_false, or_true, false_or, true_or, or_self, hus, one_imm', List.length_map, Int.reduceLT, Int.reduceNeg, Int.reduceLE]
  refine VCall.of_contract (refsets_c ⟨3, d, a, b, k, base, size, n⟩) (SleL.pure rfl) fun r hr => ?_
  subst hr
  simp only [go_sem,Nat.reduceEqDiff,Nat.reduceAdd,Nat.reduceMul,↓reduceIte,↓dreduceIte,reduceCtorEq,Nat.reduceLeDiff,Nat.reduceLT,Nat.reduceSub,Int.reduceToNat,Int.reduceLE,Int.reduceLT, Int.reduceEq, Int.reduceBEq, setsL, SetsT, or_false, or_true, false_or, true_or, or_self, hus, one_imm', List.length_map, Int.reduceLT, Int.reduceNeg, Int.reduceLE, eq_true h0]
  refine VCall.of_contract (rwithin_c _ _) (SleL.pure rfl) fun r hr => ?_
  subst hr
  simp only [go_sem,Nat.reduceEqDiff,Nat.reduceAdd,Nat.reduceMul,↓reduceIte,↓dreduceIte,reduceCtorEq,Nat.reduceLeDiff,Nat.reduceLT,Nat.reduceSub,Int.reduceToNat,Int.reduceLE,Int.reduceLT, Int.reduceEq, Int.reduceBEq, setsL, SetsT, or_false, or_true, false_or, true_or, or_self, hus, one_imm', List.length_map, Int.reduceLT, Int.reduceNeg, Int.reduceLE, hd]
  refine VCall.of_contractN (refuses_c ⟨3, d, a, b, k, base, size, n⟩) ?_ fun r hr => ?_
  · exact ⟨_, _, rfl, Frz.pure rfl, rfl⟩
  subst hr
  simp only [go_sem,Nat.reduceEqDiff,Nat.reduceAdd,Nat.reduceMul,↓reduceIte,↓dreduceIte,reduceCtorEq,Nat.reduceLeDiff,Nat.reduceLT,Nat.reduceSub,Int.reduceToNat,Int.reduceLE,Int.reduceLT, Int.reduceEq, Int.reduceBEq, setsL, SetsT, or_false, or_true, false_or, true_or, or_self, hus, one_imm', List.length_map, Int.reduceLT, Int.reduceNeg, Int.reduceLE]
  refine VW_loop (fun i : Nat => ⟨[(1, I f), (2, I regs), (3, I words), (4, .ptr 0 0 0), (9, .ptr 1 1 0), (10, ints [a, b]), (11, I i)], [⟨0, 47, 1, tacL ⟨3, d, a, b, k, base, size, n⟩⟩, ⟨1, 47, 1, [I 3, I d, I 0, I 0, I 0, I 0, I 0, U32 0]⟩], 2⟩)
    (fun i => i ≤ 2 ∧ ∀ j < i, inB (([a, b] : List Int).getD j default) regs = true) (fun i => 2 - i) 0 (Wk.mk (by simp [get_cons]) ⟨[], rfl⟩ (Nat.le_refl _)) ⟨by omega, by omega⟩ ?_
  rintro i ⟨hi, hin⟩
  by_cases hi0 : i = 0
  · subst hi0
    simp only [go_sem,Nat.reduceEqDiff,Nat.reduceAdd,Nat.reduceMul,↓reduceIte,↓dreduceIte,reduceCtorEq,Nat.reduceLeDiff,Nat.reduceLT,Nat.reduceSub,Int.reduceToNat,Int.reduceLE,Int.reduceLT, Int.reduceEq, Int.reduceBEq, setsL, SetsT, or_false, or_true, false_or, true_or, or_self, hus, one_imm', List.length_map, Int.reduceLT, Int.reduceNeg, Int.reduceLE, Int.cast_ofNat_Int, Nat.cast_zero', Nat.cast_one']
    refine VCall.of_contract (rwithin_c _ _) (SleL.pure rfl) fun r hr => ?_
    subst hr
    cases hu : inB a regs
    · simp only [go_sem,Nat.reduceEqDiff,Nat.reduceAdd,Nat.reduceMul,↓reduceIte,↓dreduceIte,reduceCtorEq,Nat.reduceLeDiff,Nat.reduceLT,Nat.reduceSub,Int.reduceToNat,Int.reduceLE,Int.reduceLT, hu]
      refine ⟨_, Frz.pure rfl, ?_⟩
      have h2 := of_decide_eq_false hu
      cases x
      · rfl
      · have := hX.1 rfl; omega
    · simp only [go_sem,Nat.reduceEqDiff,Nat.reduceAdd,Nat.reduceMul,↓reduceIte,↓dreduceIte,reduceCtorEq,Nat.reduceLeDiff,Nat.reduceLT,Nat.reduceSub,Int.reduceToNat,Int.reduceLE,Int.reduceLT, hu, i64_lit1, i64_lit2]
      refine ⟨1, ⟨by omega, fun j hj => ?_⟩, by omega, Wk.mk (by simp [get_cons]) ⟨[], rfl⟩ (Nat.le_refl _)⟩
      by_cases e : j = 0
      · subst e; exact hu
      · exact hin j (by omega)
  by_cases hi1 : i = 1
  · subst hi1
    simp only [go_sem,Nat.reduceEqDiff,Nat.reduceAdd,Nat.reduceMul,↓reduceIte,↓dreduceIte,reduceCtorEq,Nat.reduceLeDiff,Nat.reduceLT,Nat.reduceSub,Int.reduceToNat,Int.reduceLE,Int.reduceLT, Int.reduceEq, Int.reduceBEq, setsL, SetsT, or_false, or_true, false_or, true_or, or_self, hus, one_imm', List.length_map, Int.reduceLT, Int.reduceNeg, Int.reduceLE, Int.cast_ofNat_Int, Nat.cast_zero', Nat.cast_one']
    refine VCall.of_contract (rwithin_c _ _) (SleL.pure rfl) fun r hr => ?_
    subst hr
    cases hu : inB b regs
    · simp only [go_sem,Nat.reduceEqDiff,Nat.reduceAdd,Nat.reduceMul,↓reduceIte,↓dreduceIte,reduceCtorEq,Nat.reduceLeDiff,Nat.reduceLT,Nat.reduceSub,Int.reduceToNat,Int.reduceLE,Int.reduceLT, hu]
      refine ⟨_, Frz.pure rfl, ?_⟩
      have h2 := of_decide_eq_false hu
      cases x
      · rfl
      · have := hX.1 rfl; omega
    · simp only [go_sem,Nat.reduceEqDiff,Nat.reduceAdd,Nat.reduceMul,↓reduceIte,↓dreduceIte,reduceCtorEq,Nat.reduceLeDiff,Nat.reduceLT,Nat.reduceSub,Int.reduceToNat,Int.reduceLE,Int.reduceLT, hu, i64_lit1, i64_lit2]
      refine ⟨2, ⟨by omega, fun j hj => ?_⟩, by omega, Wk.mk (by simp [get_cons]) ⟨[], rfl⟩ (Nat.le_refl _)⟩
      by_cases e : j = 1
      · subst e; exact hu
      · exact hin j (by omega)
  obtain rfl : i = 2 := by omega
  have hu0 := of_decide_eq_true (hin 0 (by omega))
  simp only [List.getD_cons_zero, List.getD_cons_succ] at hu0
  have hu1 := of_decide_eq_true (hin 1 (by omega))
  simp only [List.getD_cons_zero, List.getD_cons_succ] at hu1
  simp only [go_sem,Nat.reduceEqDiff,Nat.reduceAdd,Nat.reduceMul,↓reduceIte,↓dreduceIte,reduceCtorEq,Nat.reduceLeDiff,Nat.reduceLT,Nat.reduceSub,Int.reduceToNat,Int.reduceLE,Int.reduceLT, Int.reduceEq, Int.reduceBEq, setsL, SetsT, or_false, or_true, false_or, true_or, or_self, hus, one_imm', List.length_map, Int.reduceLT, Int.reduceNeg, Int.reduceLE, Int.cast_ofNat_Int, Nat.cast_zero', Nat.cast_one']
  have hwr : 1 ≤ size → size ≤ 4096 → IntKind.i64.wrap (words - size) = words - size := fun h1 h2 => i64_in (by omega) (by omega)
  repeat' (first | (with_reducible apply And.intro) | (with_reducible intro _))
  all_goals
    refine ⟨_, Frz.pure rfl, ?_⟩
    try (rename_i h1 h2 h3 h4; rw [hwr (by omega) (by omega)] at h4)
    congr 2
    rw [Bool.eq_iff_iff, hX]
    simp only [Bool.and_eq_true, beq_iff_eq, true_and, and_true, Bool.false_eq_true, false_iff, not_and, and_imp]
    first | omega | (intros; omega)
theorem rfits_4 (d a b k base size n f regs words : Int) (hw : 0 ≤ words ∧ words ≤ 1048576) : Contract Try.prog 57 [tacA ⟨4, d, a, b, k, base, size, n⟩, I f, I regs, I words] (fun r => r = B (fitsT ⟨4, d, a, b, k, base, size, n⟩ f regs words)) := by
  refine Contract.of_call (VCall.of_body hmix f_scref24_fits (by simp) ?_)
  have hus : usesL ⟨4, d, a, b, k, base, size, n⟩ = [] := by simp [usesL]
  obtain ⟨x, hx⟩ : ∃ x, fitsT ⟨4, d, a, b, k, base, size, n⟩ f regs words = x := ⟨_, rfl⟩
  rw [hx]
  have hX : (x = true ↔ FitsT ⟨4, d, a, b, k, base, size, n⟩ f regs words) := by rw [← hx]; exact decide_eq_true_iff
  simp only [FitsT, hus, restT, SetsT, Int.reduceEq, or_false, or_true, false_or, true_or, or_self, if_true, if_false, List.mem_cons, List.not_mem_nil, forall_eq_or_imp, forall_eq, false_implies, implies_true, true_and, and_true, Int.reduceLE, List.length_cons, List.length_nil, Nat.reduceAdd, Nat.reduceLeDiff, Nat.le_refl, forall_const, reduceCtorEq, Nat.zero_le] at hX
  cases hd : inB d regs
  · have hx0 : x = false := by
      cases x
      · rfl
      · have := hX.1 rfl; have h2 := of_decide_eq_false hd; omega
    subst hx0
    by_cases h0 : 0 ≤ d
    · simp only [go_sem,Nat.reduceEqDiff,Nat.reduceAdd,Nat.reduceMul,↓reduceIte,↓dreduceIte,reduceCtorEq,Nat.reduceLeDiff,Nat.reduceLT,Nat.reduceSub,Int.reduceToNat,Int.reduceLE,Int.reduceLT, c_scref24_fits, Int.reduceEq, Int.reduceBEq, setsL, SetsT, or_false, or_true, false_or, true_or, or_self, hus, one_imm', List.length_map, Int.reduceLT, Int.reduceNeg, Int.reduceLE]
      refine VCall.of_contract (refsets_c ⟨4, d, a, b, k, base, size, n⟩) (SleL.pure rfl) fun r hr => ?_
      subst hr
      simp only [go_sem,Nat.reduceEqDiff,Nat.reduceAdd,Nat.reduceMul,↓reduceIte,↓dreduceIte,reduceCtorEq,Nat.reduceLeDiff,Nat.reduceLT,Nat.reduceSub,Int.reduceToNat,Int.reduceLE,Int.reduceLT, Int.reduceEq, Int.reduceBEq, setsL, SetsT, or_false, or_true, false_or, true_or, or_self, hus, one_imm', List.length_map, Int.reduceLT, Int.reduceNeg, Int.reduceLE, eq_true h0]
      refine VCall.of_contract (rwithin_c _ _) (SleL.pure rfl) fun r hr => ?_
      subst hr
      simp only [go_sem,Nat.reduceEqDiff,Nat.reduceAdd,Nat.reduceMul,↓reduceIte,↓dreduceIte,reduceCtorEq,Nat.reduceLeDiff,Nat.reduceLT,Nat.reduceSub,Int.reduceToNat,Int.reduceLE,Int.reduceLT, hd]
      exact ⟨_, Frz.pure rfl, rfl⟩
    · simp only [go_sem,Nat.reduceEqDiff,Nat.reduceAdd,Nat.reduceMul,↓reduceIte,↓dreduceIte,reduceCtorEq,Nat.reduceLeDiff,Nat.reduceLT,Nat.reduceSub,Int.reduceToNat,Int.reduceLE,Int.reduceLT, c_scref24_fits, Int.reduceEq, Int.reduceBEq, setsL, SetsT, or_false, or_true, false_or, true_or, or_self, hus, one_imm', List.length_map, Int.reduceLT, Int.reduceNeg, Int.reduceLE]
      refine VCall.of_contract (refsets_c ⟨4, d, a, b, k, base, size, n⟩) (SleL.pure rfl) fun r hr => ?_
      subst hr
      simp only [go_sem,Nat.reduceEqDiff,Nat.reduceAdd,Nat.reduceMul,↓reduceIte,↓dreduceIte,reduceCtorEq,Nat.reduceLeDiff,Nat.reduceLT,Nat.reduceSub,Int.reduceToNat,Int.reduceLE,Int.reduceLT, Int.reduceEq, Int.reduceBEq, setsL, SetsT, or_false, or_true, false_or, true_or, or_self, hus, one_imm', List.length_map, Int.reduceLT, Int.reduceNeg, Int.reduceLE, eq_false h0]
      refine VCall.of_contract (rwithin_c _ _) (SleL.pure rfl) fun r hr => ?_
      subst hr
      simp only [go_sem,Nat.reduceEqDiff,Nat.reduceAdd,Nat.reduceMul,↓reduceIte,↓dreduceIte,reduceCtorEq,Nat.reduceLeDiff,Nat.reduceLT,Nat.reduceSub,Int.reduceToNat,Int.reduceLE,Int.reduceLT, hd]
      exact ⟨_, Frz.pure rfl, rfl⟩
  have h0 := (of_decide_eq_true hd).1
  have h0' := (of_decide_eq_true hd).2
  simp only [go_sem,Nat.reduceEqDiff,Nat.reduceAdd,Nat.reduceMul,↓reduceIte,↓dreduceIte,reduceCtorEq,Nat.reduceLeDiff,Nat.reduceLT,Nat.reduceSub,Int.reduceToNat,Int.reduceLE,Int.reduceLT, c_scref24_fits, Int.reduceEq, Int.reduceBEq, setsL, SetsT, or_false, or_true, false_or, true_or, or_self, hus, one_imm', List.length_map, Int.reduceLT, Int.reduceNeg, Int.reduceLE]
  refine VCall.of_contract (refsets_c ⟨4, d, a, b, k, base, size, n⟩) (SleL.pure rfl) fun r hr => ?_
  subst hr
  simp only [go_sem,Nat.reduceEqDiff,Nat.reduceAdd,Nat.reduceMul,↓reduceIte,↓dreduceIte,reduceCtorEq,Nat.reduceLeDiff,Nat.reduceLT,Nat.reduceSub,Int.reduceToNat,Int.reduceLE,Int.reduceLT, Int.reduceEq, Int.reduceBEq, setsL, SetsT, or_false, or_true, false_or, true_or, or_self, hus, one_imm', List.length_map, Int.reduceLT, Int.reduceNeg, Int.reduceLE, eq_true h0]
  refine VCall.of_contract (rwithin_c _ _) (SleL.pure rfl) fun r hr => ?_
  subst hr
  simp only [go_sem,Nat.reduceEqDiff,Nat.reduceAdd,Nat.reduceMul,↓reduceIte,↓dreduceIte,reduceCtorEq,Nat.reduceLeDiff,Nat.reduceLT,Nat.reduceSub,Int.reduceToNat,Int.reduceLE,Int.reduceLT, Int.reduceEq, Int.reduceBEq, setsL, SetsT, or_false, or_true, false_or, true_or, or_self, hus, one_imm', List.length_map, Int.reduceLT, Int.reduceNeg, Int.reduceLE, hd]
  refine VCall.of_contractN (refuses_c ⟨4, d, a, b, k, base, size, n⟩) ?_ fun r hr => ?_
  · exact ⟨_, _, rfl, Frz.pure rfl, rfl⟩
  subst hr
  simp only [go_sem,Nat.reduceEqDiff,Nat.reduceAdd,Nat.reduceMul,↓reduceIte,↓dreduceIte,reduceCtorEq,Nat.reduceLeDiff,Nat.reduceLT,Nat.reduceSub,Int.reduceToNat,Int.reduceLE,Int.reduceLT, Int.reduceEq, Int.reduceBEq, setsL, SetsT, or_false, or_true, false_or, true_or, or_self, hus, one_imm', List.length_map, Int.reduceLT, Int.reduceNeg, Int.reduceLE]
  refine VW_loop (fun i : Nat => ⟨[(1, I f), (2, I regs), (3, I words), (4, .ptr 0 0 0), (9, .ptr 1 1 0), (10, ints []), (11, I i)], [⟨0, 47, 1, tacL ⟨4, d, a, b, k, base, size, n⟩⟩, ⟨1, 47, 1, [I 4, I d, I 0, I 0, I 0, I 0, I 0, U32 0]⟩], 2⟩)
    (fun i => i ≤ 0 ∧ ∀ j < i, inB (([] : List Int).getD j default) regs = true) (fun i => 0 - i) 0 (Wk.mk (by simp [get_cons]) ⟨[], rfl⟩ (Nat.le_refl _)) ⟨by omega, by omega⟩ ?_
  rintro i ⟨hi, hin⟩
  obtain rfl : i = 0 := by omega
  simp only [go_sem,Nat.reduceEqDiff,Nat.reduceAdd,Nat.reduceMul,↓reduceIte,↓dreduceIte,reduceCtorEq,Nat.reduceLeDiff,Nat.reduceLT,Nat.reduceSub,Int.reduceToNat,Int.reduceLE,Int.reduceLT, Int.reduceEq, Int.reduceBEq, setsL, SetsT, or_false, or_true, false_or, true_or, or_self, hus, one_imm', List.length_map, Int.reduceLT, Int.reduceNeg, Int.reduceLE, Int.cast_ofNat_Int, Nat.cast_zero', Nat.cast_one']
  refine VCall.of_contract (rwithin_c _ _) (SleL.pure rfl) fun r hr => ?_
  subst hr
  cases hb : inB base words
  · have hb' := of_decide_eq_false hb
    simp only [go_sem,Nat.reduceEqDiff,Nat.reduceAdd,Nat.reduceMul,↓reduceIte,↓dreduceIte,reduceCtorEq,Nat.reduceLeDiff,Nat.reduceLT,Nat.reduceSub,Int.reduceToNat,Int.reduceLE,Int.reduceLT, hb]
    refine ⟨_, Frz.pure rfl, ?_⟩
    congr 2
    rw [Bool.eq_iff_iff, hX]
    simp only [Bool.and_eq_true, beq_iff_eq, true_and, and_true, Bool.false_eq_true, false_iff, not_and, and_imp]
    first | omega | (intros; omega)
  · have hb' := of_decide_eq_true hb
    simp only [go_sem,Nat.reduceEqDiff,Nat.reduceAdd,Nat.reduceMul,↓reduceIte,↓dreduceIte,reduceCtorEq,Nat.reduceLeDiff,Nat.reduceLT,Nat.reduceSub,Int.reduceToNat,Int.reduceLE,Int.reduceLT, hb]
    refine ⟨_, Frz.pure rfl, ?_⟩
    congr 2
    rw [Bool.eq_iff_iff, hX]
    simp only [Bool.and_eq_true, beq_iff_eq, true_and, and_true, Bool.false_eq_true, false_iff, not_and, and_imp]
    first | omega | (intros; omega)
theorem rfits_5 (d a b k base size n f regs words : Int) (hw : 0 ≤ words ∧ words ≤ 1048576) : Contract Try.prog 57 [tacA ⟨5, d, a, b, k, base, size, n⟩, I f, I regs, I words] (fun r => r = B (fitsT ⟨5, d, a, b, k, base, size, n⟩ f regs words)) := by
  refine Contract.of_call (VCall.of_body hmix f_scref24_fits (by simp) ?_)
  have hus : usesL ⟨5, d, a, b, k, base, size, n⟩ = [a] := by simp [usesL]
  obtain ⟨x, hx⟩ : ∃ x, fitsT ⟨5, d, a, b, k, base, size, n⟩ f regs words = x := ⟨_, rfl⟩
  rw [hx]
  have hX : (x = true ↔ FitsT ⟨5, d, a, b, k, base, size, n⟩ f regs words) := by rw [← hx]; exact decide_eq_true_iff
  simp only [FitsT, hus, restT, SetsT, Int.reduceEq, or_false, or_true, false_or, true_or, or_self, if_true, if_false, List.mem_cons, List.not_mem_nil, forall_eq_or_imp, forall_eq, false_implies, implies_true, true_and, and_true, Int.reduceLE, List.length_cons, List.length_nil, Nat.reduceAdd, Nat.reduceLeDiff, Nat.le_refl, forall_const, reduceCtorEq, Nat.zero_le] at hX
  simp only [go_sem,Nat.reduceEqDiff,Nat.reduceAdd,Nat.reduceMul,↓reduceIte,↓dreduceIte,reduceCtorEq,Nat.reduceLeDiff,Nat.reduceLT,Nat.reduceSub,Int.reduceToNat,Int.reduceLE,Int.reduceLT, c_scref24_fits, Int.reduceEq, Int.reduceBEq, setsL, SetsT, or_false, or_true, false_or, true_or, or_self, hus, one_imm', List.length_map, Int.reduceLT, Int.reduceNeg, Int.reduceLE]
  refine VCall.of_contract (refsets_c ⟨5, d, a, b, k, base, size, n⟩) (SleL.pure rfl) fun r hr => ?_
  subst hr
  simp only [go_sem,Nat.reduceEqDiff,Nat.reduceAdd,Nat.reduceMul,↓reduceIte,↓dreduceIte,reduceCtorEq,Nat.reduceLeDiff,Nat.reduceLT,Nat.reduceSub,Int.reduceToNat,Int.reduceLE,Int.reduceLT, Int.reduceEq, Int.reduceBEq, setsL, SetsT, or_false, or_true, false_or, true_or, or_self, hus, one_imm', List.length_map, Int.reduceLT, Int.reduceNeg, Int.reduceLE]
  refine VCall.of_contractN (refuses_c ⟨5, d, a, b, k, base, size, n⟩) ?_ fun r hr => ?_
  · exact ⟨_, _, rfl, Frz.pure rfl, rfl⟩
  subst hr
  simp only [go_sem,Nat.reduceEqDiff,Nat.reduceAdd,Nat.reduceMul,↓reduceIte,↓dreduceIte,reduceCtorEq,Nat.reduceLeDiff,Nat.reduceLT,Nat.reduceSub,Int.reduceToNat,Int.reduceLE,Int.reduceLT, Int.reduceEq, Int.reduceBEq, setsL, SetsT, or_false, or_true, false_or, true_or, or_self, hus, one_imm', List.length_map, Int.reduceLT, Int.reduceNeg, Int.reduceLE]
  refine VW_loop (fun i : Nat => ⟨[(1, I f), (2, I regs), (3, I words), (4, .ptr 0 0 0), (9, .ptr 1 1 0), (10, ints [a]), (11, I i)], [⟨0, 47, 1, tacL ⟨5, d, a, b, k, base, size, n⟩⟩, ⟨1, 47, 1, [I 5, I 0, I 0, I 0, I 0, I 0, I 0, U32 0]⟩], 2⟩)
    (fun i => i ≤ 1 ∧ ∀ j < i, inB (([a] : List Int).getD j default) regs = true) (fun i => 1 - i) 0 (Wk.mk (by simp [get_cons]) ⟨[], rfl⟩ (Nat.le_refl _)) ⟨by omega, by omega⟩ ?_
  rintro i ⟨hi, hin⟩
  by_cases hi0 : i = 0
  · subst hi0
    simp only [go_sem,Nat.reduceEqDiff,Nat.reduceAdd,Nat.reduceMul,↓reduceIte,↓dreduceIte,reduceCtorEq,Nat.reduceLeDiff,Nat.reduceLT,Nat.reduceSub,Int.reduceToNat,Int.reduceLE,Int.reduceLT, Int.reduceEq, Int.reduceBEq, setsL, SetsT, or_false, or_true, false_or, true_or, or_self, hus, one_imm', List.length_map, Int.reduceLT, Int.reduceNeg, Int.reduceLE, Int.cast_ofNat_Int, Nat.cast_zero', Nat.cast_one']
    refine VCall.of_contract (rwithin_c _ _) (SleL.pure rfl) fun r hr => ?_
    subst hr
    cases hu : inB a regs
    · simp only [go_sem,Nat.reduceEqDiff,Nat.reduceAdd,Nat.reduceMul,↓reduceIte,↓dreduceIte,reduceCtorEq,Nat.reduceLeDiff,Nat.reduceLT,Nat.reduceSub,Int.reduceToNat,Int.reduceLE,Int.reduceLT, hu]
      refine ⟨_, Frz.pure rfl, ?_⟩
      have h2 := of_decide_eq_false hu
      cases x
      · rfl
      · have := hX.1 rfl; omega
    · simp only [go_sem,Nat.reduceEqDiff,Nat.reduceAdd,Nat.reduceMul,↓reduceIte,↓dreduceIte,reduceCtorEq,Nat.reduceLeDiff,Nat.reduceLT,Nat.reduceSub,Int.reduceToNat,Int.reduceLE,Int.reduceLT, hu, i64_lit1, i64_lit2]
      refine ⟨1, ⟨by omega, fun j hj => ?_⟩, by omega, Wk.mk (by simp [get_cons]) ⟨[], rfl⟩ (Nat.le_refl _)⟩
      by_cases e : j = 0
      · subst e; exact hu
      · exact hin j (by omega)
  obtain rfl : i = 1 := by omega
  have hu0 := of_decide_eq_true (hin 0 (by omega))
  simp only [List.getD_cons_zero, List.getD_cons_succ] at hu0
  simp only [go_sem,Nat.reduceEqDiff,Nat.reduceAdd,Nat.reduceMul,↓reduceIte,↓dreduceIte,reduceCtorEq,Nat.reduceLeDiff,Nat.reduceLT,Nat.reduceSub,Int.reduceToNat,Int.reduceLE,Int.reduceLT, Int.reduceEq, Int.reduceBEq, setsL, SetsT, or_false, or_true, false_or, true_or, or_self, hus, one_imm', List.length_map, Int.reduceLT, Int.reduceNeg, Int.reduceLE, Int.cast_ofNat_Int, Nat.cast_zero', Nat.cast_one']
  refine VCall.of_contract (rwithin_c _ _) (SleL.pure rfl) fun r hr => ?_
  subst hr
  cases hb : inB base words
  · have hb' := of_decide_eq_false hb
    simp only [go_sem,Nat.reduceEqDiff,Nat.reduceAdd,Nat.reduceMul,↓reduceIte,↓dreduceIte,reduceCtorEq,Nat.reduceLeDiff,Nat.reduceLT,Nat.reduceSub,Int.reduceToNat,Int.reduceLE,Int.reduceLT, hb]
    refine ⟨_, Frz.pure rfl, ?_⟩
    congr 2
    rw [Bool.eq_iff_iff, hX]
    simp only [Bool.and_eq_true, beq_iff_eq, true_and, and_true, Bool.false_eq_true, false_iff, not_and, and_imp]
    first | omega | (intros; omega)
  · have hb' := of_decide_eq_true hb
    simp only [go_sem,Nat.reduceEqDiff,Nat.reduceAdd,Nat.reduceMul,↓reduceIte,↓dreduceIte,reduceCtorEq,Nat.reduceLeDiff,Nat.reduceLT,Nat.reduceSub,Int.reduceToNat,Int.reduceLE,Int.reduceLT, hb]
    refine ⟨_, Frz.pure rfl, ?_⟩
    congr 2
    rw [Bool.eq_iff_iff, hX]
    simp only [Bool.and_eq_true, beq_iff_eq, true_and, and_true, Bool.false_eq_true, false_iff, not_and, and_imp]
    first | omega | (intros; omega)
theorem rfits_6 (d a b k base size n f regs words : Int) (hw : 0 ≤ words ∧ words ≤ 1048576) : Contract Try.prog 57 [tacA ⟨6, d, a, b, k, base, size, n⟩, I f, I regs, I words] (fun r => r = B (fitsT ⟨6, d, a, b, k, base, size, n⟩ f regs words)) := by
  refine Contract.of_call (VCall.of_body hmix f_scref24_fits (by simp) ?_)
  have hus : usesL ⟨6, d, a, b, k, base, size, n⟩ = [a] := by simp [usesL]
  obtain ⟨x, hx⟩ : ∃ x, fitsT ⟨6, d, a, b, k, base, size, n⟩ f regs words = x := ⟨_, rfl⟩
  rw [hx]
  have hX : (x = true ↔ FitsT ⟨6, d, a, b, k, base, size, n⟩ f regs words) := by rw [← hx]; exact decide_eq_true_iff
  simp only [FitsT, hus, restT, SetsT, Int.reduceEq, or_false, or_true, false_or, true_or, or_self, if_true, if_false, List.mem_cons, List.not_mem_nil, forall_eq_or_imp, forall_eq, false_implies, implies_true, true_and, and_true, Int.reduceLE, List.length_cons, List.length_nil, Nat.reduceAdd, Nat.reduceLeDiff, Nat.le_refl, forall_const, reduceCtorEq, Nat.zero_le] at hX
  cases hd : inB d regs
  · have hx0 : x = false := by
      cases x
      · rfl
      · have := hX.1 rfl; have h2 := of_decide_eq_false hd; omega
    subst hx0
    by_cases h0 : 0 ≤ d
    · simp only [go_sem,Nat.reduceEqDiff,Nat.reduceAdd,Nat.reduceMul,↓reduceIte,↓dreduceIte,reduceCtorEq,Nat.reduceLeDiff,Nat.reduceLT,Nat.reduceSub,Int.reduceToNat,Int.reduceLE,Int.reduceLT, c_scref24_fits, Int.reduceEq, Int.reduceBEq, setsL, SetsT, or_false, or_true, false_or, true_or, or_self, hus, one_imm', List.length_map, Int.reduceLT, Int.reduceNeg, Int.reduceLE]
      refine VCall.of_contract (refsets_c ⟨6, d, a, b, k, base, size, n⟩) (SleL.pure rfl) fun r hr => ?_
      subst hr
      simp only [go_sem,Nat.reduceEqDiff,Nat.reduceAdd,Nat.reduceMul,↓reduceIte,↓dreduceIte,reduceCtorEq,Nat.reduceLeDiff,Nat.reduceLT,Nat.reduceSub,Int.reduceToNat,Int.reduceLE,Int.reduceLT, Int.reduceEq, Int.reduceBEq, setsL, SetsT, or_false, or_true, false_or, true_or, or_self, hus, one_imm', List.length_map, Int.reduceLT, Int.reduceNeg, Int.reduceLE, eq_true h0]
      refine VCall.of_contract (rwithin_c _ _) (SleL.pure rfl) fun r hr => ?_
      subst hr
      simp only [go_sem,Nat.reduceEqDiff,Nat.reduceAdd,Nat.reduceMul,↓reduceIte,↓dreduceIte,reduceCtorEq,Nat.reduceLeDiff,Nat.reduceLT,Nat.reduceSub,Int.reduceToNat,Int.reduceLE,Int.reduceLT, hd]
      exact ⟨_, Frz.pure rfl, rfl⟩
    · simp only [go_sem,Nat.reduceEqDiff,Nat.reduceAdd,Nat.reduceMul,↓reduceIte,↓dreduceIte,reduceCtorEq,Nat.reduceLeDiff,Nat.reduceLT,Nat.reduceSub,Int.reduceToNat,Int.reduceLE,Int.reduceLT, c_scref24_fits, Int.reduceEq, Int.reduceBEq, setsL, SetsT, or_false, or_true, false_or, true_or, or_self, hus, one_imm', List.length_map, Int.reduceLT, Int.reduceNeg, Int.reduceLE]
      refine VCall.of_contract (refsets_c ⟨6, d, a, b, k, base, size, n⟩) (SleL.pure rfl) fun r hr => ?_
      subst hr
      simp only [go_sem,Nat.reduceEqDiff,Nat.reduceAdd,Nat.reduceMul,↓reduceIte,↓dreduceIte,reduceCtorEq,Nat.reduceLeDiff,Nat.reduceLT,Nat.reduceSub,Int.reduceToNat,Int.reduceLE,Int.reduceLT, Int.reduceEq, Int.reduceBEq, setsL, SetsT, or_false, or_true, false_or, true_or, or_self, hus, one_imm', List.length_map, Int.reduceLT, Int.reduceNeg, Int.reduceLE, eq_false h0]
      refine VCall.of_contract (rwithin_c _ _) (SleL.pure rfl) fun r hr => ?_
      subst hr
      simp only [go_sem,Nat.reduceEqDiff,Nat.reduceAdd,Nat.reduceMul,↓reduceIte,↓dreduceIte,reduceCtorEq,Nat.reduceLeDiff,Nat.reduceLT,Nat.reduceSub,Int.reduceToNat,Int.reduceLE,Int.reduceLT, hd]
      exact ⟨_, Frz.pure rfl, rfl⟩
  have h0 := (of_decide_eq_true hd).1
  have h0' := (of_decide_eq_true hd).2
  simp only [go_sem,Nat.reduceEqDiff,Nat.reduceAdd,Nat.reduceMul,↓reduceIte,↓dreduceIte,reduceCtorEq,Nat.reduceLeDiff,Nat.reduceLT,Nat.reduceSub,Int.reduceToNat,Int.reduceLE,Int.reduceLT, c_scref24_fits, Int.reduceEq, Int.reduceBEq, setsL, SetsT, or_false, or_true, false_or, true_or, or_self, hus, one_imm', List.length_map, Int.reduceLT, Int.reduceNeg, Int.reduceLE]
  refine VCall.of_contract (refsets_c ⟨6, d, a, b, k, base, size, n⟩) (SleL.pure rfl) fun r hr => ?_
  subst hr
  simp only [go_sem,Nat.reduceEqDiff,Nat.reduceAdd,Nat.reduceMul,↓reduceIte,↓dreduceIte,reduceCtorEq,Nat.reduceLeDiff,Nat.reduceLT,Nat.reduceSub,Int.reduceToNat,Int.reduceLE,Int.reduceLT, Int.reduceEq, Int.reduceBEq, setsL, SetsT, or_false, or_true, false_or, true_or, or_self, hus, one_imm', List.length_map, Int.reduceLT, Int.reduceNeg, Int.reduceLE, eq_true h0]
  refine VCall.of_contract (rwithin_c _ _) (SleL.pure rfl) fun r hr => ?_
  subst hr
  simp only [go_sem,Nat.reduceEqDiff,Nat.reduceAdd,Nat.reduceMul,↓reduceIte,↓dreduceIte,reduceCtorEq,Nat.reduceLeDiff,Nat.reduceLT,Nat.reduceSub,Int.reduceToNat,Int.reduceLE,Int.reduceLT, Int.reduceEq, Int.reduceBEq, setsL, SetsT, or_false, or_true, false_or, true_or, or_self, hus, one_imm', List.length_map, Int.reduceLT, Int.reduceNeg, Int.reduceLE, hd]
  refine VCall.of_contractN (refuses_c ⟨6, d, a, b, k, base, size, n⟩) ?_ fun r hr => ?_
  · exact ⟨_, _, rfl, Frz.pure rfl, rfl⟩
  subst hr
  simp only [go_sem,Nat.reduceEqDiff,Nat.reduceAdd,Nat.reduceMul,↓reduceIte,↓dreduceIte,reduceCtorEq,Nat.reduceLeDiff,Nat.reduceLT,Nat.reduceSub,Int.reduceToNat,Int.reduceLE,Int.reduceLT, Int.reduceEq, Int.reduceBEq, setsL, SetsT, or_false, or_true, false_or, true_or, or_self, hus, one_imm', List.length_map, Int.reduceLT, Int.reduceNeg, Int.reduceLE]
  refine VW_loop (fun i : Nat => ⟨[(1, I f), (2, I regs), (3, I words), (4, .ptr 0 0 0), (9, .ptr 1 1 0), (10, ints [a]), (11, I i)], [⟨0, 47, 1, tacL ⟨6, d, a, b, k, base, size, n⟩⟩, ⟨1, 47, 1, [I 6, I d, I 0, I 0, I 0, I 0, I 0, U32 0]⟩], 2⟩)
    (fun i => i ≤ 1 ∧ ∀ j < i, inB (([a] : List Int).getD j default) regs = true) (fun i => 1 - i) 0 (Wk.mk (by simp [get_cons]) ⟨[], rfl⟩ (Nat.le_refl _)) ⟨by omega, by omega⟩ ?_
  rintro i ⟨hi, hin⟩
  by_cases hi0 : i = 0
  · subst hi0
    simp only [go_sem,Nat.reduceEqDiff,Nat.reduceAdd,Nat.reduceMul,↓reduceIte,↓dreduceIte,reduceCtorEq,Nat.reduceLeDiff,Nat.reduceLT,Nat.reduceSub,Int.reduceToNat,Int.reduceLE,Int.reduceLT, Int.reduceEq, Int.reduceBEq, setsL, SetsT, or_false, or_true, false_or, true_or, or_self, hus, one_imm', List.length_map, Int.reduceLT, Int.reduceNeg, Int.reduceLE, Int.cast_ofNat_Int, Nat.cast_zero', Nat.cast_one']
    refine VCall.of_contract (rwithin_c _ _) (SleL.pure rfl) fun r hr => ?_
    subst hr
    cases hu : inB a regs
    · simp only [go_sem,Nat.reduceEqDiff,Nat.reduceAdd,Nat.reduceMul,↓reduceIte,↓dreduceIte,reduceCtorEq,Nat.reduceLeDiff,Nat.reduceLT,Nat.reduceSub,Int.reduceToNat,Int.reduceLE,Int.reduceLT, hu]
      refine ⟨_, Frz.pure rfl, ?_⟩
      have h2 := of_decide_eq_false hu
      cases x
      · rfl
      · have := hX.1 rfl; omega
    · simp only [go_sem,Nat.reduceEqDiff,Nat.reduceAdd,Nat.reduceMul,↓reduceIte,↓dreduceIte,reduceCtorEq,Nat.reduceLeDiff,Nat.reduceLT,Nat.reduceSub,Int.reduceToNat,Int.reduceLE,Int.reduceLT, hu, i64_lit1, i64_lit2]
      refine ⟨1, ⟨by omega, fun j hj => ?_⟩, by omega, Wk.mk (by simp [get_cons]) ⟨[], rfl⟩ (Nat.le_refl _)⟩
      by_cases e : j = 0
      · subst e; exact hu
      · exact hin j (by omega)
  obtain rfl : i = 1 := by omega
  have hu0 := of_decide_eq_true (hin 0 (by omega))
  simp only [List.getD_cons_zero, List.getD_cons_succ] at hu0
  simp only [go_sem,Nat.reduceEqDiff,Nat.reduceAdd,Nat.reduceMul,↓reduceIte,↓dreduceIte,reduceCtorEq,Nat.reduceLeDiff,Nat.reduceLT,Nat.reduceSub,Int.reduceToNat,Int.reduceLE,Int.reduceLT, Int.reduceEq, Int.reduceBEq, setsL, SetsT, or_false, or_true, false_or, true_or, or_self, hus, one_imm', List.length_map, Int.reduceLT, Int.reduceNeg, Int.reduceLE, Int.cast_ofNat_Int, Nat.cast_zero', Nat.cast_one']
  have hwr : 1 ≤ size → size ≤ 4096 → IntKind.i64.wrap (words - size) = words - size := fun h1 h2 => i64_in (by omega) (by omega)
  repeat' (first | (with_reducible apply And.intro) | (with_reducible intro _))
  all_goals
    refine ⟨_, Frz.pure rfl, ?_⟩
    try (rename_i h1 h2 h3 h4; rw [hwr (by omega) (by omega)] at h4)
    congr 2
    rw [Bool.eq_iff_iff, hX]
    simp only [Bool.and_eq_true, beq_iff_eq, true_and, and_true, Bool.false_eq_true, false_iff, not_and, and_imp]
    first | omega | (intros; omega)
theorem rfits_7 (d a b k base size n f regs words : Int) (hw : 0 ≤ words ∧ words ≤ 1048576) : Contract Try.prog 57 [tacA ⟨7, d, a, b, k, base, size, n⟩, I f, I regs, I words] (fun r => r = B (fitsT ⟨7, d, a, b, k, base, size, n⟩ f regs words)) := by
  refine Contract.of_call (VCall.of_body hmix f_scref24_fits (by simp) ?_)
  have hus : usesL ⟨7, d, a, b, k, base, size, n⟩ = [a, b] := by simp [usesL]
  obtain ⟨x, hx⟩ : ∃ x, fitsT ⟨7, d, a, b, k, base, size, n⟩ f regs words = x := ⟨_, rfl⟩
  rw [hx]
  have hX : (x = true ↔ FitsT ⟨7, d, a, b, k, base, size, n⟩ f regs words) := by rw [← hx]; exact decide_eq_true_iff
  simp only [FitsT, hus, restT, SetsT, Int.reduceEq, or_false, or_true, false_or, true_or, or_self, if_true, if_false, List.mem_cons, List.not_mem_nil, forall_eq_or_imp, forall_eq, false_implies, implies_true, true_and, and_true, Int.reduceLE, List.length_cons, List.length_nil, Nat.reduceAdd, Nat.reduceLeDiff, Nat.le_refl, forall_const, reduceCtorEq, Nat.zero_le] at hX
  simp only [go_sem,Nat.reduceEqDiff,Nat.reduceAdd,Nat.reduceMul,↓reduceIte,↓dreduceIte,reduceCtorEq,Nat.reduceLeDiff,Nat.reduceLT,Nat.reduceSub,Int.reduceToNat,Int.reduceLE,Int.reduceLT, c_scref24_fits, Int.reduceEq, Int.reduceBEq, setsL, SetsT, or_false, or_true, false_or, true_or, or_self, hus, one_imm', List.length_map, Int.reduceLT, Int.reduceNeg, Int.reduceLE]
  refine VCall.of_contract (refsets_c ⟨7, d, a, b, k, base, size, n⟩) (SleL.pure rfl) fun r hr => ?_
  subst hr
  simp only [go_sem,Nat.reduceEqDiff,Nat.reduceAdd,Nat.reduceMul,↓reduceIte,↓dreduceIte,reduceCtorEq,Nat.reduceLeDiff,Nat.reduceLT,Nat.reduceSub,Int.reduceToNat,Int.reduceLE,Int.reduceLT, Int.reduceEq, Int.reduceBEq, setsL, SetsT, or_false, or_true, false_or, true_or, or_self, hus, one_imm', List.length_map, Int.reduceLT, Int.reduceNeg, Int.reduceLE]
  refine VCall.of_contractN (refuses_c ⟨7, d, a, b, k, base, size, n⟩) ?_ fun r hr => ?_
  · exact ⟨_, _, rfl, Frz.pure rfl, rfl⟩
  subst hr
  simp only [go_sem,Nat.reduceEqDiff,Nat.reduceAdd,Nat.reduceMul,↓reduceIte,↓dreduceIte,reduceCtorEq,Nat.reduceLeDiff,Nat.reduceLT,Nat.reduceSub,Int.reduceToNat,Int.reduceLE,Int.reduceLT, Int.reduceEq, Int.reduceBEq, setsL, SetsT, or_false, or_true, false_or, true_or, or_self, hus, one_imm', List.length_map, Int.reduceLT, Int.reduceNeg, Int.reduceLE]
  refine VW_loop (fun i : Nat => ⟨[(1, I f), (2, I regs), (3, I words), (4, .ptr 0 0 0), (9, .ptr 1 1 0), (10, ints [a, b]), (11, I i)], [⟨0, 47, 1, tacL ⟨7, d, a, b, k, base, size, n⟩⟩, ⟨1, 47, 1, [I 7, I 0, I 0, I 0, I 0, I 0, I 0, U32 0]⟩], 2⟩)
    (fun i => i ≤ 2 ∧ ∀ j < i, inB (([a, b] : List Int).getD j default) regs = true) (fun i => 2 - i) 0 (Wk.mk (by simp [get_cons]) ⟨[], rfl⟩ (Nat.le_refl _)) ⟨by omega, by omega⟩ ?_
  rintro i ⟨hi, hin⟩
  by_cases hi0 : i = 0
  · subst hi0
    simp only [go_sem,Nat.reduceEqDiff,Nat.reduceAdd,Nat.reduceMul,↓reduceIte,↓dreduceIte,reduceCtorEq,Nat.reduceLeDiff,Nat.reduceLT,Nat.reduceSub,Int.reduceToNat,Int.reduceLE,Int.reduceLT, Int.reduceEq, Int.reduceBEq, setsL, SetsT, or_false, or_true, false_or, true_or, or_self, hus, one_imm', List.length_map, Int.reduceLT, Int.reduceNeg, Int.reduceLE, Int.cast_ofNat_Int, Nat.cast_zero', Nat.cast_one']
    refine VCall.of_contract (rwithin_c _ _) (SleL.pure rfl) fun r hr => ?_
    subst hr
    cases hu : inB a regs
    · simp only [go_sem,Nat.reduceEqDiff,Nat.reduceAdd,Nat.reduceMul,↓reduceIte,↓dreduceIte,reduceCtorEq,Nat.reduceLeDiff,Nat.reduceLT,Nat.reduceSub,Int.reduceToNat,Int.reduceLE,Int.reduceLT, hu]
      refine ⟨_, Frz.pure rfl, ?_⟩
      have h2 := of_decide_eq_false hu
      cases x
      · rfl
      · have := hX.1 rfl; omega
    · simp only [go_sem,Nat.reduceEqDiff,Nat.reduceAdd,Nat.reduceMul,↓reduceIte,↓dreduceIte,reduceCtorEq,Nat.reduceLeDiff,Nat.reduceLT,Nat.reduceSub,Int.reduceToNat,Int.reduceLE,Int.reduceLT, hu, i64_lit1, i64_lit2]
      refine ⟨1, ⟨by omega, fun j hj => ?_⟩, by omega, Wk.mk (by simp [get_cons]) ⟨[], rfl⟩ (Nat.le_refl _)⟩
      by_cases e : j = 0
      · subst e; exact hu
      · exact hin j (by omega)
  by_cases hi1 : i = 1
  · subst hi1
    simp only [go_sem,Nat.reduceEqDiff,Nat.reduceAdd,Nat.reduceMul,↓reduceIte,↓dreduceIte,reduceCtorEq,Nat.reduceLeDiff,Nat.reduceLT,Nat.reduceSub,Int.reduceToNat,Int.reduceLE,Int.reduceLT, Int.reduceEq, Int.reduceBEq, setsL, SetsT, or_false, or_true, false_or, true_or, or_self, hus, one_imm', List.length_map, Int.reduceLT, Int.reduceNeg, Int.reduceLE, Int.cast_ofNat_Int, Nat.cast_zero', Nat.cast_one']
    refine VCall.of_contract (rwithin_c _ _) (SleL.pure rfl) fun r hr => ?_
    subst hr
    cases hu : inB b regs
    · simp only [go_sem,Nat.reduceEqDiff,Nat.reduceAdd,Nat.reduceMul,↓reduceIte,↓dreduceIte,reduceCtorEq,Nat.reduceLeDiff,Nat.reduceLT,Nat.reduceSub,Int.reduceToNat,Int.reduceLE,Int.reduceLT, hu]
      refine ⟨_, Frz.pure rfl, ?_⟩
      have h2 := of_decide_eq_false hu
      cases x
      · rfl
      · have := hX.1 rfl; omega
    · simp only [go_sem,Nat.reduceEqDiff,Nat.reduceAdd,Nat.reduceMul,↓reduceIte,↓dreduceIte,reduceCtorEq,Nat.reduceLeDiff,Nat.reduceLT,Nat.reduceSub,Int.reduceToNat,Int.reduceLE,Int.reduceLT, hu, i64_lit1, i64_lit2]
      refine ⟨2, ⟨by omega, fun j hj => ?_⟩, by omega, Wk.mk (by simp [get_cons]) ⟨[], rfl⟩ (Nat.le_refl _)⟩
      by_cases e : j = 1
      · subst e; exact hu
      · exact hin j (by omega)
  obtain rfl : i = 2 := by omega
  have hu0 := of_decide_eq_true (hin 0 (by omega))
  simp only [List.getD_cons_zero, List.getD_cons_succ] at hu0
  have hu1 := of_decide_eq_true (hin 1 (by omega))
  simp only [List.getD_cons_zero, List.getD_cons_succ] at hu1
  simp only [go_sem,Nat.reduceEqDiff,Nat.reduceAdd,Nat.reduceMul,↓reduceIte,↓dreduceIte,reduceCtorEq,Nat.reduceLeDiff,Nat.reduceLT,Nat.reduceSub,Int.reduceToNat,Int.reduceLE,Int.reduceLT, Int.reduceEq, Int.reduceBEq, setsL, SetsT, or_false, or_true, false_or, true_or, or_self, hus, one_imm', List.length_map, Int.reduceLT, Int.reduceNeg, Int.reduceLE, Int.cast_ofNat_Int, Nat.cast_zero', Nat.cast_one']
  have hwr : 1 ≤ size → size ≤ 4096 → IntKind.i64.wrap (words - size) = words - size := fun h1 h2 => i64_in (by omega) (by omega)
  repeat' (first | (with_reducible apply And.intro) | (with_reducible intro _))
  all_goals
    refine ⟨_, Frz.pure rfl, ?_⟩
    try (rename_i h1 h2 h3 h4; rw [hwr (by omega) (by omega)] at h4)
    congr 2
    rw [Bool.eq_iff_iff, hX]
    simp only [Bool.and_eq_true, beq_iff_eq, true_and, and_true, Bool.false_eq_true, false_iff, not_and, and_imp]
    first | omega | (intros; omega)
theorem rfits_8 (d a b k base size n f regs words : Int) (hw : 0 ≤ words ∧ words ≤ 1048576) : Contract Try.prog 57 [tacA ⟨8, d, a, b, k, base, size, n⟩, I f, I regs, I words] (fun r => r = B (fitsT ⟨8, d, a, b, k, base, size, n⟩ f regs words)) := by
  refine Contract.of_call (VCall.of_body hmix f_scref24_fits (by simp) ?_)
  have hus : usesL ⟨8, d, a, b, k, base, size, n⟩ = [] := by simp [usesL]
  obtain ⟨x, hx⟩ : ∃ x, fitsT ⟨8, d, a, b, k, base, size, n⟩ f regs words = x := ⟨_, rfl⟩
  rw [hx]
  have hX : (x = true ↔ FitsT ⟨8, d, a, b, k, base, size, n⟩ f regs words) := by rw [← hx]; exact decide_eq_true_iff
  simp only [FitsT, hus, restT, SetsT, Int.reduceEq, or_false, or_true, false_or, true_or, or_self, if_true, if_false, List.mem_cons, List.not_mem_nil, forall_eq_or_imp, forall_eq, false_implies, implies_true, true_and, and_true, Int.reduceLE, List.length_cons, List.length_nil, Nat.reduceAdd, Nat.reduceLeDiff, Nat.le_refl, forall_const, reduceCtorEq, Nat.zero_le] at hX
  cases hd : inB d regs
  · have hx0 : x = false := by
      cases x
      · rfl
      · have := hX.1 rfl; have h2 := of_decide_eq_false hd; omega
    subst hx0
    by_cases h0 : 0 ≤ d
    · simp only [go_sem,Nat.reduceEqDiff,Nat.reduceAdd,Nat.reduceMul,↓reduceIte,↓dreduceIte,reduceCtorEq,Nat.reduceLeDiff,Nat.reduceLT,Nat.reduceSub,Int.reduceToNat,Int.reduceLE,Int.reduceLT, c_scref24_fits, Int.reduceEq, Int.reduceBEq, setsL, SetsT, or_false, or_true, false_or, true_or, or_self, hus, one_imm', List.length_map, Int.reduceLT, Int.reduceNeg, Int.reduceLE]
      refine VCall.of_contract (refsets_c ⟨8, d, a, b, k, base, size, n⟩) (SleL.pure rfl) fun r hr => ?_
      subst hr
      simp only [go_sem,Nat.reduceEqDiff,Nat.reduceAdd,Nat.reduceMul,↓reduceIte,↓dreduceIte,reduceCtorEq,Nat.reduceLeDiff,Nat.reduceLT,Nat.reduceSub,Int.reduceToNat,Int.reduceLE,Int.reduceLT, Int.reduceEq, Int.reduceBEq, setsL, SetsT, or_false, or_true, false_or, true_or, or_self, hus, one_imm', List.length_map, Int.reduceLT, Int.reduceNeg, Int.reduceLE, eq_true h0]
      refine VCall.of_contract (rwithin_c _ _) (SleL.pure rfl) fun r hr => ?_
      subst hr
      simp only [go_sem,Nat.reduceEqDiff,Nat.reduceAdd,Nat.reduceMul,↓reduceIte,↓dreduceIte,reduceCtorEq,Nat.reduceLeDiff,Nat.reduceLT,Nat.reduceSub,Int.reduceToNat,Int.reduceLE,Int.reduceLT, hd]
      exact ⟨_, Frz.pure rfl, rfl⟩
    · simp only [go_sem,Nat.reduceEqDiff,Nat.reduceAdd,Nat.reduceMul,↓reduceIte,↓dreduceIte,reduceCtorEq,Nat.reduceLeDiff,Nat.reduceLT,Nat.reduceSub,Int.reduceToNat,Int.reduceLE,Int.reduceLT, c_scref24_fits, Int.reduceEq, Int.reduceBEq, setsL, SetsT, or_false, or_true, false_or, true_or, or_self, hus, one_imm', List.length_map, Int.reduceLT, Int.reduceNeg, Int.reduceLE]
      refine VCall.of_contract (refsets_c ⟨8, d, a, b, k, base, size, n⟩) (SleL.pure rfl) fun r hr => ?_
      subst hr
      simp only [go_sem,Nat.reduceEqDiff,Nat.reduceAdd,Nat.reduceMul,↓reduceIte,↓dreduceIte,reduceCtorEq,Nat.reduceLeDiff,Nat.reduceLT,Nat.reduceSub,Int.reduceToNat,Int.reduceLE,Int.reduceLT, Int.reduceEq, Int.reduceBEq, setsL, SetsT, or_false, or_true, false_or, true_or, or_self, hus, one_imm', List.length_map, Int.reduceLT, Int.reduceNeg, Int.reduceLE, eq_false h0]
      refine VCall.of_contract (rwithin_c _ _) (SleL.pure rfl) fun r hr => ?_
      subst hr
      simp only [go_sem,Nat.reduceEqDiff,Nat.reduceAdd,Nat.reduceMul,↓reduceIte,↓dreduceIte,reduceCtorEq,Nat.reduceLeDiff,Nat.reduceLT,Nat.reduceSub,Int.reduceToNat,Int.reduceLE,Int.reduceLT, hd]
      exact ⟨_, Frz.pure rfl, rfl⟩
  have h0 := (of_decide_eq_true hd).1
  have h0' := (of_decide_eq_true hd).2
  simp only [go_sem,Nat.reduceEqDiff,Nat.reduceAdd,Nat.reduceMul,↓reduceIte,↓dreduceIte,reduceCtorEq,Nat.reduceLeDiff,Nat.reduceLT,Nat.reduceSub,Int.reduceToNat,Int.reduceLE,Int.reduceLT, c_scref24_fits, Int.reduceEq, Int.reduceBEq, setsL, SetsT, or_false, or_true, false_or, true_or, or_self, hus, one_imm', List.length_map, Int.reduceLT, Int.reduceNeg, Int.reduceLE]
  refine VCall.of_contract (refsets_c ⟨8, d, a, b, k, base, size, n⟩) (SleL.pure rfl) fun r hr => ?_
  subst hr
  simp only [go_sem,Nat.reduceEqDiff,Nat.reduceAdd,Nat.reduceMul,↓reduceIte,↓dreduceIte,reduceCtorEq,Nat.reduceLeDiff,Nat.reduceLT,Nat.reduceSub,Int.reduceToNat,Int.reduceLE,Int.reduceLT, Int.reduceEq, Int.reduceBEq, setsL, SetsT, or_false, or_true, false_or, true_or, or_self, hus, one_imm', List.length_map, Int.reduceLT, Int.reduceNeg, Int.reduceLE, eq_true h0]
  refine VCall.of_contract (rwithin_c _ _) (SleL.pure rfl) fun r hr => ?_
  subst hr
  simp only [go_sem,Nat.reduceEqDiff,Nat.reduceAdd,Nat.reduceMul,↓reduceIte,↓dreduceIte,reduceCtorEq,Nat.reduceLeDiff,Nat.reduceLT,Nat.reduceSub,Int.reduceToNat,Int.reduceLE,Int.reduceLT, Int.reduceEq, Int.reduceBEq, setsL, SetsT, or_false, or_true, false_or, true_or, or_self, hus, one_imm', List.length_map, Int.reduceLT, Int.reduceNeg, Int.reduceLE, hd]
  refine VCall.of_contractN (refuses_c ⟨8, d, a, b, k, base, size, n⟩) ?_ fun r hr => ?_
  · exact ⟨_, _, rfl, Frz.pure rfl, rfl⟩
  subst hr
  simp only [go_sem,Nat.reduceEqDiff,Nat.reduceAdd,Nat.reduceMul,↓reduceIte,↓dreduceIte,reduceCtorEq,Nat.reduceLeDiff,Nat.reduceLT,Nat.reduceSub,Int.reduceToNat,Int.reduceLE,Int.reduceLT, Int.reduceEq, Int.reduceBEq, setsL, SetsT, or_false, or_true, false_or, true_or, or_self, hus, one_imm', List.length_map, Int.reduceLT, Int.reduceNeg, Int.reduceLE]
  refine VW_loop (fun i : Nat => ⟨[(1, I f), (2, I regs), (3, I words), (4, .ptr 0 0 0), (9, .ptr 1 1 0), (10, ints []), (11, I i)], [⟨0, 47, 1, tacL ⟨8, d, a, b, k, base, size, n⟩⟩, ⟨1, 47, 1, [I 8, I d, I 0, I 0, I 0, I 0, I 0, U32 0]⟩], 2⟩)
    (fun i => i ≤ 0 ∧ ∀ j < i, inB (([] : List Int).getD j default) regs = true) (fun i => 0 - i) 0 (Wk.mk (by simp [get_cons]) ⟨[], rfl⟩ (Nat.le_refl _)) ⟨by omega, by omega⟩ ?_
  rintro i ⟨hi, hin⟩
  obtain rfl : i = 0 := by omega
  simp only [go_sem,Nat.reduceEqDiff,Nat.reduceAdd,Nat.reduceMul,↓reduceIte,↓dreduceIte,reduceCtorEq,Nat.reduceLeDiff,Nat.reduceLT,Nat.reduceSub,Int.reduceToNat,Int.reduceLE,Int.reduceLT, Int.reduceEq, Int.reduceBEq, setsL, SetsT, or_false, or_true, false_or, true_or, or_self, hus, one_imm', List.length_map, Int.reduceLT, Int.reduceNeg, Int.reduceLE, Int.cast_ofNat_Int, Nat.cast_zero', Nat.cast_one']
  have hwr : 1 ≤ size → size ≤ 4096 → IntKind.i64.wrap (words - size) = words - size := fun h1 h2 => i64_in (by omega) (by omega)
  repeat' (first | (with_reducible apply And.intro) | (with_reducible intro _))
  all_goals
    refine ⟨_, Frz.pure rfl, ?_⟩
    try (rename_i h1 h2 h3 h4; rw [hwr (by omega) (by omega)] at h4)
    congr 2
    rw [Bool.eq_iff_iff, hX]
    simp only [Bool.and_eq_true, beq_iff_eq, true_and, and_true, Bool.false_eq_true, false_iff, not_and, and_imp]
    first | omega | (intros; omega)
theorem rfits_9 (d a b k base size n f regs words : Int) (hw : 0 ≤ words ∧ words ≤ 1048576) : Contract Try.prog 57 [tacA ⟨9, d, a, b, k, base, size, n⟩, I f, I regs, I words] (fun r => r = B (fitsT ⟨9, d, a, b, k, base, size, n⟩ f regs words)) := by
  refine Contract.of_call (VCall.of_body hmix f_scref24_fits (by simp) ?_)
  have hus : usesL ⟨9, d, a, b, k, base, size, n⟩ = [a] := by simp [usesL]
  obtain ⟨x, hx⟩ : ∃ x, fitsT ⟨9, d, a, b, k, base, size, n⟩ f regs words = x := ⟨_, rfl⟩
  rw [hx]
  have hX : (x = true ↔ FitsT ⟨9, d, a, b, k, base, size, n⟩ f regs words) := by rw [← hx]; exact decide_eq_true_iff
  simp only [FitsT, hus, restT, SetsT, Int.reduceEq, or_false, or_true, false_or, true_or, or_self, if_true, if_false, List.mem_cons, List.not_mem_nil, forall_eq_or_imp, forall_eq, false_implies, implies_true, true_and, and_true, Int.reduceLE, List.length_cons, List.length_nil, Nat.reduceAdd, Nat.reduceLeDiff, Nat.le_refl, forall_const, reduceCtorEq, Nat.zero_le] at hX
  simp only [go_sem,Nat.reduceEqDiff,Nat.reduceAdd,Nat.reduceMul,↓reduceIte,↓dreduceIte,reduceCtorEq,Nat.reduceLeDiff,Nat.reduceLT,Nat.reduceSub,Int.reduceToNat,Int.reduceLE,Int.reduceLT, c_scref24_fits, Int.reduceEq, Int.reduceBEq, setsL, SetsT, or_false, or_true, false_or, true_or, or_self, hus, one_imm', List.length_map, Int.reduceLT, Int.reduceNeg, Int.reduceLE]
  refine VCall.of_contract (refsets_c ⟨9, d, a, b, k, base, size, n⟩) (SleL.pure rfl) fun r hr => ?_
  subst hr
  simp only [go_sem,Nat.reduceEqDiff,Nat.reduceAdd,Nat.reduceMul,↓reduceIte,↓dreduceIte,reduceCtorEq,Nat.reduceLeDiff,Nat.reduceLT,Nat.reduceSub,Int.reduceToNat,Int.reduceLE,Int.reduceLT, Int.reduceEq, Int.reduceBEq, setsL, SetsT, or_false, or_true, false_or, true_or, or_self, hus, one_imm', List.length_map, Int.reduceLT, Int.reduceNeg, Int.reduceLE]
  refine VCall.of_contractN (refuses_c ⟨9, d, a, b, k, base, size, n⟩) ?_ fun r hr => ?_
  · exact ⟨_, _, rfl, Frz.pure rfl, rfl⟩
  subst hr
  simp only [go_sem,Nat.reduceEqDiff,Nat.reduceAdd,Nat.reduceMul,↓reduceIte,↓dreduceIte,reduceCtorEq,Nat.reduceLeDiff,Nat.reduceLT,Nat.reduceSub,Int.reduceToNat,Int.reduceLE,Int.reduceLT, Int.reduceEq, Int.reduceBEq, setsL, SetsT, or_false, or_true, false_or, true_or, or_self, hus, one_imm', List.length_map, Int.reduceLT, Int.reduceNeg, Int.reduceLE]
  refine VW_loop (fun i : Nat => ⟨[(1, I f), (2, I regs), (3, I words), (4, .ptr 0 0 0), (9, .ptr 1 1 0), (10, ints [a]), (11, I i)], [⟨0, 47, 1, tacL ⟨9, d, a, b, k, base, size, n⟩⟩, ⟨1, 47, 1, [I 9, I 0, I 0, I 0, I 0, I 0, I 0, U32 0]⟩], 2⟩)
    (fun i => i ≤ 1 ∧ ∀ j < i, inB (([a] : List Int).getD j default) regs = true) (fun i => 1 - i) 0 (Wk.mk (by simp [get_cons]) ⟨[], rfl⟩ (Nat.le_refl _)) ⟨by omega, by omega⟩ ?_
  rintro i ⟨hi, hin⟩
  by_cases hi0 : i = 0
  · subst hi0
    simp only [go_sem,Nat.reduceEqDiff,Nat.reduceAdd,Nat.reduceMul,↓reduceIte,↓dreduceIte,reduceCtorEq,Nat.reduceLeDiff,Nat.reduceLT,Nat.reduceSub,Int.reduceToNat,Int.reduceLE,Int.reduceLT, Int.reduceEq, Int.reduceBEq, setsL, SetsT, or_false, or_true, false_or, true_or, or_self, hus, one_imm', List.length_map, Int.reduceLT, Int.reduceNeg, Int.reduceLE, Int.cast_ofNat_Int, Nat.cast_zero', Nat.cast_one']
    refine VCall.of_contract (rwithin_c _ _) (SleL.pure rfl) fun r hr => ?_
    subst hr
    cases hu : inB a regs
    · simp only [go_sem,Nat.reduceEqDiff,Nat.reduceAdd,Nat.reduceMul,↓reduceIte,↓dreduceIte,reduceCtorEq,Nat.reduceLeDiff,Nat.reduceLT,Nat.reduceSub,Int.reduceToNat,Int.reduceLE,Int.reduceLT, hu]
      refine ⟨_, Frz.pure rfl, ?_⟩
      have h2 := of_decide_eq_false hu
      cases x
      · rfl
      · have := hX.1 rfl; omega
    · simp only [go_sem,Nat.reduceEqDiff,Nat.reduceAdd,Nat.reduceMul,↓reduceIte,↓dreduceIte,reduceCtorEq,Nat.reduceLeDiff,Nat.reduceLT,Nat.reduceSub,Int.reduceToNat,Int.reduceLE,Int.reduceLT, hu, i64_lit1, i64_lit2]
      refine ⟨1, ⟨by omega, fun j hj => ?_⟩, by omega, Wk.mk (by simp [get_cons]) ⟨[], rfl⟩ (Nat.le_refl _)⟩
      by_cases e : j = 0
      · subst e; exact hu
      · exact hin j (by omega)
  obtain rfl : i = 1 := by omega
  have hu0 := of_decide_eq_true (hin 0 (by omega))
  simp only [List.getD_cons_zero, List.getD_cons_succ] at hu0
  simp only [go_sem,Nat.reduceEqDiff,Nat.reduceAdd,Nat.reduceMul,↓reduceIte,↓dreduceIte,reduceCtorEq,Nat.reduceLeDiff,Nat.reduceLT,Nat.reduceSub,Int.reduceToNat,Int.reduceLE,Int.reduceLT, Int.reduceEq, Int.reduceBEq, setsL, SetsT, or_false, or_true, false_or, true_or, or_self, hus, one_imm', List.length_map, Int.reduceLT, Int.reduceNeg, Int.reduceLE, Int.cast_ofNat_Int, Nat.cast_zero', Nat.cast_one']
  have hwr : 1 ≤ size → size ≤ 4096 → IntKind.i64.wrap (words - size) = words - size := fun h1 h2 => i64_in (by omega) (by omega)
  repeat' (first | (with_reducible apply And.intro) | (with_reducible intro _))
  all_goals
    refine ⟨_, Frz.pure rfl, ?_⟩
    try (rename_i h1 h2 h3 h4; rw [hwr (by omega) (by omega)] at h4)
    congr 2
    rw [Bool.eq_iff_iff, hX]
    simp only [Bool.and_eq_true, beq_iff_eq, true_and, and_true, Bool.false_eq_true, false_iff, not_and, and_imp]
    first | omega | (intros; omega)
theorem rfits_10 (d a b k base size n f regs words : Int) (hw : 0 ≤ words ∧ words ≤ 1048576) : Contract Try.prog 57 [tacA ⟨10, d, a, b, k, base, size, n⟩, I f, I regs, I words] (fun r => r = B (fitsT ⟨10, d, a, b, k, base, size, n⟩ f regs words)) := by
  refine Contract.of_call (VCall.of_body hmix f_scref24_fits (by simp) ?_)
  have hus : usesL ⟨10, d, a, b, k, base, size, n⟩ = [] := by simp [usesL]
  obtain ⟨x, hx⟩ : ∃ x, fitsT ⟨10, d, a, b, k, base, size, n⟩ f regs words = x := ⟨_, rfl⟩
  rw [hx]
  have hX : (x = true ↔ FitsT ⟨10, d, a, b, k, base, size, n⟩ f regs words) := by rw [← hx]; exact decide_eq_true_iff
  simp only [FitsT, hus, restT, SetsT, Int.reduceEq, or_false, or_true, false_or, true_or, or_self, if_true, if_false, List.mem_cons, List.not_mem_nil, forall_eq_or_imp, forall_eq, false_implies, implies_true, true_and, and_true, Int.reduceLE, List.length_cons, List.length_nil, Nat.reduceAdd, Nat.reduceLeDiff, Nat.le_refl, forall_const, reduceCtorEq, Nat.zero_le] at hX
  simp only [go_sem,Nat.reduceEqDiff,Nat.reduceAdd,Nat.reduceMul,↓reduceIte,↓dreduceIte,reduceCtorEq,Nat.reduceLeDiff,Nat.reduceLT,Nat.reduceSub,Int.reduceToNat,Int.reduceLE,Int.reduceLT, c_scref24_fits, Int.reduceEq, Int.reduceBEq, setsL, SetsT, or_false, or_true, false_or, true_or, or_self, hus, one_imm', List.length_map, Int.reduceLT, Int.reduceNeg, Int.reduceLE]
  refine VCall.of_contract (refsets_c ⟨10, d, a, b, k, base, size, n⟩) (SleL.pure rfl) fun r hr => ?_
  subst hr
  simp only [go_sem,Nat.reduceEqDiff,Nat.reduceAdd,Nat.reduceMul,↓reduceIte,↓dreduceIte,reduceCtorEq,Nat.reduceLeDiff,Nat.reduceLT,Nat.reduceSub,Int.reduceToNat,Int.reduceLE,Int.reduceLT, Int.reduceEq, Int.reduceBEq, setsL, SetsT, or_false, or_true, false_or, true_or, or_self, hus, one_imm', List.length_map, Int.reduceLT, Int.reduceNeg, Int.reduceLE]
  refine VCall.of_contractN (refuses_c ⟨10, d, a, b, k, base, size, n⟩) ?_ fun r hr => ?_
  · exact ⟨_, _, rfl, Frz.pure rfl, rfl⟩
  subst hr
  simp only [go_sem,Nat.reduceEqDiff,Nat.reduceAdd,Nat.reduceMul,↓reduceIte,↓dreduceIte,reduceCtorEq,Nat.reduceLeDiff,Nat.reduceLT,Nat.reduceSub,Int.reduceToNat,Int.reduceLE,Int.reduceLT, Int.reduceEq, Int.reduceBEq, setsL, SetsT, or_false, or_true, false_or, true_or, or_self, hus, one_imm', List.length_map, Int.reduceLT, Int.reduceNeg, Int.reduceLE]
  refine VW_loop (fun i : Nat => ⟨[(1, I f), (2, I regs), (3, I words), (4, .ptr 0 0 0), (9, .ptr 1 1 0), (10, ints []), (11, I i)], [⟨0, 47, 1, tacL ⟨10, d, a, b, k, base, size, n⟩⟩, ⟨1, 47, 1, [I 10, I 0, I 0, I 0, I 0, I 0, I 0, U32 0]⟩], 2⟩)
    (fun i => i ≤ 0 ∧ ∀ j < i, inB (([] : List Int).getD j default) regs = true) (fun i => 0 - i) 0 (Wk.mk (by simp [get_cons]) ⟨[], rfl⟩ (Nat.le_refl _)) ⟨by omega, by omega⟩ ?_
  rintro i ⟨hi, hin⟩
  obtain rfl : i = 0 := by omega
  simp only [go_sem,Nat.reduceEqDiff,Nat.reduceAdd,Nat.reduceMul,↓reduceIte,↓dreduceIte,reduceCtorEq,Nat.reduceLeDiff,Nat.reduceLT,Nat.reduceSub,Int.reduceToNat,Int.reduceLE,Int.reduceLT, Int.reduceEq, Int.reduceBEq, setsL, SetsT, or_false, or_true, false_or, true_or, or_self, hus, one_imm', List.length_map, Int.reduceLT, Int.reduceNeg, Int.reduceLE, Int.cast_ofNat_Int, Nat.cast_zero', Nat.cast_one']
  refine VCall.of_contract (rwithin_c _ _) (SleL.pure rfl) fun r hr => ?_
  subst hr
  cases hb : inB base f
  · have hb' := of_decide_eq_false hb
    simp only [go_sem,Nat.reduceEqDiff,Nat.reduceAdd,Nat.reduceMul,↓reduceIte,↓dreduceIte,reduceCtorEq,Nat.reduceLeDiff,Nat.reduceLT,Nat.reduceSub,Int.reduceToNat,Int.reduceLE,Int.reduceLT, hb]
    refine ⟨_, Frz.pure rfl, ?_⟩
    congr 2
    rw [Bool.eq_iff_iff, hX]
    simp only [Bool.and_eq_true, beq_iff_eq, true_and, and_true, Bool.false_eq_true, false_iff, not_and, and_imp]
    first | omega | (intros; omega)
  · have hb' := of_decide_eq_true hb
    simp only [go_sem,Nat.reduceEqDiff,Nat.reduceAdd,Nat.reduceMul,↓reduceIte,↓dreduceIte,reduceCtorEq,Nat.reduceLeDiff,Nat.reduceLT,Nat.reduceSub,Int.reduceToNat,Int.reduceLE,Int.reduceLT, hb]
    refine ⟨_, Frz.pure rfl, ?_⟩
    congr 2
    rw [Bool.eq_iff_iff, hX]
    simp only [Bool.and_eq_true, beq_iff_eq, true_and, and_true, Bool.false_eq_true, false_iff, not_and, and_imp]
    first | omega | (intros; omega)
theorem rfits_c (t : Tac) (f regs words : Int) (hw : 0 ≤ words ∧ words ≤ 1048576) : Contract Try.prog 57 [tacA t, I f, I regs, I words] (fun r => r = B (fitsT t f regs words)) := by
  obtain ⟨op, d, a, b, k, base, size, n⟩ := t
  by_cases ho : op < 1 ∨ op > 10
  · refine Contract.of_call (VCall.of_body hmix f_scref24_fits (by simp) ?_)
    have e : fitsT ⟨op, d, a, b, k, base, size, n⟩ f regs words = false := decide_eq_false (by unfold FitsT; simp only; omega)
    rw [e]
    rcases ho with h | h
    · simp only [go_sem,Nat.reduceEqDiff,Nat.reduceAdd,Nat.reduceMul,↓reduceIte,↓dreduceIte,reduceCtorEq,Nat.reduceLeDiff,Nat.reduceLT,Nat.reduceSub,Int.reduceToNat,Int.reduceLE,Int.reduceLT, c_scref24_fits, eq_true h]
      exact ⟨_, Frz.pure rfl, rfl⟩
    · simp only [go_sem,Nat.reduceEqDiff,Nat.reduceAdd,Nat.reduceMul,↓reduceIte,↓dreduceIte,reduceCtorEq,Nat.reduceLeDiff,Nat.reduceLT,Nat.reduceSub,Int.reduceToNat,Int.reduceLE,Int.reduceLT, c_scref24_fits, eq_false (show ¬ op < 1 by omega), eq_true (show 10 < op by omega)]
      exact ⟨_, Frz.pure rfl, rfl⟩
  have hop : op = 1 ∨ op = 2 ∨ op = 3 ∨ op = 4 ∨ op = 5 ∨ op = 6 ∨ op = 7 ∨ op = 8 ∨ op = 9 ∨ op = 10 := by omega
  rcases hop with rfl | rfl | rfl | rfl | rfl | rfl | rfl | rfl | rfl | rfl
  · exact rfits_1 d a b k base size n f regs words hw
  · exact rfits_2 d a b k base size n f regs words hw
  · exact rfits_3 d a b k base size n f regs words hw
  · exact rfits_4 d a b k base size n f regs words hw
  · exact rfits_5 d a b k base size n f regs words hw
  · exact rfits_6 d a b k base size n f regs words hw
  · exact rfits_7 d a b k base size n f regs words hw
  · exact rfits_8 d a b k base size n f regs words hw
  · exact rfits_9 d a b k base size n f regs words hw
  · exact rfits_10 d a b k base size n f regs words hw
-- END-OF-FITS
end Go.Proofs.Ytjdeediehmhdoaa
