/-
  Which instructions may be, which programs: contracts of both. No condition.
-/
import Derived.Test.YtdfdkoajphcjbaaD4
namespace Go.Proofs.Ytdfdkoajphcjbaa
set_option linter.unusedSimpArgs false
set_option linter.unusedVariables false
set_option maxRecDepth 10000
open Go.V

/-- May an instruction be in a function? -/
def FitsP (s : SP) (f : Nat) (x : SI) : Prop :=
  (x.op = 1 ∨ x.n = 0) ∧ (x.op = 4 ∨ x.op = 5 ∨ x.b = 0) ∧
  (((x.op = 1 ∨ x.op = 7 ∨ x.op = 11 ∨ x.op = 12 ∨ x.op = 13) ∧ x.a = 0) ∨ ((x.op = 2 ∨ x.op = 3) ∧ 0 ≤ x.a ∧ x.a < s.words) ∨
   ((x.op = 4 ∨ x.op = 5) ∧ 0 ≤ x.a ∧ 1 ≤ x.b ∧ x.b ≤ 4096 ∧ x.a ≤ s.words - x.b) ∨ (x.op = 6 ∧ 4 ≤ x.a ∧ x.a ≤ 15) ∨
   ((x.op = 8 ∨ x.op = 9) ∧ 0 ≤ x.a ∧ x.a < ((s.fn f).code.length : Int)) ∨ (x.op = 10 ∧ 0 ≤ x.a ∧ x.a < (f : Int)))
instance (s : SP) (f : Nat) (x : SI) : Decidable (FitsP s f x) := by unfold FitsP; exact inferInstance
theorem bB {p : Prop} [Decidable p] (h : p) : B true = B (decide p) := by rw [decide_eq_true h]
theorem bF {p : Prop} [Decidable p] (h : ¬ p) : B false = B (decide p) := by rw [decide_eq_false h]
theorem bD {p q : Prop} [Decidable p] [Decidable q] (h : q ↔ p) : B (decide q) = B (decide p) := by
  by_cases hp : p
  · rw [decide_eq_true hp, decide_eq_true (h.2 hp)]
  · rw [decide_eq_false hp, decide_eq_false (fun hq => hp (h.1 hq))]

theorem reffits_c (s : SP) (hw : 0 ≤ s.words ∧ s.words ≤ 32768) (f : Nat) (hf : f < s.funcs.length) (x : SI) : Contract Try.prog 21 [spA s, I f, siA x] (fun r => r = B (decide (FitsP s f x))) := by
  obtain ⟨op, a, b, n⟩ := x
  obtain ⟨hw1, hw2⟩ := hw
  have hfn : s.funcs.getD f default = s.fn f := rfl
  refine Contract.of_call (VCall.of_body hmix f_scref20_Fits (by simp) ?_)
  by_cases hb : 1 ≤ b ∧ b ≤ 4096
  · obtain ⟨hb1, hb2⟩ := hb
    have e1 : IntKind.i64.wrap (s.words - b) = s.words - b := i64_in (by omega) (by omega)
    have hb0 : ¬ b = 0 := by omega
    rcases op_cases op with rfl | rfl | rfl | rfl | rfl | rfl | rfl | rfl | rfl | rfl | rfl | rfl | rfl | ⟨h1, h2, h3, h4, h5, h6, h7, h8, h9, h10, h11, h12, h13⟩
    iterate 13
      · simp only [go_sem,Nat.reduceEqDiff,Nat.reduceAdd,Nat.reduceMul,↓reduceIte,↓dreduceIte,reduceCtorEq,Nat.reduceLeDiff,Nat.reduceLT,Nat.reduceSub,Int.reduceToNat,Int.reduceLE,Int.reduceLT, one_ref, one_imm, Int.reduceLT, Int.reduceEq, Int.reduceBEq, c_scref20_Fits, hfn, e1, eq_true hb1, eq_true hb2, eq_false hb0]
        repeat' (first | (with_reducible apply And.intro) | intro _)
        all_goals first
          | omega
          | exact ⟨_, Frz.pure rfl, bB (by unfold FitsP; simp only [Int.reduceEq, true_or, or_true, false_or, or_false, true_and, and_true, false_and, and_false, not_true_eq_false, not_false_eq_true]; try omega)⟩
          | exact ⟨_, Frz.pure rfl, bF (by unfold FitsP; simp only [Int.reduceEq, true_or, or_true, false_or, or_false, true_and, and_true, false_and, and_false, not_true_eq_false, not_false_eq_true]; try omega)⟩
          | exact ⟨_, Frz.pure rfl, bD (by unfold FitsP; simp only [Int.reduceEq, true_or, or_true, false_or, or_false, true_and, and_true, false_and, and_false, not_true_eq_false, not_false_eq_true]; try omega)⟩
    · simp only [go_sem,Nat.reduceEqDiff,Nat.reduceAdd,Nat.reduceMul,↓reduceIte,↓dreduceIte,reduceCtorEq,Nat.reduceLeDiff,Nat.reduceLT,Nat.reduceSub,Int.reduceToNat,Int.reduceLE,Int.reduceLT, one_ref, one_imm, Int.reduceLT, Int.reduceEq, Int.reduceBEq, c_scref20_Fits, hfn, e1, eq_true hb1, eq_true hb2, eq_false hb0, eq_false h1, eq_false h2, eq_false h3, eq_false h4, eq_false h5, eq_false h6, eq_false h7, eq_false h8, eq_false h9, eq_false h10, eq_false h11, eq_false h12, eq_false h13]
      repeat' (first | (with_reducible apply And.intro) | intro _)
      all_goals first
        | omega
        | exact ⟨_, Frz.pure rfl, bF (by unfold FitsP; simp only [Int.reduceEq, true_or, or_true, false_or, or_false, true_and, and_true, false_and, and_false, not_true_eq_false, not_false_eq_true]; try omega)⟩
        | exact ⟨_, Frz.pure rfl, bD (by unfold FitsP; simp only [Int.reduceEq, true_or, or_true, false_or, or_false, true_and, and_true, false_and, and_false, not_true_eq_false, not_false_eq_true]; try omega)⟩
  · by_cases hb1 : 1 ≤ b
    · have hb2 : ¬ b ≤ 4096 := by omega
      have hb0 : ¬ b = 0 := by omega
      rcases op_cases op with rfl | rfl | rfl | rfl | rfl | rfl | rfl | rfl | rfl | rfl | rfl | rfl | rfl | ⟨h1, h2, h3, h4, h5, h6, h7, h8, h9, h10, h11, h12, h13⟩
      iterate 13
        · simp only [go_sem,Nat.reduceEqDiff,Nat.reduceAdd,Nat.reduceMul,↓reduceIte,↓dreduceIte,reduceCtorEq,Nat.reduceLeDiff,Nat.reduceLT,Nat.reduceSub,Int.reduceToNat,Int.reduceLE,Int.reduceLT, one_ref, one_imm, Int.reduceLT, Int.reduceEq, Int.reduceBEq, c_scref20_Fits, hfn, eq_true hb1, eq_false hb2, eq_false hb0]
          repeat' (first | (with_reducible apply And.intro) | intro _)
          all_goals first
            | omega
            | exact ⟨_, Frz.pure rfl, bB (by unfold FitsP; simp only [Int.reduceEq, true_or, or_true, false_or, or_false, true_and, and_true, false_and, and_false, not_true_eq_false, not_false_eq_true]; try omega)⟩
            | exact ⟨_, Frz.pure rfl, bF (by unfold FitsP; simp only [Int.reduceEq, true_or, or_true, false_or, or_false, true_and, and_true, false_and, and_false, not_true_eq_false, not_false_eq_true]; try omega)⟩
            | exact ⟨_, Frz.pure rfl, bD (by unfold FitsP; simp only [Int.reduceEq, true_or, or_true, false_or, or_false, true_and, and_true, false_and, and_false, not_true_eq_false, not_false_eq_true]; try omega)⟩
      · simp only [go_sem,Nat.reduceEqDiff,Nat.reduceAdd,Nat.reduceMul,↓reduceIte,↓dreduceIte,reduceCtorEq,Nat.reduceLeDiff,Nat.reduceLT,Nat.reduceSub,Int.reduceToNat,Int.reduceLE,Int.reduceLT, one_ref, one_imm, Int.reduceLT, Int.reduceEq, Int.reduceBEq, c_scref20_Fits, hfn, eq_true hb1, eq_false hb2, eq_false hb0, eq_false h1, eq_false h2, eq_false h3, eq_false h4, eq_false h5, eq_false h6, eq_false h7, eq_false h8, eq_false h9, eq_false h10, eq_false h11, eq_false h12, eq_false h13]
        repeat' (first | (with_reducible apply And.intro) | intro _)
        all_goals first
          | omega
          | exact ⟨_, Frz.pure rfl, bF (by unfold FitsP; simp only [Int.reduceEq, true_or, or_true, false_or, or_false, true_and, and_true, false_and, and_false, not_true_eq_false, not_false_eq_true]; try omega)⟩
          | exact ⟨_, Frz.pure rfl, bD (by unfold FitsP; simp only [Int.reduceEq, true_or, or_true, false_or, or_false, true_and, and_true, false_and, and_false, not_true_eq_false, not_false_eq_true]; try omega)⟩
    · rcases op_cases op with rfl | rfl | rfl | rfl | rfl | rfl | rfl | rfl | rfl | rfl | rfl | rfl | rfl | ⟨h1, h2, h3, h4, h5, h6, h7, h8, h9, h10, h11, h12, h13⟩
      iterate 13
        · simp only [go_sem,Nat.reduceEqDiff,Nat.reduceAdd,Nat.reduceMul,↓reduceIte,↓dreduceIte,reduceCtorEq,Nat.reduceLeDiff,Nat.reduceLT,Nat.reduceSub,Int.reduceToNat,Int.reduceLE,Int.reduceLT, one_ref, one_imm, Int.reduceLT, Int.reduceEq, Int.reduceBEq, c_scref20_Fits, hfn, eq_false hb1]
          repeat' (first | (with_reducible apply And.intro) | intro _)
          all_goals first
            | omega
            | exact ⟨_, Frz.pure rfl, bB (by unfold FitsP; simp only [Int.reduceEq, true_or, or_true, false_or, or_false, true_and, and_true, false_and, and_false, not_true_eq_false, not_false_eq_true]; try omega)⟩
            | exact ⟨_, Frz.pure rfl, bF (by unfold FitsP; simp only [Int.reduceEq, true_or, or_true, false_or, or_false, true_and, and_true, false_and, and_false, not_true_eq_false, not_false_eq_true]; try omega)⟩
            | exact ⟨_, Frz.pure rfl, bD (by unfold FitsP; simp only [Int.reduceEq, true_or, or_true, false_or, or_false, true_and, and_true, false_and, and_false, not_true_eq_false, not_false_eq_true]; try omega)⟩
      · simp only [go_sem,Nat.reduceEqDiff,Nat.reduceAdd,Nat.reduceMul,↓reduceIte,↓dreduceIte,reduceCtorEq,Nat.reduceLeDiff,Nat.reduceLT,Nat.reduceSub,Int.reduceToNat,Int.reduceLE,Int.reduceLT, one_ref, one_imm, Int.reduceLT, Int.reduceEq, Int.reduceBEq, c_scref20_Fits, hfn, eq_false hb1, eq_false h1, eq_false h2, eq_false h3, eq_false h4, eq_false h5, eq_false h6, eq_false h7, eq_false h8, eq_false h9, eq_false h10, eq_false h11, eq_false h12, eq_false h13]
        repeat' (first | (with_reducible apply And.intro) | intro _)
        all_goals first
          | omega
          | exact ⟨_, Frz.pure rfl, bF (by unfold FitsP; simp only [Int.reduceEq, true_or, or_true, false_or, or_false, true_and, and_true, false_and, and_false, not_true_eq_false, not_false_eq_true]; try omega)⟩
          | exact ⟨_, Frz.pure rfl, bD (by unfold FitsP; simp only [Int.reduceEq, true_or, or_true, false_or, or_false, true_and, and_true, false_and, and_false, not_true_eq_false, not_false_eq_true]; try omega)⟩

theorem sright_c (s : SP) (hw : 0 ≤ s.words ∧ s.words ≤ 32768) (f : Nat) (hf : f < s.funcs.length) (x : SI) : Contract Try.prog 30 [spA s, I f, siA x] (fun r => r = B (decide (FitsP s f x))) := by
  obtain ⟨op, a, b, n⟩ := x
  obtain ⟨hw1, hw2⟩ := hw
  have hfn : s.funcs.getD f default = s.fn f := rfl
  refine Contract.of_call (VCall.of_body hmix f_stack_right (by simp) ?_)
  by_cases hb : 1 ≤ b ∧ b ≤ 4096
  · obtain ⟨hb1, hb2⟩ := hb
    have e1 : IntKind.i64.wrap (s.words - b) = s.words - b := i64_in (by omega) (by omega)
    have hb0 : ¬ b = 0 := by omega
    rcases op_cases op with rfl | rfl | rfl | rfl | rfl | rfl | rfl | rfl | rfl | rfl | rfl | rfl | rfl | ⟨h1, h2, h3, h4, h5, h6, h7, h8, h9, h10, h11, h12, h13⟩
    iterate 13
      · simp only [go_sem,Nat.reduceEqDiff,Nat.reduceAdd,Nat.reduceMul,↓reduceIte,↓dreduceIte,reduceCtorEq,Nat.reduceLeDiff,Nat.reduceLT,Nat.reduceSub,Int.reduceToNat,Int.reduceLE,Int.reduceLT, one_ref, one_imm, Int.reduceLT, Int.reduceEq, Int.reduceBEq, c_stack_right, hfn, e1, eq_true hb1, eq_true hb2, eq_false hb0]
        repeat' (first | (with_reducible apply And.intro) | intro _)
        all_goals first
          | omega
          | exact ⟨_, Frz.pure rfl, bB (by unfold FitsP; simp only [Int.reduceEq, true_or, or_true, false_or, or_false, true_and, and_true, false_and, and_false, not_true_eq_false, not_false_eq_true]; try omega)⟩
          | exact ⟨_, Frz.pure rfl, bF (by unfold FitsP; simp only [Int.reduceEq, true_or, or_true, false_or, or_false, true_and, and_true, false_and, and_false, not_true_eq_false, not_false_eq_true]; try omega)⟩
          | exact ⟨_, Frz.pure rfl, bD (by unfold FitsP; simp only [Int.reduceEq, true_or, or_true, false_or, or_false, true_and, and_true, false_and, and_false, not_true_eq_false, not_false_eq_true]; try omega)⟩
    · simp only [go_sem,Nat.reduceEqDiff,Nat.reduceAdd,Nat.reduceMul,↓reduceIte,↓dreduceIte,reduceCtorEq,Nat.reduceLeDiff,Nat.reduceLT,Nat.reduceSub,Int.reduceToNat,Int.reduceLE,Int.reduceLT, one_ref, one_imm, Int.reduceLT, Int.reduceEq, Int.reduceBEq, c_stack_right, hfn, e1, eq_true hb1, eq_true hb2, eq_false hb0, eq_false h1, eq_false h2, eq_false h3, eq_false h4, eq_false h5, eq_false h6, eq_false h7, eq_false h8, eq_false h9, eq_false h10, eq_false h11, eq_false h12, eq_false h13]
      repeat' (first | (with_reducible apply And.intro) | intro _)
      all_goals first
        | omega
        | exact ⟨_, Frz.pure rfl, bF (by unfold FitsP; simp only [Int.reduceEq, true_or, or_true, false_or, or_false, true_and, and_true, false_and, and_false, not_true_eq_false, not_false_eq_true]; try omega)⟩
        | exact ⟨_, Frz.pure rfl, bD (by unfold FitsP; simp only [Int.reduceEq, true_or, or_true, false_or, or_false, true_and, and_true, false_and, and_false, not_true_eq_false, not_false_eq_true]; try omega)⟩
  · by_cases hb1 : 1 ≤ b
    · have hb2 : ¬ b ≤ 4096 := by omega
      have hb0 : ¬ b = 0 := by omega
      rcases op_cases op with rfl | rfl | rfl | rfl | rfl | rfl | rfl | rfl | rfl | rfl | rfl | rfl | rfl | ⟨h1, h2, h3, h4, h5, h6, h7, h8, h9, h10, h11, h12, h13⟩
      iterate 13
        · simp only [go_sem,Nat.reduceEqDiff,Nat.reduceAdd,Nat.reduceMul,↓reduceIte,↓dreduceIte,reduceCtorEq,Nat.reduceLeDiff,Nat.reduceLT,Nat.reduceSub,Int.reduceToNat,Int.reduceLE,Int.reduceLT, one_ref, one_imm, Int.reduceLT, Int.reduceEq, Int.reduceBEq, c_stack_right, hfn, eq_true hb1, eq_false hb2, eq_false hb0]
          repeat' (first | (with_reducible apply And.intro) | intro _)
          all_goals first
            | omega
            | exact ⟨_, Frz.pure rfl, bB (by unfold FitsP; simp only [Int.reduceEq, true_or, or_true, false_or, or_false, true_and, and_true, false_and, and_false, not_true_eq_false, not_false_eq_true]; try omega)⟩
            | exact ⟨_, Frz.pure rfl, bF (by unfold FitsP; simp only [Int.reduceEq, true_or, or_true, false_or, or_false, true_and, and_true, false_and, and_false, not_true_eq_false, not_false_eq_true]; try omega)⟩
            | exact ⟨_, Frz.pure rfl, bD (by unfold FitsP; simp only [Int.reduceEq, true_or, or_true, false_or, or_false, true_and, and_true, false_and, and_false, not_true_eq_false, not_false_eq_true]; try omega)⟩
      · simp only [go_sem,Nat.reduceEqDiff,Nat.reduceAdd,Nat.reduceMul,↓reduceIte,↓dreduceIte,reduceCtorEq,Nat.reduceLeDiff,Nat.reduceLT,Nat.reduceSub,Int.reduceToNat,Int.reduceLE,Int.reduceLT, one_ref, one_imm, Int.reduceLT, Int.reduceEq, Int.reduceBEq, c_stack_right, hfn, eq_true hb1, eq_false hb2, eq_false hb0, eq_false h1, eq_false h2, eq_false h3, eq_false h4, eq_false h5, eq_false h6, eq_false h7, eq_false h8, eq_false h9, eq_false h10, eq_false h11, eq_false h12, eq_false h13]
        repeat' (first | (with_reducible apply And.intro) | intro _)
        all_goals first
          | omega
          | exact ⟨_, Frz.pure rfl, bF (by unfold FitsP; simp only [Int.reduceEq, true_or, or_true, false_or, or_false, true_and, and_true, false_and, and_false, not_true_eq_false, not_false_eq_true]; try omega)⟩
          | exact ⟨_, Frz.pure rfl, bD (by unfold FitsP; simp only [Int.reduceEq, true_or, or_true, false_or, or_false, true_and, and_true, false_and, and_false, not_true_eq_false, not_false_eq_true]; try omega)⟩
    · rcases op_cases op with rfl | rfl | rfl | rfl | rfl | rfl | rfl | rfl | rfl | rfl | rfl | rfl | rfl | ⟨h1, h2, h3, h4, h5, h6, h7, h8, h9, h10, h11, h12, h13⟩
      iterate 13
        · simp only [go_sem,Nat.reduceEqDiff,Nat.reduceAdd,Nat.reduceMul,↓reduceIte,↓dreduceIte,reduceCtorEq,Nat.reduceLeDiff,Nat.reduceLT,Nat.reduceSub,Int.reduceToNat,Int.reduceLE,Int.reduceLT, one_ref, one_imm, Int.reduceLT, Int.reduceEq, Int.reduceBEq, c_stack_right, hfn, eq_false hb1]
          repeat' (first | (with_reducible apply And.intro) | intro _)
          all_goals first
            | omega
            | exact ⟨_, Frz.pure rfl, bB (by unfold FitsP; simp only [Int.reduceEq, true_or, or_true, false_or, or_false, true_and, and_true, false_and, and_false, not_true_eq_false, not_false_eq_true]; try omega)⟩
            | exact ⟨_, Frz.pure rfl, bF (by unfold FitsP; simp only [Int.reduceEq, true_or, or_true, false_or, or_false, true_and, and_true, false_and, and_false, not_true_eq_false, not_false_eq_true]; try omega)⟩
            | exact ⟨_, Frz.pure rfl, bD (by unfold FitsP; simp only [Int.reduceEq, true_or, or_true, false_or, or_false, true_and, and_true, false_and, and_false, not_true_eq_false, not_false_eq_true]; try omega)⟩
      · simp only [go_sem,Nat.reduceEqDiff,Nat.reduceAdd,Nat.reduceMul,↓reduceIte,↓dreduceIte,reduceCtorEq,Nat.reduceLeDiff,Nat.reduceLT,Nat.reduceSub,Int.reduceToNat,Int.reduceLE,Int.reduceLT, one_ref, one_imm, Int.reduceLT, Int.reduceEq, Int.reduceBEq, c_stack_right, hfn, eq_false hb1, eq_false h1, eq_false h2, eq_false h3, eq_false h4, eq_false h5, eq_false h6, eq_false h7, eq_false h8, eq_false h9, eq_false h10, eq_false h11, eq_false h12, eq_false h13]
        repeat' (first | (with_reducible apply And.intro) | intro _)
        all_goals first
          | omega
          | exact ⟨_, Frz.pure rfl, bF (by unfold FitsP; simp only [Int.reduceEq, true_or, or_true, false_or, or_false, true_and, and_true, false_and, and_false, not_true_eq_false, not_false_eq_true]; try omega)⟩
          | exact ⟨_, Frz.pure rfl, bD (by unfold FitsP; simp only [Int.reduceEq, true_or, or_true, false_or, or_false, true_and, and_true, false_and, and_false, not_true_eq_false, not_false_eq_true]; try omega)⟩
end Go.Proofs.Ytdfdkoajphcjbaa
