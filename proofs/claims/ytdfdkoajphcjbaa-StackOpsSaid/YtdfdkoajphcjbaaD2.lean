/-
  How deep the stack is: what an instruction takes and pushes, where it goes on: contracts of both. No condition.
-/
import Derived.Test.YtdfdkoajphcjbaaD1
import Derived.Test.YtdfdkoajphcjbaaS2
namespace Go.Proofs.Ytdfdkoajphcjbaa
set_option linter.unusedSimpArgs false
set_option linter.unusedVariables false
set_option maxRecDepth 10000
open Go.V

/-- A program of a size that is gone through. -/
structure InP (s : SP) : Prop where
  fn : s.funcs.length ≤ 1000000
  code : ∀ f, (s.fn f).code.length ≤ 1000000
  par : ∀ f, Int64 (s.fn f).params

theorem op_cases (op : Int) : op = 1 ∨ op = 2 ∨ op = 3 ∨ op = 4 ∨ op = 5 ∨ op = 6 ∨ op = 7 ∨ op = 8 ∨ op = 9 ∨ op = 10 ∨ op = 11 ∨ op = 12 ∨ op = 13 ∨ (op ≠ 1 ∧ op ≠ 2 ∧ op ≠ 3 ∧ op ≠ 4 ∧ op ≠ 5 ∧ op ≠ 6 ∧ op ≠ 7 ∧ op ≠ 8 ∧ op ≠ 9 ∧ op ≠ 10 ∧ op ≠ 11 ∧ op ≠ 12 ∧ op ≠ 13) := by
  by_cases h1 : op = 1
  · exact .inl h1
  by_cases h2 : op = 2
  · exact .inr (.inl h2)
  by_cases h3 : op = 3
  · exact .inr (.inr (.inl h3))
  by_cases h4 : op = 4
  · exact .inr (.inr (.inr (.inl h4)))
  by_cases h5 : op = 5
  · exact .inr (.inr (.inr (.inr (.inl h5))))
  by_cases h6 : op = 6
  · exact .inr (.inr (.inr (.inr (.inr (.inl h6)))))
  by_cases h7 : op = 7
  · exact .inr (.inr (.inr (.inr (.inr (.inr (.inl h7))))))
  by_cases h8 : op = 8
  · exact .inr (.inr (.inr (.inr (.inr (.inr (.inr (.inl h8)))))))
  by_cases h9 : op = 9
  · exact .inr (.inr (.inr (.inr (.inr (.inr (.inr (.inr (.inl h9))))))))
  by_cases h10 : op = 10
  · exact .inr (.inr (.inr (.inr (.inr (.inr (.inr (.inr (.inr (.inl h10)))))))))
  by_cases h11 : op = 11
  · exact .inr (.inr (.inr (.inr (.inr (.inr (.inr (.inr (.inr (.inr (.inl h11))))))))))
  by_cases h12 : op = 12
  · exact .inr (.inr (.inr (.inr (.inr (.inr (.inr (.inr (.inr (.inr (.inr (.inl h12)))))))))))
  by_cases h13 : op = 13
  · exact .inr (.inr (.inr (.inr (.inr (.inr (.inr (.inr (.inr (.inr (.inr (.inr (.inl h13))))))))))))
  exact .inr (.inr (.inr (.inr (.inr (.inr (.inr (.inr (.inr (.inr (.inr (.inr (.inr (⟨h1, h2, h3, h4, h5, h6, h7, h8, h9, h10, h11, h12, h13⟩)))))))))))))

theorem takes_c (s : SP) (f : Nat) (hf : f < s.funcs.length) (x : SI) : Contract Try.prog 39 [spA s, I f, siA x] (fun r => r = match tkS s f x with | some (t, p) => .tup [I t, I p, B true] | none => .tup [I 0, I 0, B false]) := by
  obtain ⟨op, a, b, n⟩ := x
  have hfn : s.funcs.getD f default = s.fn f := rfl
  have hfa : s.funcs.getD a.toNat default = s.fn a.toNat := rfl
  refine Contract.of_call (VCall.of_body hmix f_scref20_Takes (by simp) ?_)
  rcases op_cases op with rfl | rfl | rfl | rfl | rfl | rfl | rfl | rfl | rfl | rfl | rfl | rfl | rfl | ⟨h1, h2, h3, h4, h5, h6, h7, h8, h9, h10, h11, h12, h13⟩
  · -- 1
    simp only [go_sem,Nat.reduceEqDiff,Nat.reduceAdd,Nat.reduceMul,↓reduceIte,↓dreduceIte,reduceCtorEq,Nat.reduceLeDiff,Nat.reduceLT,Nat.reduceSub,Int.reduceToNat,Int.reduceLE,Int.reduceLT, one_ref, one_imm, Int.reduceEq, Int.reduceBEq, c_scref20_Takes]
    exact ⟨_, Frz.pure rfl, by simp [tkS]⟩
  · -- 2
    simp only [go_sem,Nat.reduceEqDiff,Nat.reduceAdd,Nat.reduceMul,↓reduceIte,↓dreduceIte,reduceCtorEq,Nat.reduceLeDiff,Nat.reduceLT,Nat.reduceSub,Int.reduceToNat,Int.reduceLE,Int.reduceLT, one_ref, one_imm, Int.reduceEq, Int.reduceBEq, c_scref20_Takes]
    exact ⟨_, Frz.pure rfl, by simp [tkS]⟩
  · -- 3
    simp only [go_sem,Nat.reduceEqDiff,Nat.reduceAdd,Nat.reduceMul,↓reduceIte,↓dreduceIte,reduceCtorEq,Nat.reduceLeDiff,Nat.reduceLT,Nat.reduceSub,Int.reduceToNat,Int.reduceLE,Int.reduceLT, one_ref, one_imm, Int.reduceEq, Int.reduceBEq, c_scref20_Takes]
    exact ⟨_, Frz.pure rfl, by simp [tkS]⟩
  · -- 4
    simp only [go_sem,Nat.reduceEqDiff,Nat.reduceAdd,Nat.reduceMul,↓reduceIte,↓dreduceIte,reduceCtorEq,Nat.reduceLeDiff,Nat.reduceLT,Nat.reduceSub,Int.reduceToNat,Int.reduceLE,Int.reduceLT, one_ref, one_imm, Int.reduceEq, Int.reduceBEq, c_scref20_Takes]
    exact ⟨_, Frz.pure rfl, by simp [tkS]⟩
  · -- 5
    simp only [go_sem,Nat.reduceEqDiff,Nat.reduceAdd,Nat.reduceMul,↓reduceIte,↓dreduceIte,reduceCtorEq,Nat.reduceLeDiff,Nat.reduceLT,Nat.reduceSub,Int.reduceToNat,Int.reduceLE,Int.reduceLT, one_ref, one_imm, Int.reduceEq, Int.reduceBEq, c_scref20_Takes]
    exact ⟨_, Frz.pure rfl, by simp [tkS]⟩
  · -- 6
    simp only [go_sem,Nat.reduceEqDiff,Nat.reduceAdd,Nat.reduceMul,↓reduceIte,↓dreduceIte,reduceCtorEq,Nat.reduceLeDiff,Nat.reduceLT,Nat.reduceSub,Int.reduceToNat,Int.reduceLE,Int.reduceLT, one_ref, one_imm, Int.reduceEq, Int.reduceBEq, c_scref20_Takes]
    exact ⟨_, Frz.pure rfl, by simp [tkS]⟩
  · -- 7
    simp only [go_sem,Nat.reduceEqDiff,Nat.reduceAdd,Nat.reduceMul,↓reduceIte,↓dreduceIte,reduceCtorEq,Nat.reduceLeDiff,Nat.reduceLT,Nat.reduceSub,Int.reduceToNat,Int.reduceLE,Int.reduceLT, one_ref, one_imm, Int.reduceEq, Int.reduceBEq, c_scref20_Takes]
    exact ⟨_, Frz.pure rfl, by simp [tkS]⟩
  · -- 8
    simp only [go_sem,Nat.reduceEqDiff,Nat.reduceAdd,Nat.reduceMul,↓reduceIte,↓dreduceIte,reduceCtorEq,Nat.reduceLeDiff,Nat.reduceLT,Nat.reduceSub,Int.reduceToNat,Int.reduceLE,Int.reduceLT, one_ref, one_imm, Int.reduceEq, Int.reduceBEq, c_scref20_Takes]
    exact ⟨_, Frz.pure rfl, by simp [tkS]⟩
  · -- 9
    simp only [go_sem,Nat.reduceEqDiff,Nat.reduceAdd,Nat.reduceMul,↓reduceIte,↓dreduceIte,reduceCtorEq,Nat.reduceLeDiff,Nat.reduceLT,Nat.reduceSub,Int.reduceToNat,Int.reduceLE,Int.reduceLT, one_ref, one_imm, Int.reduceEq, Int.reduceBEq, c_scref20_Takes]
    exact ⟨_, Frz.pure rfl, by simp [tkS]⟩
  · -- 10
    by_cases h1 : a < 0
    · simp only [go_sem,Nat.reduceEqDiff,Nat.reduceAdd,Nat.reduceMul,↓reduceIte,↓dreduceIte,reduceCtorEq,Nat.reduceLeDiff,Nat.reduceLT,Nat.reduceSub,Int.reduceToNat,Int.reduceLE,Int.reduceLT, one_ref, one_imm, Int.reduceEq, Int.reduceBEq, c_scref20_Takes, eq_true h1]
      exact ⟨_, Frz.pure rfl, by simp [tkS, show ¬ 0 ≤ a by omega]⟩
    by_cases h2 : (s.funcs.length : Int) ≤ a
    · simp only [go_sem,Nat.reduceEqDiff,Nat.reduceAdd,Nat.reduceMul,↓reduceIte,↓dreduceIte,reduceCtorEq,Nat.reduceLeDiff,Nat.reduceLT,Nat.reduceSub,Int.reduceToNat,Int.reduceLE,Int.reduceLT, one_ref, one_imm, Int.reduceEq, Int.reduceBEq, c_scref20_Takes, eq_false h1, eq_true h2]
      exact ⟨_, Frz.pure rfl, by simp [tkS, show ¬ a < (s.funcs.length : Int) by omega]⟩
    have ht : tkS s f ⟨10, a, b, n⟩ = some ((s.fn a.toNat).params, ((cntB (s.fn a.toNat).word : Nat) : Int)) := by simp [tkS, show 0 ≤ a by omega, show a < (s.funcs.length : Int) by omega]
    rw [ht]
    cases hw : (s.fn a.toNat).word
    · simp only [go_sem,Nat.reduceEqDiff,Nat.reduceAdd,Nat.reduceMul,↓reduceIte,↓dreduceIte,reduceCtorEq,Nat.reduceLeDiff,Nat.reduceLT,Nat.reduceSub,Int.reduceToNat,Int.reduceLE,Int.reduceLT, one_ref, one_imm, Int.reduceEq, Int.reduceBEq, c_scref20_Takes, eq_false h1, eq_false h2, hfa, hw]
      repeat (refine And.intro (by omega) ?_)
      exact ⟨_, Frz.pure rfl, rfl⟩
    · simp only [go_sem,Nat.reduceEqDiff,Nat.reduceAdd,Nat.reduceMul,↓reduceIte,↓dreduceIte,reduceCtorEq,Nat.reduceLeDiff,Nat.reduceLT,Nat.reduceSub,Int.reduceToNat,Int.reduceLE,Int.reduceLT, one_ref, one_imm, Int.reduceEq, Int.reduceBEq, c_scref20_Takes, eq_false h1, eq_false h2, hfa, hw]
      repeat (refine And.intro (by omega) ?_)
      exact ⟨_, Frz.pure rfl, rfl⟩
  · -- 11
    have ht : tkS s f ⟨11, a, b, n⟩ = some (((cntB (s.fn f).word : Nat) : Int), 0) := by simp [tkS]
    rw [ht]
    cases hw : (s.fn f).word
    · simp only [go_sem,Nat.reduceEqDiff,Nat.reduceAdd,Nat.reduceMul,↓reduceIte,↓dreduceIte,reduceCtorEq,Nat.reduceLeDiff,Nat.reduceLT,Nat.reduceSub,Int.reduceToNat,Int.reduceLE,Int.reduceLT, one_ref, one_imm, Int.reduceEq, Int.reduceBEq, c_scref20_Takes, hfn, hw]
      repeat (refine And.intro (by omega) ?_)
      exact ⟨_, Frz.pure rfl, rfl⟩
    · simp only [go_sem,Nat.reduceEqDiff,Nat.reduceAdd,Nat.reduceMul,↓reduceIte,↓dreduceIte,reduceCtorEq,Nat.reduceLeDiff,Nat.reduceLT,Nat.reduceSub,Int.reduceToNat,Int.reduceLE,Int.reduceLT, one_ref, one_imm, Int.reduceEq, Int.reduceBEq, c_scref20_Takes, hfn, hw]
      repeat (refine And.intro (by omega) ?_)
      exact ⟨_, Frz.pure rfl, rfl⟩
  · -- 12
    simp only [go_sem,Nat.reduceEqDiff,Nat.reduceAdd,Nat.reduceMul,↓reduceIte,↓dreduceIte,reduceCtorEq,Nat.reduceLeDiff,Nat.reduceLT,Nat.reduceSub,Int.reduceToNat,Int.reduceLE,Int.reduceLT, one_ref, one_imm, Int.reduceEq, Int.reduceBEq, c_scref20_Takes]
    exact ⟨_, Frz.pure rfl, by simp [tkS]⟩
  · -- 13
    simp only [go_sem,Nat.reduceEqDiff,Nat.reduceAdd,Nat.reduceMul,↓reduceIte,↓dreduceIte,reduceCtorEq,Nat.reduceLeDiff,Nat.reduceLT,Nat.reduceSub,Int.reduceToNat,Int.reduceLE,Int.reduceLT, one_ref, one_imm, Int.reduceEq, Int.reduceBEq, c_scref20_Takes]
    exact ⟨_, Frz.pure rfl, by simp [tkS]⟩
  · -- none
    simp only [go_sem,Nat.reduceEqDiff,Nat.reduceAdd,Nat.reduceMul,↓reduceIte,↓dreduceIte,reduceCtorEq,Nat.reduceLeDiff,Nat.reduceLT,Nat.reduceSub,Int.reduceToNat,Int.reduceLE,Int.reduceLT, one_ref, one_imm, Int.reduceEq, Int.reduceBEq, c_scref20_Takes, eq_false h1, eq_false h2, eq_false h3, eq_false h4, eq_false h5, eq_false h6, eq_false h7, eq_false h8, eq_false h9, eq_false h10, eq_false h11, eq_false h12, eq_false h13]
    exact ⟨_, Frz.pure rfl, by simp [tkS, h1, h2, h3, h4, h5, h6, h7, h8, h9, h10, h11, h12, h13]⟩

theorem behind_c (s : SP) (hs : InP s) (f : Nat) (hf : f < s.funcs.length) (x : SI) (d : Int) (hd : 0 ≤ d ∧ d ≤ 1000000) : Contract Try.prog 37 [spA s, I f, siA x, I d] (fun r => ∃ e ok, r = .tup [I e, B ok] ∧ (match effD s f x d with | some e' => ok = true ∧ e = e' | none => ok = false)) := by
  obtain ⟨op, a, b, n⟩ := x
  have hfn : s.funcs.getD f default = s.fn f := rfl
  have hfa : s.funcs.getD a.toNat default = s.fn a.toNat := rfl
  obtain ⟨hd1, hd2⟩ := hd
  have hcnt : ∀ b : Bool, Contract Try.prog 51 [B b] (fun r => r = I (cntB b : Nat)) := fun b => by
    refine Contract.of_call (VCall.of_body hmix f_stack_count (by simp) ?_)
    cases b
    · simp only [go_sem,Nat.reduceEqDiff,Nat.reduceAdd,Nat.reduceMul,↓reduceIte,↓dreduceIte,reduceCtorEq,Nat.reduceLeDiff,Nat.reduceLT,Nat.reduceSub,Int.reduceToNat,Int.reduceLE,Int.reduceLT, one_ref, one_imm, Int.reduceEq, Int.reduceBEq, c_stack_count]; exact ⟨_, Frz.pure rfl, rfl⟩
    · simp only [go_sem,Nat.reduceEqDiff,Nat.reduceAdd,Nat.reduceMul,↓reduceIte,↓dreduceIte,reduceCtorEq,Nat.reduceLeDiff,Nat.reduceLT,Nat.reduceSub,Int.reduceToNat,Int.reduceLE,Int.reduceLT, one_ref, one_imm, Int.reduceEq, Int.reduceBEq, c_stack_count]; exact ⟨_, Frz.pure rfl, rfl⟩
  refine Contract.of_call (VCall.of_body hmix f_stack_behind (by simp) ?_)
  rcases op_cases op with rfl | rfl | rfl | rfl | rfl | rfl | rfl | rfl | rfl | rfl | rfl | rfl | rfl | ⟨h1, h2, h3, h4, h5, h6, h7, h8, h9, h10, h11, h12, h13⟩
  · -- 1
    have ht : tkS s f ⟨1, a, b, n⟩ = some (0, 1) := by simp [tkS]
    have e1 : IntKind.i64.wrap (d - 0) = d - 0 := i64_in (by omega) (by omega)
    have e2 : IntKind.i64.wrap (d - 0 + 1) = d - 0 + 1 := i64_in (by omega) (by omega)
    simp only [go_sem,Nat.reduceEqDiff,Nat.reduceAdd,Nat.reduceMul,↓reduceIte,↓dreduceIte,reduceCtorEq,Nat.reduceLeDiff,Nat.reduceLT,Nat.reduceSub,Int.reduceToNat,Int.reduceLE,Int.reduceLT, one_ref, one_imm, Int.reduceEq, Int.reduceBEq, c_stack_behind, e1, e2]
    refine ⟨_, Frz.pure rfl, _, _, rfl, ?_⟩
    by_cases h4 : d < 0
    · simp [effD, ht, h4] <;> omega
    · simp [effD, ht, h4] <;> omega
  · -- 2
    have ht : tkS s f ⟨2, a, b, n⟩ = some (0, 1) := by simp [tkS]
    have e1 : IntKind.i64.wrap (d - 0) = d - 0 := i64_in (by omega) (by omega)
    have e2 : IntKind.i64.wrap (d - 0 + 1) = d - 0 + 1 := i64_in (by omega) (by omega)
    simp only [go_sem,Nat.reduceEqDiff,Nat.reduceAdd,Nat.reduceMul,↓reduceIte,↓dreduceIte,reduceCtorEq,Nat.reduceLeDiff,Nat.reduceLT,Nat.reduceSub,Int.reduceToNat,Int.reduceLE,Int.reduceLT, one_ref, one_imm, Int.reduceEq, Int.reduceBEq, c_stack_behind, e1, e2]
    refine ⟨_, Frz.pure rfl, _, _, rfl, ?_⟩
    by_cases h4 : d < 0
    · simp [effD, ht, h4] <;> omega
    · simp [effD, ht, h4] <;> omega
  · -- 3
    have ht : tkS s f ⟨3, a, b, n⟩ = some (1, 0) := by simp [tkS]
    have e1 : IntKind.i64.wrap (d - 1) = d - 1 := i64_in (by omega) (by omega)
    have e2 : IntKind.i64.wrap (d - 1 + 0) = d - 1 + 0 := i64_in (by omega) (by omega)
    simp only [go_sem,Nat.reduceEqDiff,Nat.reduceAdd,Nat.reduceMul,↓reduceIte,↓dreduceIte,reduceCtorEq,Nat.reduceLeDiff,Nat.reduceLT,Nat.reduceSub,Int.reduceToNat,Int.reduceLE,Int.reduceLT, one_ref, one_imm, Int.reduceEq, Int.reduceBEq, c_stack_behind, e1, e2]
    refine ⟨_, Frz.pure rfl, _, _, rfl, ?_⟩
    by_cases h4 : d < 1
    · simp [effD, ht, h4] <;> omega
    · simp [effD, ht, h4] <;> omega
  · -- 4
    have ht : tkS s f ⟨4, a, b, n⟩ = some (1, 1) := by simp [tkS]
    have e1 : IntKind.i64.wrap (d - 1) = d - 1 := i64_in (by omega) (by omega)
    have e2 : IntKind.i64.wrap (d - 1 + 1) = d - 1 + 1 := i64_in (by omega) (by omega)
    simp only [go_sem,Nat.reduceEqDiff,Nat.reduceAdd,Nat.reduceMul,↓reduceIte,↓dreduceIte,reduceCtorEq,Nat.reduceLeDiff,Nat.reduceLT,Nat.reduceSub,Int.reduceToNat,Int.reduceLE,Int.reduceLT, one_ref, one_imm, Int.reduceEq, Int.reduceBEq, c_stack_behind, e1, e2]
    refine ⟨_, Frz.pure rfl, _, _, rfl, ?_⟩
    by_cases h4 : d < 1
    · simp [effD, ht, h4] <;> omega
    · simp [effD, ht, h4] <;> omega
  · -- 5
    have ht : tkS s f ⟨5, a, b, n⟩ = some (2, 0) := by simp [tkS]
    have e1 : IntKind.i64.wrap (d - 2) = d - 2 := i64_in (by omega) (by omega)
    have e2 : IntKind.i64.wrap (d - 2 + 0) = d - 2 + 0 := i64_in (by omega) (by omega)
    simp only [go_sem,Nat.reduceEqDiff,Nat.reduceAdd,Nat.reduceMul,↓reduceIte,↓dreduceIte,reduceCtorEq,Nat.reduceLeDiff,Nat.reduceLT,Nat.reduceSub,Int.reduceToNat,Int.reduceLE,Int.reduceLT, one_ref, one_imm, Int.reduceEq, Int.reduceBEq, c_stack_behind, e1, e2]
    refine ⟨_, Frz.pure rfl, _, _, rfl, ?_⟩
    by_cases h4 : d < 2
    · simp [effD, ht, h4] <;> omega
    · simp [effD, ht, h4] <;> omega
  · -- 6
    have ht : tkS s f ⟨6, a, b, n⟩ = some (2, 1) := by simp [tkS]
    have e1 : IntKind.i64.wrap (d - 2) = d - 2 := i64_in (by omega) (by omega)
    have e2 : IntKind.i64.wrap (d - 2 + 1) = d - 2 + 1 := i64_in (by omega) (by omega)
    simp only [go_sem,Nat.reduceEqDiff,Nat.reduceAdd,Nat.reduceMul,↓reduceIte,↓dreduceIte,reduceCtorEq,Nat.reduceLeDiff,Nat.reduceLT,Nat.reduceSub,Int.reduceToNat,Int.reduceLE,Int.reduceLT, one_ref, one_imm, Int.reduceEq, Int.reduceBEq, c_stack_behind, e1, e2]
    refine ⟨_, Frz.pure rfl, _, _, rfl, ?_⟩
    by_cases h4 : d < 2
    · simp [effD, ht, h4] <;> omega
    · simp [effD, ht, h4] <;> omega
  · -- 7
    have ht : tkS s f ⟨7, a, b, n⟩ = some (1, 1) := by simp [tkS]
    have e1 : IntKind.i64.wrap (d - 1) = d - 1 := i64_in (by omega) (by omega)
    have e2 : IntKind.i64.wrap (d - 1 + 1) = d - 1 + 1 := i64_in (by omega) (by omega)
    simp only [go_sem,Nat.reduceEqDiff,Nat.reduceAdd,Nat.reduceMul,↓reduceIte,↓dreduceIte,reduceCtorEq,Nat.reduceLeDiff,Nat.reduceLT,Nat.reduceSub,Int.reduceToNat,Int.reduceLE,Int.reduceLT, one_ref, one_imm, Int.reduceEq, Int.reduceBEq, c_stack_behind, e1, e2]
    refine ⟨_, Frz.pure rfl, _, _, rfl, ?_⟩
    by_cases h4 : d < 1
    · simp [effD, ht, h4] <;> omega
    · simp [effD, ht, h4] <;> omega
  · -- 8
    have ht : tkS s f ⟨8, a, b, n⟩ = some (0, 0) := by simp [tkS]
    have e1 : IntKind.i64.wrap (d - 0) = d - 0 := i64_in (by omega) (by omega)
    have e2 : IntKind.i64.wrap (d - 0 + 0) = d - 0 + 0 := i64_in (by omega) (by omega)
    simp only [go_sem,Nat.reduceEqDiff,Nat.reduceAdd,Nat.reduceMul,↓reduceIte,↓dreduceIte,reduceCtorEq,Nat.reduceLeDiff,Nat.reduceLT,Nat.reduceSub,Int.reduceToNat,Int.reduceLE,Int.reduceLT, one_ref, one_imm, Int.reduceEq, Int.reduceBEq, c_stack_behind, e1, e2]
    refine ⟨_, Frz.pure rfl, _, _, rfl, ?_⟩
    by_cases h4 : d < 0
    · simp [effD, ht, h4] <;> omega
    · simp [effD, ht, h4] <;> omega
  · -- 9
    have ht : tkS s f ⟨9, a, b, n⟩ = some (1, 0) := by simp [tkS]
    have e1 : IntKind.i64.wrap (d - 1) = d - 1 := i64_in (by omega) (by omega)
    have e2 : IntKind.i64.wrap (d - 1 + 0) = d - 1 + 0 := i64_in (by omega) (by omega)
    simp only [go_sem,Nat.reduceEqDiff,Nat.reduceAdd,Nat.reduceMul,↓reduceIte,↓dreduceIte,reduceCtorEq,Nat.reduceLeDiff,Nat.reduceLT,Nat.reduceSub,Int.reduceToNat,Int.reduceLE,Int.reduceLT, one_ref, one_imm, Int.reduceEq, Int.reduceBEq, c_stack_behind, e1, e2]
    refine ⟨_, Frz.pure rfl, _, _, rfl, ?_⟩
    by_cases h4 : d < 1
    · simp [effD, ht, h4] <;> omega
    · simp [effD, ht, h4] <;> omega
  · -- 10
    by_cases h1 : a < 0
    · simp only [go_sem,Nat.reduceEqDiff,Nat.reduceAdd,Nat.reduceMul,↓reduceIte,↓dreduceIte,reduceCtorEq,Nat.reduceLeDiff,Nat.reduceLT,Nat.reduceSub,Int.reduceToNat,Int.reduceLE,Int.reduceLT, one_ref, one_imm, Int.reduceEq, Int.reduceBEq, c_stack_behind, eq_true h1]
      exact ⟨_, Frz.pure rfl, _, _, rfl, by simp [effD, tkS, show ¬ 0 ≤ a by omega]⟩
    by_cases h2 : (s.funcs.length : Int) ≤ a
    · simp only [go_sem,Nat.reduceEqDiff,Nat.reduceAdd,Nat.reduceMul,↓reduceIte,↓dreduceIte,reduceCtorEq,Nat.reduceLeDiff,Nat.reduceLT,Nat.reduceSub,Int.reduceToNat,Int.reduceLE,Int.reduceLT, one_ref, one_imm, Int.reduceEq, Int.reduceBEq, c_stack_behind, eq_false h1, eq_true h2]
      exact ⟨_, Frz.pure rfl, _, _, rfl, by simp [effD, tkS, show ¬ a < (s.funcs.length : Int) by omega]⟩
    have ht : tkS s f ⟨10, a, b, n⟩ = some ((s.fn a.toNat).params, ((cntB (s.fn a.toNat).word : Nat) : Int)) := by simp [tkS, show 0 ≤ a by omega, show a < (s.funcs.length : Int) by omega]
    have hp := hs.par a.toNat
    have hc0 : ((cntB (s.fn a.toNat).word : Nat) : Int) ≤ 1 := by cases (s.fn a.toNat).word <;> decide
    by_cases h3 : (s.fn a.toNat).params < 0
    · simp only [go_sem,Nat.reduceEqDiff,Nat.reduceAdd,Nat.reduceMul,↓reduceIte,↓dreduceIte,reduceCtorEq,Nat.reduceLeDiff,Nat.reduceLT,Nat.reduceSub,Int.reduceToNat,Int.reduceLE,Int.reduceLT, one_ref, one_imm, Int.reduceEq, Int.reduceBEq, c_stack_behind, eq_false h1, eq_false h2, hfa, eq_true h3]
      repeat (refine And.intro (by omega) ?_)
      exact ⟨_, Frz.pure rfl, _, _, rfl, by simp [effD, ht, h3]⟩
    have e1 : IntKind.i64.wrap (d - (s.fn a.toNat).params) = d - (s.fn a.toNat).params := i64_in (by have := hp.2; omega) (by omega)
    have e2 : IntKind.i64.wrap (d - (s.fn a.toNat).params + (cntB (s.fn a.toNat).word : Nat)) = d - (s.fn a.toNat).params + (cntB (s.fn a.toNat).word : Nat) := i64_in (by have := hp.2; omega) (by omega)
    simp only [go_sem,Nat.reduceEqDiff,Nat.reduceAdd,Nat.reduceMul,↓reduceIte,↓dreduceIte,reduceCtorEq,Nat.reduceLeDiff,Nat.reduceLT,Nat.reduceSub,Int.reduceToNat,Int.reduceLE,Int.reduceLT, one_ref, one_imm, Int.reduceEq, Int.reduceBEq, c_stack_behind, eq_false h1, eq_false h2, hfa, eq_false h3]
    repeat' (with_reducible apply And.intro)
    all_goals first
      | omega
      | (refine VCall.of_contract (hcnt (s.fn a.toNat).word) (SleL.pure rfl) fun r hr => ?_
         subst hr
         refine ⟨Stab.refl _ _ _, ?_⟩
         simp only [go_sem,Nat.reduceEqDiff,Nat.reduceAdd,Nat.reduceMul,↓reduceIte,↓dreduceIte,reduceCtorEq,Nat.reduceLeDiff,Nat.reduceLT,Nat.reduceSub,Int.reduceToNat,Int.reduceLE,Int.reduceLT, one_ref, one_imm, Int.reduceEq, Int.reduceBEq, hfa, e1, e2]
         repeat (refine And.intro (by omega) ?_)
         refine ⟨_, Frz.pure rfl, _, _, rfl, ?_⟩
         by_cases h4 : d < (s.fn a.toNat).params
         · simp [effD, ht, h3, h4]
         · simp [effD, ht, h3, h4]; omega)
  · -- 11
    have ht : tkS s f ⟨11, a, b, n⟩ = some (((cntB (s.fn f).word : Nat) : Int), 0) := by simp [tkS]
    simp only [go_sem,Nat.reduceEqDiff,Nat.reduceAdd,Nat.reduceMul,↓reduceIte,↓dreduceIte,reduceCtorEq,Nat.reduceLeDiff,Nat.reduceLT,Nat.reduceSub,Int.reduceToNat,Int.reduceLE,Int.reduceLT, one_ref, one_imm, Int.reduceEq, Int.reduceBEq, c_stack_behind, hfn]
    repeat (refine And.intro (by omega) ?_)
    refine VCall.of_contract (hcnt (s.fn f).word) (SleL.pure rfl) fun r hr => ?_
    subst hr
    simp only [go_sem,Nat.reduceEqDiff,Nat.reduceAdd,Nat.reduceMul,↓reduceIte,↓dreduceIte,reduceCtorEq,Nat.reduceLeDiff,Nat.reduceLT,Nat.reduceSub,Int.reduceToNat,Int.reduceLE,Int.reduceLT, one_ref, one_imm, Int.reduceEq, Int.reduceBEq, hfn]
    refine ⟨_, Frz.pure rfl, _, _, rfl, ?_⟩
    have hc0 : (0 : Int) ≤ ((cntB (s.fn f).word : Nat) : Int) := by omega
    generalize ((cntB (s.fn f).word : Nat) : Int) = c at *
    by_cases h4 : d = c
    · subst h4
      have h5 : ¬ d < 0 := by omega
      simp [effD, ht, h5]
    · have h5 : ¬ c < 0 := by omega
      simp [effD, ht, h4, h5]
  · -- 12
    have ht : tkS s f ⟨12, a, b, n⟩ = some (0, 1) := by simp [tkS]
    have e1 : IntKind.i64.wrap (d - 0) = d - 0 := i64_in (by omega) (by omega)
    have e2 : IntKind.i64.wrap (d - 0 + 1) = d - 0 + 1 := i64_in (by omega) (by omega)
    simp only [go_sem,Nat.reduceEqDiff,Nat.reduceAdd,Nat.reduceMul,↓reduceIte,↓dreduceIte,reduceCtorEq,Nat.reduceLeDiff,Nat.reduceLT,Nat.reduceSub,Int.reduceToNat,Int.reduceLE,Int.reduceLT, one_ref, one_imm, Int.reduceEq, Int.reduceBEq, c_stack_behind, e1, e2]
    refine ⟨_, Frz.pure rfl, _, _, rfl, ?_⟩
    by_cases h4 : d < 0
    · simp [effD, ht, h4] <;> omega
    · simp [effD, ht, h4] <;> omega
  · -- 13
    have ht : tkS s f ⟨13, a, b, n⟩ = some (1, 0) := by simp [tkS]
    have e1 : IntKind.i64.wrap (d - 1) = d - 1 := i64_in (by omega) (by omega)
    have e2 : IntKind.i64.wrap (d - 1 + 0) = d - 1 + 0 := i64_in (by omega) (by omega)
    simp only [go_sem,Nat.reduceEqDiff,Nat.reduceAdd,Nat.reduceMul,↓reduceIte,↓dreduceIte,reduceCtorEq,Nat.reduceLeDiff,Nat.reduceLT,Nat.reduceSub,Int.reduceToNat,Int.reduceLE,Int.reduceLT, one_ref, one_imm, Int.reduceEq, Int.reduceBEq, c_stack_behind, e1, e2]
    refine ⟨_, Frz.pure rfl, _, _, rfl, ?_⟩
    by_cases h4 : d < 1
    · simp [effD, ht, h4] <;> omega
    · simp [effD, ht, h4] <;> omega
  · -- none
    simp only [go_sem,Nat.reduceEqDiff,Nat.reduceAdd,Nat.reduceMul,↓reduceIte,↓dreduceIte,reduceCtorEq,Nat.reduceLeDiff,Nat.reduceLT,Nat.reduceSub,Int.reduceToNat,Int.reduceLE,Int.reduceLT, one_ref, one_imm, Int.reduceEq, Int.reduceBEq, c_stack_behind, eq_false h1, eq_false h2, eq_false h3, eq_false h4, eq_false h5, eq_false h6, eq_false h7, eq_false h8, eq_false h9, eq_false h10, eq_false h11, eq_false h12, eq_false h13]
    exact ⟨_, Frz.pure rfl, _, _, rfl, by simp [effD, tkS, h1, h2, h3, h4, h5, h6, h7, h8, h9, h10, h11, h12, h13]⟩

theorem nextR_c (x : SI) (k : Nat) (hk : k ≤ 1000000) : Contract Try.prog 40 [siA x, I k] (fun r => r = ints (nextL x k)) := by
  obtain ⟨op, a, b, n⟩ := x
  have e1 : IntKind.i64.wrap ((k : Int) + 1) = (k : Int) + 1 := i64_in (by omega) (by omega)
  refine Contract.of_call (VCall.of_body hmix f_scref20_Next (by simp) ?_)
  by_cases h8 : op = 8
  · subst h8
    simp only [go_sem,Nat.reduceEqDiff,Nat.reduceAdd,Nat.reduceMul,↓reduceIte,↓dreduceIte,reduceCtorEq,Nat.reduceLeDiff,Nat.reduceLT,Nat.reduceSub,Int.reduceToNat,Int.reduceLE,Int.reduceLT, one_ref, one_imm, Int.reduceEq, Int.reduceBEq, c_scref20_Next, e1]
    exact ⟨_, frz_ints (l := [a]) (Nat.zero_le _) rfl rfl, rfl⟩
  by_cases h9 : op = 9
  · subst h9
    simp only [go_sem,Nat.reduceEqDiff,Nat.reduceAdd,Nat.reduceMul,↓reduceIte,↓dreduceIte,reduceCtorEq,Nat.reduceLeDiff,Nat.reduceLT,Nat.reduceSub,Int.reduceToNat,Int.reduceLE,Int.reduceLT, one_ref, one_imm, Int.reduceEq, Int.reduceBEq, c_scref20_Next, e1]
    exact ⟨_, frz_ints (l := [(k : Int) + 1, a]) (Nat.zero_le _) rfl rfl, rfl⟩
  by_cases h11 : op = 11
  · subst h11
    simp only [go_sem,Nat.reduceEqDiff,Nat.reduceAdd,Nat.reduceMul,↓reduceIte,↓dreduceIte,reduceCtorEq,Nat.reduceLeDiff,Nat.reduceLT,Nat.reduceSub,Int.reduceToNat,Int.reduceLE,Int.reduceLT, one_ref, one_imm, Int.reduceEq, Int.reduceBEq, c_scref20_Next, e1]
    exact ⟨_, Frz.nil 1, rfl⟩
  simp only [go_sem,Nat.reduceEqDiff,Nat.reduceAdd,Nat.reduceMul,↓reduceIte,↓dreduceIte,reduceCtorEq,Nat.reduceLeDiff,Nat.reduceLT,Nat.reduceSub,Int.reduceToNat,Int.reduceLE,Int.reduceLT, one_ref, one_imm, Int.reduceEq, Int.reduceBEq, c_scref20_Next, e1, eq_false h8, eq_false h9, eq_false h11]
  refine ⟨_, frz_ints (l := [(k : Int) + 1]) (Nat.zero_le _) rfl rfl, ?_⟩
  simp [nextL, h8, h9, h11]

theorem nextS_c (x : SI) (k : Nat) (hk : k ≤ 1000000) : Contract Try.prog 38 [siA x, I k] (fun r => r = ints (nextL x k)) := by
  obtain ⟨op, a, b, n⟩ := x
  have e1 : IntKind.i64.wrap ((k : Int) + 1) = (k : Int) + 1 := i64_in (by omega) (by omega)
  refine Contract.of_call (VCall.of_body hmix f_stack_next (by simp) ?_)
  by_cases h8 : op = 8
  · subst h8
    simp only [go_sem,Nat.reduceEqDiff,Nat.reduceAdd,Nat.reduceMul,↓reduceIte,↓dreduceIte,reduceCtorEq,Nat.reduceLeDiff,Nat.reduceLT,Nat.reduceSub,Int.reduceToNat,Int.reduceLE,Int.reduceLT, one_ref, one_imm, Int.reduceEq, Int.reduceBEq, c_stack_next, e1]
    exact ⟨_, frz_ints (l := [a]) (Nat.zero_le _) rfl rfl, rfl⟩
  by_cases h9 : op = 9
  · subst h9
    simp only [go_sem,Nat.reduceEqDiff,Nat.reduceAdd,Nat.reduceMul,↓reduceIte,↓dreduceIte,reduceCtorEq,Nat.reduceLeDiff,Nat.reduceLT,Nat.reduceSub,Int.reduceToNat,Int.reduceLE,Int.reduceLT, one_ref, one_imm, Int.reduceEq, Int.reduceBEq, c_stack_next, e1]
    exact ⟨_, frz_ints (l := [(k : Int) + 1, a]) (Nat.zero_le _) rfl rfl, rfl⟩
  by_cases h11 : op = 11
  · subst h11
    simp only [go_sem,Nat.reduceEqDiff,Nat.reduceAdd,Nat.reduceMul,↓reduceIte,↓dreduceIte,reduceCtorEq,Nat.reduceLeDiff,Nat.reduceLT,Nat.reduceSub,Int.reduceToNat,Int.reduceLE,Int.reduceLT, one_ref, one_imm, Int.reduceEq, Int.reduceBEq, c_stack_next, e1]
    exact ⟨_, Frz.nil 1, rfl⟩
  simp only [go_sem,Nat.reduceEqDiff,Nat.reduceAdd,Nat.reduceMul,↓reduceIte,↓dreduceIte,reduceCtorEq,Nat.reduceLeDiff,Nat.reduceLT,Nat.reduceSub,Int.reduceToNat,Int.reduceLE,Int.reduceLT, one_ref, one_imm, Int.reduceEq, Int.reduceBEq, c_stack_next, e1, eq_false h8, eq_false h9, eq_false h11]
  refine ⟨_, frz_ints (l := [(k : Int) + 1]) (Nat.zero_le _) rfl rfl, ?_⟩
  simp [nextL, h8, h9, h11]
end Go.Proofs.Ytdfdkoajphcjbaa
