/-
  Which programs may be: the program's contract. No condition.
-/
import Derived.Test.YtdfdkoajphcjbaaD6
namespace Go.Proofs.Ytdfdkoajphcjbaa
set_option linter.unusedSimpArgs false
set_option linter.unusedVariables false
set_option maxRecDepth 10000
open Go.V

theorem sright_r (s : SP) (hs : InP s) (hi : Int64 s.words) (h64 : ∀ f, Int64 (s.fn f).slots ∧ Int64 (s.fn f).first) : Contract Try.prog 14 [spA s] (fun r => r = B (rightB s)) := by
  refine Contract.of_call (VCall.of_body hmix f_stack_Right (by simp) ?_)
  have hsf := hs.fn
  by_cases hw : 0 ≤ s.words ∧ s.words ≤ 32768 ∧ 1 ≤ s.funcs.length ∧ s.funcs.length ≤ 64
  rotate_left
  · simp only [go_sem,Nat.reduceEqDiff,Nat.reduceAdd,Nat.reduceMul,↓reduceIte,↓dreduceIte,reduceCtorEq,Nat.reduceLeDiff,Nat.reduceLT,Nat.reduceSub,Int.reduceToNat,Int.reduceLE,Int.reduceLT, one_ref, one_imm, Int.reduceLT, Int.reduceEq, Int.reduceBEq, ↓plen1, ponx, pg0, pg01, pg1, ps0, ps1, c_stack_Right]
    repeat' (first | (with_reducible apply And.intro) | intro _)
    all_goals first
      | exact ⟨_, Frz.pure rfl, rF (noW hw)⟩
      | (exfalso; omega)
  obtain ⟨hw1, hw2, hw3, hw4⟩ := hw
  simp only [go_sem,Nat.reduceEqDiff,Nat.reduceAdd,Nat.reduceMul,↓reduceIte,↓dreduceIte,reduceCtorEq,Nat.reduceLeDiff,Nat.reduceLT,Nat.reduceSub,Int.reduceToNat,Int.reduceLE,Int.reduceLT, one_ref, one_imm, Int.reduceLT, Int.reduceEq, Int.reduceBEq, ↓plen1, ponx, pg0, pg01, pg1, ps0, ps1, c_stack_Right, eq_false (show ¬ s.words < 0 by omega), eq_false (show ¬ (32768 : Int) < s.words by omega), eq_false (show ¬ (s.funcs.length : Int) < 1 by omega), eq_false (show ¬ (64 : Int) < (s.funcs.length : Int) by omega)]
  refine VW_loop (fun q : Nat × List VObj × Nat => ⟨[(1, .ptr 0 0 0), (32, fnsA s.funcs), (33, I s.funcs.length), (34, I q.1)], ⟨0, 24, 1, [I s.words, fnsA s.funcs]⟩ :: q.2.1, q.2.2⟩)
    (fun q => q.1 ≤ s.funcs.length ∧ ∀ g, g < q.1 → FunH s g ∧ ∀ k, k < (s.fn g).code.length → FitsP s g (s.ins g k)) (fun q => s.funcs.length - q.1) (0, [], 1) (Wk.mk (by simp [get_cons]) ⟨[], rfl⟩ (Nat.le_refl _)) ⟨Nat.zero_le _, fun g hg => absurd hg (Nat.not_lt_zero _)⟩ ?_
  rintro ⟨f, T, nx⟩ ⟨h1, h2⟩
  simp only at h1 h2 ⊢
  by_cases hf : (f : Int) < (s.funcs.length : Int)
  · have hfl : f < s.funcs.length := by omega
    have hfn : s.funcs.getD f default = s.fn f := rfl
    have e0 : IntKind.i64.wrap ((f : Int) + 1) = ((f + 1 : Nat) : Int) := by rw [i64_in (by omega) (by omega)]; omega
    by_cases hH : 0 ≤ (s.fn f).params ∧ (s.fn f).params ≤ (s.fn f).slots ∧ 0 ≤ (s.fn f).first ∧ (s.fn f).slots ≤ s.words ∧ (s.fn f).first ≤ s.words - (s.fn f).slots
    rotate_left
    · by_cases hz : 0 ≤ (s.fn f).first ∧ (s.fn f).first ≤ s.words
      · have e1 : IntKind.i64.wrap (s.words - (s.fn f).first) = s.words - (s.fn f).first := i64_in (by omega) (by omega)
        simp only [go_sem,Nat.reduceEqDiff,Nat.reduceAdd,Nat.reduceMul,↓reduceIte,↓dreduceIte,reduceCtorEq,Nat.reduceLeDiff,Nat.reduceLT,Nat.reduceSub,Int.reduceToNat,Int.reduceLE,Int.reduceLT, one_ref, one_imm, Int.reduceLT, Int.reduceEq, Int.reduceBEq, ↓plen1, ponx, pg0, pg01, pg1, ps0, ps1, hfn, eq_true hf, e1]
        repeat' (first | (with_reducible apply And.intro) | intro _)
        all_goals first
          | exact ⟨_, Frz.pure rfl, rF (noH hfl hH)⟩
          | omega
          | (exfalso; omega)
      · simp only [go_sem,Nat.reduceEqDiff,Nat.reduceAdd,Nat.reduceMul,↓reduceIte,↓dreduceIte,reduceCtorEq,Nat.reduceLeDiff,Nat.reduceLT,Nat.reduceSub,Int.reduceToNat,Int.reduceLE,Int.reduceLT, one_ref, one_imm, Int.reduceLT, Int.reduceEq, Int.reduceBEq, ↓plen1, ponx, pg0, pg01, pg1, ps0, ps1, hfn, eq_true hf]
        repeat' (first | (with_reducible apply And.intro) | intro _)
        all_goals first
          | exact ⟨_, Frz.pure rfl, rF (noH hfl hH)⟩
          | omega
          | (exfalso; omega)
    obtain ⟨q1, q2, q3, q4, q5⟩ := hH
    have e1 : IntKind.i64.wrap (s.words - (s.fn f).first) = s.words - (s.fn f).first := i64_in (by omega) (by omega)
    have hcl := hs.code f
    simp only [go_sem,Nat.reduceEqDiff,Nat.reduceAdd,Nat.reduceMul,↓reduceIte,↓dreduceIte,reduceCtorEq,Nat.reduceLeDiff,Nat.reduceLT,Nat.reduceSub,Int.reduceToNat,Int.reduceLE,Int.reduceLT, one_ref, one_imm, Int.reduceLT, Int.reduceEq, Int.reduceBEq, ↓plen1, ponx, pg0, pg01, pg1, ps0, ps1, hfn, eq_true hf, e1, eq_false (show ¬ (s.fn f).params < 0 by omega), eq_false (show ¬ (s.fn f).slots < (s.fn f).params by omega), eq_false (show ¬ (s.fn f).first < 0 by omega), eq_false (show ¬ s.words < (s.fn f).first by omega), eq_false (show ¬ s.words - (s.fn f).first < (s.fn f).slots by omega)]
    repeat (refine And.intro (by omega) ?_)
    refine VW_loop (fun q : Nat × List VObj × Nat => ⟨[(1, .ptr 0 0 0), (32, fnsA s.funcs), (33, I s.funcs.length), (34, I f), (3, I f), (70, .imm 4 ((s.fn f).code.map siA)), (71, I (s.fn f).code.length), (72, I q.1)], ⟨0, 24, 1, [I s.words, fnsA s.funcs]⟩ :: q.2.1, q.2.2⟩)
      (fun q => q.1 ≤ (s.fn f).code.length ∧ ∀ k, k < q.1 → FitsP s f (s.ins f k)) (fun q => (s.fn f).code.length - q.1) (0, _, _) (Wk.mk (by simp [get_cons]) ⟨[], (List.append_nil _).symm⟩ (Nat.le_refl _)) ⟨Nat.zero_le _, fun g hg => absurd hg (Nat.not_lt_zero _)⟩ ?_
    rintro ⟨i, T2, nx2⟩ ⟨u1, u2⟩
    simp only at u1 u2 ⊢
    by_cases hi : (i : Int) < ((s.fn f).code.length : Int)
    · have hin : (s.fn f).code.getD i default = s.ins f i := rfl
      have e2 : IntKind.i64.wrap ((i : Int) + 1) = ((i + 1 : Nat) : Int) := by rw [i64_in (by omega) (by omega)]; omega
      simp only [go_sem,Nat.reduceEqDiff,Nat.reduceAdd,Nat.reduceMul,↓reduceIte,↓dreduceIte,reduceCtorEq,Nat.reduceLeDiff,Nat.reduceLT,Nat.reduceSub,Int.reduceToNat,Int.reduceLE,Int.reduceLT, one_ref, one_imm, Int.reduceLT, Int.reduceEq, Int.reduceBEq, ↓plen1, ponx, pg0, pg01, pg1, ps0, ps1, eq_true hi, hin]
      repeat (refine And.intro (by omega) ?_)
      refine VCall.of_contract (sright_c s ⟨hw1, hw2⟩ f hfl (s.ins f i)) (SleL.pure rfl) fun r hr => ?_
      subst hr
      by_cases hx : FitsP s f (s.ins f i)
      · simp only [go_sem,Nat.reduceEqDiff,Nat.reduceAdd,Nat.reduceMul,↓reduceIte,↓dreduceIte,reduceCtorEq,Nat.reduceLeDiff,Nat.reduceLT,Nat.reduceSub,Int.reduceToNat,Int.reduceLE,Int.reduceLT, one_ref, one_imm, Int.reduceLT, Int.reduceEq, Int.reduceBEq, ↓plen1, ponx, pg0, pg01, pg1, ps0, ps1, decide_eq_true hx, e2]
        exact ⟨(i + 1, _, _), ⟨by simp only; omega, fun k hk => by
          rcases Nat.lt_succ_iff_lt_or_eq.1 hk with hk | rfl
          · exact u2 k hk
          · exact hx⟩, by simp only; omega, Wk.mk (by simp [get_cons]) ⟨[], (List.append_nil _).symm⟩ (Nat.le_refl _)⟩
      · simp only [go_sem,Nat.reduceEqDiff,Nat.reduceAdd,Nat.reduceMul,↓reduceIte,↓dreduceIte,reduceCtorEq,Nat.reduceLeDiff,Nat.reduceLT,Nat.reduceSub,Int.reduceToNat,Int.reduceLE,Int.reduceLT, one_ref, one_imm, Int.reduceLT, Int.reduceEq, Int.reduceBEq, ↓plen1, ponx, pg0, pg01, pg1, ps0, ps1, decide_eq_false hx]
        exact ⟨_, Frz.pure rfl, rF fun hr => hx ((hr.fn f hfl).fits i (by omega))⟩
    · simp only [go_sem,Nat.reduceEqDiff,Nat.reduceAdd,Nat.reduceMul,↓reduceIte,↓dreduceIte,reduceCtorEq,Nat.reduceLeDiff,Nat.reduceLT,Nat.reduceSub,Int.reduceToNat,Int.reduceLE,Int.reduceLT, one_ref, one_imm, Int.reduceLT, Int.reduceEq, Int.reduceBEq, ↓plen1, ponx, pg0, pg01, pg1, ps0, ps1, eq_false hi, e0]
      exact ⟨(f + 1, T2, nx2), ⟨by simp only; omega, fun g hg => by
        rcases Nat.lt_succ_iff_lt_or_eq.1 hg with hg | rfl
        · exact h2 g hg
        · exact ⟨⟨q1, q2, q3, q4, q5⟩, fun k hk => u2 k (by omega)⟩⟩, by simp only; omega, Wk.mk (by simp [get_cons]) ⟨[], (List.append_nil _).symm⟩ (Nat.le_refl _)⟩
  have hfe : f = s.funcs.length := by omega
  simp only [go_sem,Nat.reduceEqDiff,Nat.reduceAdd,Nat.reduceMul,↓reduceIte,↓dreduceIte,reduceCtorEq,Nat.reduceLeDiff,Nat.reduceLT,Nat.reduceSub,Int.reduceToNat,Int.reduceLE,Int.reduceLT, one_ref, one_imm, Int.reduceLT, Int.reduceEq, Int.reduceBEq, ↓plen1, ponx, pg0, pg01, pg1, ps0, ps1, eq_false hf]
  refine VW_loop (fun q : Nat => ⟨[(1, .ptr 0 0 0), (85, I s.funcs.length), (86, I q)], ⟨0, 24, 1, [I s.words, fnsA s.funcs]⟩ :: T, nx⟩)
    (fun q => q ≤ s.funcs.length ∧ ∀ g, g < q → ∃ dl, Sol s g dl) (fun q => s.funcs.length - q) 0 (Wk.mk (by simp [get_cons]) ⟨[], (List.append_nil _).symm⟩ (Nat.le_refl _)) ⟨Nat.zero_le _, fun g hg => absurd hg (Nat.not_lt_zero _)⟩ ?_
  rintro g ⟨w1, w2⟩
  by_cases hg : (g : Int) < (s.funcs.length : Int)
  · have hgl : g < s.funcs.length := by omega
    have e0 : IntKind.i64.wrap ((g : Int) + 1) = ((g + 1 : Nat) : Int) := by rw [i64_in (by omega) (by omega)]; omega
    simp only [go_sem,Nat.reduceEqDiff,Nat.reduceAdd,Nat.reduceMul,↓reduceIte,↓dreduceIte,reduceCtorEq,Nat.reduceLeDiff,Nat.reduceLT,Nat.reduceSub,Int.reduceToNat,Int.reduceLE,Int.reduceLT, one_ref, one_imm, Int.reduceLT, Int.reduceEq, Int.reduceBEq, ↓plen1, ponx, pg0, pg01, pg1, ps0, ps1, eq_true hg]
    refine VCall.of_contract (sdepths_c s hs g hgl) (SleL.pure rfl) fun r hr => ?_
    obtain ⟨dl, ok, rfl, hd⟩ := hr
    obtain ⟨d1, d2⟩ := depths_ok hd
    cases ok with
    | true =>
      simp only [go_sem,Nat.reduceEqDiff,Nat.reduceAdd,Nat.reduceMul,↓reduceIte,↓dreduceIte,reduceCtorEq,Nat.reduceLeDiff,Nat.reduceLT,Nat.reduceSub,Int.reduceToNat,Int.reduceLE,Int.reduceLT, one_ref, one_imm, Int.reduceLT, Int.reduceEq, Int.reduceBEq, ↓plen1, ponx, pg0, pg01, pg1, ps0, ps1, e0]
      exact ⟨g + 1, ⟨by omega, fun k hk => by
        rcases Nat.lt_succ_iff_lt_or_eq.1 hk with hk | rfl
        · exact w2 k hk
        · exact d1 rfl⟩, by omega, Wk.mk (by simp [get_cons]) ⟨[], (List.append_nil _).symm⟩ (Nat.le_refl _)⟩
    | false =>
      simp only [go_sem,Nat.reduceEqDiff,Nat.reduceAdd,Nat.reduceMul,↓reduceIte,↓dreduceIte,reduceCtorEq,Nat.reduceLeDiff,Nat.reduceLT,Nat.reduceSub,Int.reduceToNat,Int.reduceLE,Int.reduceLT, one_ref, one_imm, Int.reduceLT, Int.reduceEq, Int.reduceBEq, ↓plen1, ponx, pg0, pg01, pg1, ps0, ps1]
      exact ⟨_, Frz.pure rfl, rF fun hr => d2 rfl (hr.fn g hgl).sol⟩
  · have e3 : IntKind.i64.wrap ((s.funcs.length : Int) - 1) = ((s.funcs.length - 1 : Nat) : Int) := by rw [i64_in (by omega) (by omega)]; omega
    have hfn : s.funcs.getD (s.funcs.length - 1) default = s.fn (s.funcs.length - 1) := rfl
    have hall : ∀ k, k < s.funcs.length → FunP s k := fun k hk => ⟨(h2 k (by omega)).1, (h2 k (by omega)).2, w2 k (by omega)⟩
    by_cases l1 : (s.fn (s.funcs.length - 1)).params = 0
    · cases l2 : (s.fn (s.funcs.length - 1)).word with
      | false =>
        simp only [go_sem,Nat.reduceEqDiff,Nat.reduceAdd,Nat.reduceMul,↓reduceIte,↓dreduceIte,reduceCtorEq,Nat.reduceLeDiff,Nat.reduceLT,Nat.reduceSub,Int.reduceToNat,Int.reduceLE,Int.reduceLT, one_ref, one_imm, Int.reduceLT, Int.reduceEq, Int.reduceBEq, ↓plen1, ponx, pg0, pg01, pg1, ps0, ps1, eq_false hg, e3, hfn, l2, eq_true l1]
        repeat (refine And.intro (by omega) ?_)
        exact ⟨_, Frz.pure rfl, rT ⟨hw1, hw2, hw3, hw4, hall, l1, l2⟩⟩
      | true =>
        simp only [go_sem,Nat.reduceEqDiff,Nat.reduceAdd,Nat.reduceMul,↓reduceIte,↓dreduceIte,reduceCtorEq,Nat.reduceLeDiff,Nat.reduceLT,Nat.reduceSub,Int.reduceToNat,Int.reduceLE,Int.reduceLT, one_ref, one_imm, Int.reduceLT, Int.reduceEq, Int.reduceBEq, ↓plen1, ponx, pg0, pg01, pg1, ps0, ps1, eq_false hg, e3, hfn, l2, eq_true l1]
        repeat (refine And.intro (by omega) ?_)
        exact ⟨_, Frz.pure rfl, rF fun hr => by have := hr.lw; rw [l2] at this; cases this⟩
    · simp only [go_sem,Nat.reduceEqDiff,Nat.reduceAdd,Nat.reduceMul,↓reduceIte,↓dreduceIte,reduceCtorEq,Nat.reduceLeDiff,Nat.reduceLT,Nat.reduceSub,Int.reduceToNat,Int.reduceLE,Int.reduceLT, one_ref, one_imm, Int.reduceLT, Int.reduceEq, Int.reduceBEq, ↓plen1, ponx, pg0, pg01, pg1, ps0, ps1, eq_false hg, e3, hfn, eq_false l1]
      repeat (refine And.intro (by omega) ?_)
      exact ⟨_, Frz.pure rfl, rF fun hr => l1 hr.lp⟩
end Go.Proofs.Ytdfdkoajphcjbaa
