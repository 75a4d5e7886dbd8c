/-
  Which programs may be: contracts of both. No condition.
-/
import Derived.Test.YtdfdkoajphcjbaaD5
namespace Go.Proofs.Ytdfdkoajphcjbaa
set_option linter.unusedSimpArgs false
set_option linter.unusedVariables false
set_option maxRecDepth 10000
open Go.V

theorem plen1 {α : Type} (a : α) (T : List α) : (a :: T).length = T.length + 1 := rfl
structure FunH (s : SP) (f : Nat) : Prop where
  p0 : 0 ≤ (s.fn f).params
  ps : (s.fn f).params ≤ (s.fn f).slots
  f0 : 0 ≤ (s.fn f).first
  sw : (s.fn f).slots ≤ s.words
  fs : (s.fn f).first ≤ s.words - (s.fn f).slots
structure FunP (s : SP) (f : Nat) : Prop where
  h : FunH s f
  fits : ∀ k, k < (s.fn f).code.length → FitsP s f (s.ins f k)
  sol : ∃ dl, Sol s f dl
structure RightP (s : SP) : Prop where
  w0 : 0 ≤ s.words
  w1 : s.words ≤ 32768
  n0 : 1 ≤ s.funcs.length
  n1 : s.funcs.length ≤ 64
  fn : ∀ f, f < s.funcs.length → FunP s f
  lp : (s.fn (s.funcs.length - 1)).params = 0
  lw : (s.fn (s.funcs.length - 1)).word = false
noncomputable def rightB (s : SP) : Bool := @decide (RightP s) (Classical.propDecidable _)
theorem rT {s : SP} (h : RightP s) : B true = B (rightB s) := by
  unfold rightB; rw [@decide_eq_true _ (Classical.propDecidable _) h]
theorem rF {s : SP} (h : ¬ RightP s) : B false = B (rightB s) := by
  unfold rightB; rw [@decide_eq_false _ (Classical.propDecidable _) h]
theorem rightB_iff {s : SP} : rightB s = true ↔ RightP s := by
  unfold rightB; exact @decide_eq_true_iff _ (Classical.propDecidable _)
theorem noH {s : SP} {f : Nat} (hf : f < s.funcs.length) (h : ¬ (0 ≤ (s.fn f).params ∧ (s.fn f).params ≤ (s.fn f).slots ∧ 0 ≤ (s.fn f).first ∧ (s.fn f).slots ≤ s.words ∧ (s.fn f).first ≤ s.words - (s.fn f).slots)) : ¬ RightP s := fun hr => by
  obtain ⟨a, b, c, d, e⟩ := (hr.fn f hf).h
  exact h ⟨a, b, c, d, e⟩
theorem noW {s : SP} (h : ¬ (0 ≤ s.words ∧ s.words ≤ 32768 ∧ 1 ≤ s.funcs.length ∧ s.funcs.length ≤ 64)) : ¬ RightP s := fun hr => h ⟨hr.w0, hr.w1, hr.n0, hr.n1⟩
theorem depths_ok {s : SP} {f : Nat} {dl : List Int} {ok : Bool} (h : DepthsR s f dl ok) : (ok = true → ∃ dl, Sol s f dl) ∧ (ok = false → ¬ ∃ dl, Sol s f dl) :=
  ⟨fun e => ⟨dl, (h.1 e).1⟩, fun e ⟨out, ho⟩ => by have := (h.2 out ho).1; rw [e] at this; cases this⟩

theorem refright_c (s : SP) (hs : InP s) (hi : Int64 s.words) (h64 : ∀ f, Int64 (s.fn f).slots ∧ Int64 (s.fn f).first) : Contract Try.prog 11 [spA s] (fun r => r = B (rightB s)) := by
  refine Contract.of_call (VCall.of_body hmix f_scref20_Right (by simp) ?_)
  have hsf := hs.fn
  by_cases hw : 0 ≤ s.words ∧ s.words ≤ 32768 ∧ 1 ≤ s.funcs.length ∧ s.funcs.length ≤ 64
  rotate_left
  · simp only [go_sem,Nat.reduceEqDiff,Nat.reduceAdd,Nat.reduceMul,↓reduceIte,↓dreduceIte,reduceCtorEq,Nat.reduceLeDiff,Nat.reduceLT,Nat.reduceSub,Int.reduceToNat,Int.reduceLE,Int.reduceLT, one_ref, one_imm, Int.reduceLT, Int.reduceEq, Int.reduceBEq, ↓plen1, ponx, pg0, pg01, pg1, ps0, ps1, c_scref20_Right]
    repeat' (first | (with_reducible apply And.intro) | intro _)
    all_goals first
      | exact ⟨_, Frz.pure rfl, rF (noW hw)⟩
      | (exfalso; omega)
  obtain ⟨hw1, hw2, hw3, hw4⟩ := hw
  simp only [go_sem,Nat.reduceEqDiff,Nat.reduceAdd,Nat.reduceMul,↓reduceIte,↓dreduceIte,reduceCtorEq,Nat.reduceLeDiff,Nat.reduceLT,Nat.reduceSub,Int.reduceToNat,Int.reduceLE,Int.reduceLT, one_ref, one_imm, Int.reduceLT, Int.reduceEq, Int.reduceBEq, ↓plen1, ponx, pg0, pg01, pg1, ps0, ps1, c_scref20_Right, eq_false (show ¬ s.words < 0 by omega), eq_false (show ¬ (32768 : Int) < s.words by omega), eq_false (show ¬ (s.funcs.length : Int) < 1 by omega), eq_false (show ¬ (64 : Int) < (s.funcs.length : Int) by omega)]
  refine VW_loop (fun q : Nat × List VObj × Nat => ⟨[(1, .ptr 0 0 0), (3, I q.1)], ⟨0, 24, 1, [I s.words, fnsA s.funcs]⟩ :: q.2.1, q.2.2⟩)
    (fun q => q.1 ≤ s.funcs.length ∧ ∀ g, g < q.1 → FunP s g) (fun q => s.funcs.length - q.1) (0, [], 1) (Wk.mk (by simp [get_cons]) ⟨[], rfl⟩ (Nat.le_refl _)) ⟨Nat.zero_le _, fun g hg => absurd hg (Nat.not_lt_zero _)⟩ ?_
  rintro ⟨f, T, nx⟩ ⟨h1, h2⟩
  simp only at h1 h2 ⊢
  by_cases hf : (f : Int) < (s.funcs.length : Int)
  · have hfl : f < s.funcs.length := by omega
    have hfn : s.funcs.getD f default = s.fn f := rfl
    have e0 : IntKind.i64.wrap ((f : Int) + 1) = ((f + 1 : Nat) : Int) := by rw [i64_in (by omega) (by omega)]; omega
    by_cases hH : 0 ≤ (s.fn f).params ∧ (s.fn f).params ≤ (s.fn f).slots ∧ 0 ≤ (s.fn f).first ∧ (s.fn f).slots ≤ s.words ∧ (s.fn f).first ≤ s.words - (s.fn f).slots
    rotate_left
    · by_cases hz : 0 ≤ (s.fn f).slots ∧ (s.fn f).slots ≤ s.words
      · have e1 : IntKind.i64.wrap (s.words - (s.fn f).slots) = s.words - (s.fn f).slots := i64_in (by omega) (by omega)
        simp only [go_sem,Nat.reduceEqDiff,Nat.reduceAdd,Nat.reduceMul,↓reduceIte,↓dreduceIte,reduceCtorEq,Nat.reduceLeDiff,Nat.reduceLT,Nat.reduceSub,Int.reduceToNat,Int.reduceLE,Int.reduceLT, one_ref, one_imm, Int.reduceLT, Int.reduceEq, Int.reduceBEq, ↓plen1, ponx, pg0, pg01, pg1, ps0, ps1, hfn, eq_true hf, e1]
        repeat' (first | (with_reducible apply And.intro) | intro _)
        all_goals first
          | exact ⟨_, Frz.pure rfl, rF (noH hfl hH)⟩
          | omega
          | (exfalso; omega)
      · simp only [go_sem,Nat.reduceEqDiff,Nat.reduceAdd,Nat.reduceMul,↓reduceIte,↓dreduceIte,reduceCtorEq,Nat.reduceLeDiff,Nat.reduceLT,Nat.reduceSub,Int.reduceToNat,Int.reduceLE,Int.reduceLT, one_ref, one_imm, Int.reduceLT, Int.reduceEq, Int.reduceBEq, ↓plen1, ponx, pg0, pg01, pg1, ps0, ps1, hfn, eq_true hf]
        repeat' (first | (with_reducible apply And.intro) | intro _)
        all_goals first
          | exact ⟨_, Frz.pure rfl, rF (noH hfl hH)⟩
          | omega
          | (exfalso; omega)
    obtain ⟨q1, q2, q3, q4, q5⟩ := hH
    have e1 : IntKind.i64.wrap (s.words - (s.fn f).slots) = s.words - (s.fn f).slots := i64_in (by omega) (by omega)
    have hcl := hs.code f
    simp only [go_sem,Nat.reduceEqDiff,Nat.reduceAdd,Nat.reduceMul,↓reduceIte,↓dreduceIte,reduceCtorEq,Nat.reduceLeDiff,Nat.reduceLT,Nat.reduceSub,Int.reduceToNat,Int.reduceLE,Int.reduceLT, one_ref, one_imm, Int.reduceLT, Int.reduceEq, Int.reduceBEq, ↓plen1, ponx, pg0, pg01, pg1, ps0, ps1, hfn, eq_true hf, e1, eq_false (show ¬ (s.fn f).params < 0 by omega), eq_false (show ¬ (s.fn f).slots < (s.fn f).params by omega), eq_false (show ¬ (s.fn f).first < 0 by omega), eq_false (show ¬ s.words < (s.fn f).slots by omega), eq_false (show ¬ s.words - (s.fn f).slots < (s.fn f).first by omega)]
    repeat (refine And.intro (by omega) ?_)
    refine VW_loop (fun i : Nat => ⟨[(1, .ptr 0 0 0), (3, I f), (4, .ptr (T.length + 1) nx 0), (5, I i)], ⟨0, 24, 1, [I s.words, fnsA s.funcs]⟩ :: (T ++ [⟨nx, 39, 1, [I (s.fn f).params, I (s.fn f).slots, I (s.fn f).first, B (s.fn f).word, .imm 4 ((s.fn f).code.map siA)]⟩]), nx + 1⟩)
      (fun i => i ≤ (s.fn f).code.length ∧ ∀ k, k < i → FitsP s f (s.ins f k)) (fun i => (s.fn f).code.length - i) 0 (Wk.mk (by simp [get_cons]) ⟨[], (List.append_nil _).symm⟩ (Nat.le_refl _)) ⟨Nat.zero_le _, fun g hg => absurd hg (Nat.not_lt_zero _)⟩ ?_
    rintro i ⟨u1, u2⟩
    by_cases hi : (i : Int) < ((s.fn f).code.length : Int)
    · have hin : (s.fn f).code.getD i default = s.ins f i := rfl
      have e2 : IntKind.i64.wrap ((i : Int) + 1) = ((i + 1 : Nat) : Int) := by rw [i64_in (by omega) (by omega)]; omega
      simp only [go_sem,Nat.reduceEqDiff,Nat.reduceAdd,Nat.reduceMul,↓reduceIte,↓dreduceIte,reduceCtorEq,Nat.reduceLeDiff,Nat.reduceLT,Nat.reduceSub,Int.reduceToNat,Int.reduceLE,Int.reduceLT, one_ref, one_imm, Int.reduceLT, Int.reduceEq, Int.reduceBEq, ↓plen1, ponx, pg0, pg01, pg1, ps0, ps1, eq_true hi, hin]
      repeat (refine And.intro (by omega) ?_)
      refine VCall.of_contract (reffits_c s ⟨hw1, hw2⟩ f hfl (s.ins f i)) (SleL.pure rfl) fun r hr => ?_
      subst hr
      by_cases hx : FitsP s f (s.ins f i)
      · simp only [go_sem,Nat.reduceEqDiff,Nat.reduceAdd,Nat.reduceMul,↓reduceIte,↓dreduceIte,reduceCtorEq,Nat.reduceLeDiff,Nat.reduceLT,Nat.reduceSub,Int.reduceToNat,Int.reduceLE,Int.reduceLT, one_ref, one_imm, Int.reduceLT, Int.reduceEq, Int.reduceBEq, ↓plen1, ponx, pg0, pg01, pg1, ps0, ps1, decide_eq_true hx, e2]
        exact ⟨i + 1, ⟨by omega, fun k hk => by
          rcases Nat.lt_succ_iff_lt_or_eq.1 hk with hk | rfl
          · exact u2 k hk
          · exact hx⟩, by omega, Wk.mk (by simp [get_cons]) ⟨[], (List.append_nil _).symm⟩ (Nat.le_refl _)⟩
      · simp only [go_sem,Nat.reduceEqDiff,Nat.reduceAdd,Nat.reduceMul,↓reduceIte,↓dreduceIte,reduceCtorEq,Nat.reduceLeDiff,Nat.reduceLT,Nat.reduceSub,Int.reduceToNat,Int.reduceLE,Int.reduceLT, one_ref, one_imm, Int.reduceLT, Int.reduceEq, Int.reduceBEq, ↓plen1, ponx, pg0, pg01, pg1, ps0, ps1, decide_eq_false hx]
        exact ⟨_, Frz.pure rfl, rF fun hr => hx ((hr.fn f hfl).fits i (by omega))⟩
    · simp only [go_sem,Nat.reduceEqDiff,Nat.reduceAdd,Nat.reduceMul,↓reduceIte,↓dreduceIte,reduceCtorEq,Nat.reduceLeDiff,Nat.reduceLT,Nat.reduceSub,Int.reduceToNat,Int.reduceLE,Int.reduceLT, one_ref, one_imm, Int.reduceLT, Int.reduceEq, Int.reduceBEq, ↓plen1, ponx, pg0, pg01, pg1, ps0, ps1, eq_false hi]
      refine VCall.of_contract (refdepths_c s hs f hfl) (SleL.pure rfl) fun r hr => ?_
      obtain ⟨dl, ok, rfl, hd⟩ := hr
      obtain ⟨d1, d2⟩ := depths_ok hd
      cases ok with
      | true =>
        simp only [go_sem,Nat.reduceEqDiff,Nat.reduceAdd,Nat.reduceMul,↓reduceIte,↓dreduceIte,reduceCtorEq,Nat.reduceLeDiff,Nat.reduceLT,Nat.reduceSub,Int.reduceToNat,Int.reduceLE,Int.reduceLT, one_ref, one_imm, Int.reduceLT, Int.reduceEq, Int.reduceBEq, ↓plen1, ponx, pg0, pg01, pg1, ps0, ps1, e0]
        exact ⟨(f + 1, _, _), ⟨by simp only; omega, fun g hg => by
          rcases Nat.lt_succ_iff_lt_or_eq.1 hg with hg | rfl
          · exact h2 g hg
          · exact ⟨⟨q1, q2, q3, q4, q5⟩, fun k hk => u2 k (by omega), d1 rfl⟩⟩, by simp only; omega, Wk.mk (by simp [get_cons]) ⟨[], (List.append_nil _).symm⟩ (Nat.le_refl _)⟩
      | false =>
        simp only [go_sem,Nat.reduceEqDiff,Nat.reduceAdd,Nat.reduceMul,↓reduceIte,↓dreduceIte,reduceCtorEq,Nat.reduceLeDiff,Nat.reduceLT,Nat.reduceSub,Int.reduceToNat,Int.reduceLE,Int.reduceLT, one_ref, one_imm, Int.reduceLT, Int.reduceEq, Int.reduceBEq, ↓plen1, ponx, pg0, pg01, pg1, ps0, ps1]
        exact ⟨_, Frz.pure rfl, rF fun hr => d2 rfl (hr.fn f hfl).sol⟩
  · have hfe : f = s.funcs.length := by omega
    have e3 : IntKind.i64.wrap ((s.funcs.length : Int) - 1) = ((s.funcs.length - 1 : Nat) : Int) := by rw [i64_in (by omega) (by omega)]; omega
    have hfn : s.funcs.getD (s.funcs.length - 1) default = s.fn (s.funcs.length - 1) := rfl
    by_cases l1 : (s.fn (s.funcs.length - 1)).params = 0
    · cases l2 : (s.fn (s.funcs.length - 1)).word with
      | false =>
        simp only [go_sem,Nat.reduceEqDiff,Nat.reduceAdd,Nat.reduceMul,↓reduceIte,↓dreduceIte,reduceCtorEq,Nat.reduceLeDiff,Nat.reduceLT,Nat.reduceSub,Int.reduceToNat,Int.reduceLE,Int.reduceLT, one_ref, one_imm, Int.reduceLT, Int.reduceEq, Int.reduceBEq, ↓plen1, ponx, pg0, pg01, pg1, ps0, ps1, eq_false hf, e3, hfn, l2, eq_true l1]
        repeat (refine And.intro (by omega) ?_)
        exact ⟨_, Frz.pure rfl, rT ⟨hw1, hw2, hw3, hw4, fun g hg => h2 g (by omega), l1, l2⟩⟩
      | true =>
        simp only [go_sem,Nat.reduceEqDiff,Nat.reduceAdd,Nat.reduceMul,↓reduceIte,↓dreduceIte,reduceCtorEq,Nat.reduceLeDiff,Nat.reduceLT,Nat.reduceSub,Int.reduceToNat,Int.reduceLE,Int.reduceLT, one_ref, one_imm, Int.reduceLT, Int.reduceEq, Int.reduceBEq, ↓plen1, ponx, pg0, pg01, pg1, ps0, ps1, eq_false hf, e3, hfn, l2, eq_true l1]
        repeat (refine And.intro (by omega) ?_)
        exact ⟨_, Frz.pure rfl, rF fun hr => by have := hr.lw; rw [l2] at this; cases this⟩
    · simp only [go_sem,Nat.reduceEqDiff,Nat.reduceAdd,Nat.reduceMul,↓reduceIte,↓dreduceIte,reduceCtorEq,Nat.reduceLeDiff,Nat.reduceLT,Nat.reduceSub,Int.reduceToNat,Int.reduceLE,Int.reduceLT, one_ref, one_imm, Int.reduceLT, Int.reduceEq, Int.reduceBEq, ↓plen1, ponx, pg0, pg01, pg1, ps0, ps1, eq_false hf, e3, hfn, eq_false l1]
      repeat (refine And.intro (by omega) ?_)
      exact ⟨_, Frz.pure rfl, rF fun hr => l1 hr.lp⟩
end Go.Proofs.Ytdfdkoajphcjbaa
