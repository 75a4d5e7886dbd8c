/-
  StackRuns: the row. No condition.
-/
import Derived.Test.YtdfdkoajphcjbaaSQ
import Derived.Test.YtdfdkoajphcjbaaS10
import Derived.Test.YtdfdkoajphcjbaaSA
namespace Go.Proofs.Ytdfdkoajphcjbaa
set_option linter.unusedSimpArgs false
set_option linter.unusedVariables false
set_option maxRecDepth 10000
open Go.V Go.ChangeShapes Go.WideShapes Go.ChangeAt Go.RowKit


theorem stackruns_c (s : SP) (inp : ByteArray) (fuel : Int) (h : SPOk s) (hz : Int64 fuel) : Contract Try.prog 3 [spA s, strv inp, I fuel] (fun r => r = B true) := by
  refine Contract.of_call (VCall.of_body hmix f_sclaw20_StackRuns (by simp) ?_)
  simp only [go_sem,Nat.reduceEqDiff,Nat.reduceAdd,Nat.reduceMul,↓reduceIte,↓dreduceIte,reduceCtorEq,Nat.reduceLeDiff,Nat.reduceLT,Nat.reduceSub,Int.reduceToNat,Int.reduceLE,Int.reduceLT, one_ref, one_imm, Int.reduceLT, Int.reduceEq, Int.reduceBEq, c_sclaw20_StackRuns]
  refine VCall.of_contract awake_c (SleL.pure rfl) fun r hr => ?_
  subst hr
  simp only [go_sem,Nat.reduceEqDiff,Nat.reduceAdd,Nat.reduceMul,↓reduceIte,↓dreduceIte,reduceCtorEq,Nat.reduceLeDiff,Nat.reduceLT,Nat.reduceSub,Int.reduceToNat,Int.reduceLE,Int.reduceLT, one_ref, one_imm, Int.reduceLT, Int.reduceEq, Int.reduceBEq]
  refine VCall.of_contract (few_c s h 200) (SleL.pure rfl) fun r hr => ?_
  subst hr
  cases hf : fewB s 200 with
  | false =>
    simp only [go_sem,Nat.reduceEqDiff,Nat.reduceAdd,Nat.reduceMul,↓reduceIte,↓dreduceIte,reduceCtorEq,Nat.reduceLeDiff,Nat.reduceLT,Nat.reduceSub,Int.reduceToNat,Int.reduceLE,Int.reduceLT, one_ref, one_imm, Int.reduceLT, Int.reduceEq, Int.reduceBEq]
    exact ⟨_, Frz.pure rfl, rfl⟩
  | true =>
    obtain ⟨hin, hfit⟩ := small_in h (n := 200) (by decide) hf
    by_cases h1 : (4000 : Int) < s.words
    · simp only [go_sem,Nat.reduceEqDiff,Nat.reduceAdd,Nat.reduceMul,↓reduceIte,↓dreduceIte,reduceCtorEq,Nat.reduceLeDiff,Nat.reduceLT,Nat.reduceSub,Int.reduceToNat,Int.reduceLE,Int.reduceLT, one_ref, one_imm, Int.reduceLT, Int.reduceEq, Int.reduceBEq, eq_true h1]
      exact ⟨_, Frz.pure rfl, rfl⟩
    by_cases h2 : (400 : Int) < fuel
    · simp only [go_sem,Nat.reduceEqDiff,Nat.reduceAdd,Nat.reduceMul,↓reduceIte,↓dreduceIte,reduceCtorEq,Nat.reduceLeDiff,Nat.reduceLT,Nat.reduceSub,Int.reduceToNat,Int.reduceLE,Int.reduceLT, one_ref, one_imm, Int.reduceLT, Int.reduceEq, Int.reduceBEq, eq_false h1, eq_true h2]
      exact ⟨_, Frz.pure rfl, rfl⟩
    by_cases h3 : (100 : Int) < (inp.size : Int)
    · simp only [go_sem,Nat.reduceEqDiff,Nat.reduceAdd,Nat.reduceMul,↓reduceIte,↓dreduceIte,reduceCtorEq,Nat.reduceLeDiff,Nat.reduceLT,Nat.reduceSub,Int.reduceToNat,Int.reduceLE,Int.reduceLT, one_ref, one_imm, Int.reduceLT, Int.reduceEq, Int.reduceBEq, eq_false h1, eq_false h2, eq_true h3]
      exact ⟨_, Frz.pure rfl, rfl⟩
    simp only [go_sem,Nat.reduceEqDiff,Nat.reduceAdd,Nat.reduceMul,↓reduceIte,↓dreduceIte,reduceCtorEq,Nat.reduceLeDiff,Nat.reduceLT,Nat.reduceSub,Int.reduceToNat,Int.reduceLE,Int.reduceLT, one_ref, one_imm, Int.reduceLT, Int.reduceEq, Int.reduceBEq, eq_false h1, eq_false h2, eq_false h3]
    refine VCall.of_contract (refright_c s hin h.w fun f => ⟨(h.at_ f).s, (h.at_ f).f⟩) (SleL.pure rfl) fun r hr => ?_
    subst hr
    cases hr : rightB s with
    | false =>
      simp only [go_sem,Nat.reduceEqDiff,Nat.reduceAdd,Nat.reduceMul,↓reduceIte,↓dreduceIte,reduceCtorEq,Nat.reduceLeDiff,Nat.reduceLT,Nat.reduceSub,Int.reduceToNat,Int.reduceLE,Int.reduceLT, one_ref, one_imm, Int.reduceLT, Int.reduceEq, Int.reduceBEq]
      exact ⟨_, Frz.pure rfl, rfl⟩
    | true =>
      have hR := rightB_iff.1 hr
      simp only [go_sem,Nat.reduceEqDiff,Nat.reduceAdd,Nat.reduceMul,↓reduceIte,↓dreduceIte,reduceCtorEq,Nat.reduceLeDiff,Nat.reduceLT,Nat.reduceSub,Int.reduceToNat,Int.reduceLE,Int.reduceLT, one_ref, one_imm, Int.reduceLT, Int.reduceEq, Int.reduceBEq]
      refine ECall.of (srun_c s inp fuel (hfit hR) (by omega) (by omega) fun k _ => runS_good hR inp k) (SleL.pure rfl) ⟨_, fun _ => Iff.rfl⟩ fun r hr => ?_
      subst hr
      simp only [go_sem,Nat.reduceEqDiff,Nat.reduceAdd,Nat.reduceMul,↓reduceIte,↓dreduceIte,reduceCtorEq,Nat.reduceLeDiff,Nat.reduceLT,Nat.reduceSub,Int.reduceToNat,Int.reduceLE,Int.reduceLT, one_ref, one_imm, Int.reduceLT, Int.reduceEq, Int.reduceBEq]
      refine ECall.of (refrunS_c s inp fuel (hfit hR) (by omega) (by omega) fun k _ => runS_good hR inp k) (SleL.pure rfl) ⟨_, fun _ => Iff.rfl⟩ fun r hr => ?_
      subst hr
      simp only [go_sem,Nat.reduceEqDiff,Nat.reduceAdd,Nat.reduceMul,↓reduceIte,↓dreduceIte,reduceCtorEq,Nat.reduceLeDiff,Nat.reduceLT,Nat.reduceSub,Int.reduceToNat,Int.reduceLE,Int.reduceLT, one_ref, one_imm, Int.reduceLT, Int.reduceEq, Int.reduceBEq, resS]
      refine ⟨_, Frz.pure rfl, ?_⟩
      simp [ba_self]

set_option maxRecDepth 100000 in
theorem stackruns_lifted (os : Os) (started : os.Started) (H : Type) (enc : TypeId × Value → H) :
    ReturnsInHanded {} Try.checked os 3 .any (Rows.stackRunsSpec.pre6 enc Try.prog Try.f3 Rows.stackRunsRow.domain false) (Rows.stackRunsSpec.post enc Try.prog Try.f3 false true false false) := by
  refine returnsInHanded_of_change_sized (C := Try.checked) Try.own started (by kernel_rfl) Try.func3
    (ChangeSpec.witness6 (enc := enc) (C := Try.checked) false ⟨#[], #[.agg #[.int .i64 0, .slice none 0 0], .string ⟨#[]⟩, .int .i64 0], []⟩ 8 (by kernel_rfl) (by kernel_rfl) (by kernel_rfl) (by kernel_rfl)) ?_
  intro W base args ds gs before hval hW _ hwt _
  refine law_calls (P := Try.prog) (n := 20) (shs := [spSh, .str, .int .i64]) (tb := 4) Try.laidOut rfl (by kernel_rfl) (by kernel_rfl) (by decide +kernel) (by kernel_rfl) (fun ds h => ?_) (fun xs hx => ?_) hval hW hwt
  · match ds, h with
    | [d1, d2, d3], _ => rfl
  · obtain ⟨x, xs', rfl, hx1, hxs⟩ := fitS_cons hx
    obtain ⟨y, ys', rfl, hy, hys⟩ := fitS_cons hxs
    obtain ⟨z, zs', rfl, hz, hzs⟩ := fitS_cons hys
    simp only [Sh.fitL] at hzs
    subst hzs
    obtain ⟨s, rfl, h⟩ := sp_of hx1
    simp only [Sh.fit] at hy
    obtain ⟨inp, rfl, hy⟩ := hy
    obtain ⟨n, rfl, hn⟩ := fit_int hz
    exact stackruns_c s inp n h hn

theorem stackruns_holds : Rows.StackRunsSaid :=
  OpenClaim.holds_of_wide 3 Try.f3 rfl rfl rfl rfl rfl rfl rfl ⟨rfl, rfl, rfl, rfl, rfl⟩ rfl rfl rfl rfl rfl (by kernel_rfl) Try.func3 (by kernel_rfl)
    (of_decide_eq_true (by kernel_rfl)) (by unfold Func.isWrapper; first | (rw [if_pos (by decide +kernel)]; kernel_rfl) | (rw [if_neg (by decide +kernel)]; exact ⟨rfl, rfl⟩))
    (fun os started H enc _ => stackruns_lifted os started H enc)
end Go.Proofs.Ytdfdkoajphcjbaa
