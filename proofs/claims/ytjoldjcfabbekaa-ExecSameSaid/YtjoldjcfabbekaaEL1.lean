/-
  ExecSame: the row. No condition.
-/
import Derived.Test.YtjoldjcfabbekaaEO
namespace Go.Proofs.Ytjoldjcfabbekaa
set_option linter.unusedSimpArgs false
set_option linter.unusedVariables false
set_option maxRecDepth 10000
open Go.V Go.ChangeShapes Go.WideShapes Go.ChangeAt Go.RowKit

theorem execsame_row (e1 : Int) (o1 : ByteArray) (s1 e2 : Int) (o2 : ByteArray) (s2 : Int) : Contract Try.prog 7 [resA e1 o1 s1, resA e2 o2 s2] (fun r => r = B true) := by
  refine Contract.of_call (VCall.of_body hmix f_sclaw10_ExecSame (by simp) ?_)
  simp only [go_sem,Nat.reduceEqDiff,Nat.reduceAdd,Nat.reduceMul,↓reduceIte,↓dreduceIte,reduceCtorEq,Nat.reduceLeDiff,Nat.reduceLT,Nat.reduceSub,Int.reduceToNat,Int.reduceLE,Int.reduceLT, c_sclaw10_ExecSame, one_imm]
  refine VCall.of_contract alive_c (SleL.pure rfl) fun x hx => ?_
  subst hx
  simp only [go_sem,Nat.reduceEqDiff,Nat.reduceAdd,Nat.reduceMul,↓reduceIte,↓dreduceIte,reduceCtorEq,Nat.reduceLeDiff,Nat.reduceLT,Nat.reduceSub,Int.reduceToNat,Int.reduceLE,Int.reduceLT, one_imm]
  refine ECall.of (execsame_c e1 o1 s1 e2 o2 s2) (SleL.pure rfl) ⟨_, fun _ => Iff.rfl⟩ fun x hx => ?_
  subst hx
  simp only [go_sem,Nat.reduceEqDiff,Nat.reduceAdd,Nat.reduceMul,↓reduceIte,↓dreduceIte,reduceCtorEq,Nat.reduceLeDiff,Nat.reduceLT,Nat.reduceSub,Int.reduceToNat,Int.reduceLE,Int.reduceLT, one_imm]
  refine ECall.of (refsameR_c e1 o1 s1 e2 o2 s2) (SleL.pure rfl) ⟨_, fun _ => Iff.rfl⟩ fun x hx => ?_
  subst hx
  cases sameR e1 o1 s1 e2 o2 s2
  all_goals
    simp only [go_sem,Nat.reduceEqDiff,Nat.reduceAdd,Nat.reduceMul,↓reduceIte,↓dreduceIte,reduceCtorEq,Nat.reduceLeDiff,Nat.reduceLT,Nat.reduceSub,Int.reduceToNat,Int.reduceLE,Int.reduceLT, one_imm]
    exact ⟨_, Frz.pure rfl, rfl⟩

set_option maxRecDepth 100000 in
theorem execsame_lifted (os : Os) (started : os.Started) (H : Type) (enc : TypeId × Value → H) :
    ReturnsInHanded {} Try.checked os 7 .any (Rows.execSameSpec.pre6 enc Try.prog Try.f7 Rows.execSameRow.domain false) (Rows.execSameSpec.post enc Try.prog Try.f7 false true false false) := by
  refine returnsInHanded_of_change_sized (C := Try.checked) Try.own started (by kernel_rfl) Try.func7
    (ChangeSpec.witness6 (enc := enc) (C := Try.checked) false ⟨#[], #[.agg #[.int .i64 0, .string ⟨#[]⟩, .int .i64 0], .agg #[.int .i64 0, .string ⟨#[]⟩, .int .i64 0]], []⟩ 8 (by kernel_rfl) (by kernel_rfl) (by kernel_rfl) (by kernel_rfl)) ?_
  intro W base args ds gs before hval hW _ hwt _
  refine law_calls (P := Try.prog) (n := 20) (shs := [resSh, resSh]) (tb := 4) Try.laidOut rfl (by kernel_rfl) (by kernel_rfl) (by decide +kernel) (by kernel_rfl) (fun ds h => ?_) (fun xs hx => ?_) hval hW hwt
  · match ds, h with
    | [d1, d2], _ => rfl
  · obtain ⟨x, _, rfl, hx1, hxs⟩ := fitL_cons hx
    obtain ⟨y, _, rfl, hy, hys⟩ := fitL_cons hxs
    have := fitL_nil hys
    subst this
    obtain ⟨e1, o1, s1, rfl⟩ := res_of hx1
    obtain ⟨e2, o2, s2, rfl⟩ := res_of hy
    exact execsame_row e1 o1 s1 e2 o2 s2

theorem execsame_holds : Rows.ExecSameSaid :=
  OpenClaim.holds_of_wide 7 Try.f7 rfl rfl rfl rfl rfl rfl rfl ⟨rfl, rfl, rfl, rfl, rfl⟩ rfl rfl rfl rfl rfl (by kernel_rfl) Try.func7 (by kernel_rfl)
    (of_decide_eq_true (by kernel_rfl)) (by unfold Func.isWrapper; first | (rw [if_pos (by decide +kernel)]; kernel_rfl) | (rw [if_neg (by decide +kernel)]; exact ⟨rfl, rfl⟩))
    (fun os started H enc _ => execsame_lifted os started H enc)
end Go.Proofs.Ytjoldjcfabbekaa
