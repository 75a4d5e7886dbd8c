/-
  StackCalls: the row. No condition.
-/
import Derived.Test.YtdfdkoajphcjbaaSQ
import Derived.Test.YtdfdkoajphcjbaaSG
import Derived.Test.YtdfdkoajphcjbaaSA
namespace Go.Proofs.Ytdfdkoajphcjbaa
set_option linter.unusedSimpArgs false
set_option linter.unusedVariables false
set_option maxRecDepth 10000
open Go.V Go.ChangeShapes Go.WideShapes Go.ChangeAt Go.RowKit


theorem stackcalls_c (a b c : Int) (ha : In32 a) (hb : In32 b) (hc : In32 c) : Contract Try.prog 5 [U32 a, U32 b, U32 c] (fun r => r = B true) := by
  refine Contract.of_call (VCall.of_body hmix f_sclaw20_StackCalls (by simp) ?_)
  have hx : (applyW 5 (applyW 5 a b).1 0).1 = IntKind.u32.wrap (a - b) := by
    show IntKind.u32.wrap (IntKind.u32.wrap (a - b) - 0) = _
    rw [Int.sub_zero, w32_in (w32_ok _)]
  have hU8 := u8_byteS (IntKind.u32.wrap (a - b))
  simp only [go_sem,Nat.reduceEqDiff,Nat.reduceAdd,Nat.reduceMul,↓reduceIte,↓dreduceIte,reduceCtorEq,Nat.reduceLeDiff,Nat.reduceLT,Nat.reduceSub,Int.reduceToNat,Int.reduceLE,Int.reduceLT, one_ref, one_imm, Int.reduceLT, Int.reduceEq, Int.reduceBEq, c_sclaw20_StackCalls]
  refine VCall.of_contract awake_c (SleL.pure rfl) fun r hr => ?_
  subst hr
  simp only [go_sem,Nat.reduceEqDiff,Nat.reduceAdd,Nat.reduceMul,↓reduceIte,↓dreduceIte,reduceCtorEq,Nat.reduceLeDiff,Nat.reduceLT,Nat.reduceSub,Int.reduceToNat,Int.reduceLE,Int.reduceLT, one_ref, one_imm, Int.reduceLT, Int.reduceEq, Int.reduceBEq, hU8, b2sT_two]
  repeat (with_reducible refine And.intro (by simp [maxLen]) ?_)
  refine VCall.of_contractN (cls_giv a b c ha hb hc).rightN ?_ fun r hr => ?_
  · exact ⟨_, _, rfl, frz_two 4 ⟨2, 3, 1, true, clsF c⟩ ⟨0, 0, 0, false, clsC a b ++ clsC a b ++ [⟨11, 0, 0, 0⟩]⟩ rfl rfl rfl, rfl⟩
  subst hr
  simp only [go_sem,Nat.reduceEqDiff,Nat.reduceAdd,Nat.reduceMul,↓reduceIte,↓dreduceIte,reduceCtorEq,Nat.reduceLeDiff,Nat.reduceLT,Nat.reduceSub,Int.reduceToNat,Int.reduceLE,Int.reduceLT, one_ref, one_imm, Int.reduceLT, Int.reduceEq, Int.reduceBEq]
  refine VCall.of_contractN ((cls_giv a b c ha hb hc).runN ⟨#[]⟩ 100 (by omega) (by decide)) ?_ fun r hr => ?_
  · exact ⟨_, _, rfl, frz_two 4 ⟨2, 3, 1, true, clsF c⟩ ⟨0, 0, 0, false, clsC a b ++ clsC a b ++ [⟨11, 0, 0, 0⟩]⟩ rfl rfl rfl, _, _, rfl, Frz.pure rfl, _, _, rfl, Frz.pure rfl, rfl⟩
  rw [show (100 : Int).toNat = 100 by rfl, cls_run, hx] at hr
  subst hr
  simp only [go_sem,Nat.reduceEqDiff,Nat.reduceAdd,Nat.reduceMul,↓reduceIte,↓dreduceIte,reduceCtorEq,Nat.reduceLeDiff,Nat.reduceLT,Nat.reduceSub,Int.reduceToNat,Int.reduceLE,Int.reduceLT, one_ref, one_imm, Int.reduceLT, Int.reduceEq, Int.reduceBEq, resS]
  refine ⟨_, Frz.pure rfl, ?_⟩
  simp [ba_self]

set_option maxRecDepth 100000 in
theorem stackcalls_lifted (os : Os) (started : os.Started) (H : Type) (enc : TypeId × Value → H) :
    ReturnsInHanded {} Try.checked os 5 .any (Rows.stackCallsSpec.pre6 enc Try.prog Try.f5 Rows.stackCallsRow.domain false) (Rows.stackCallsSpec.post enc Try.prog Try.f5 false true false false) := by
  refine returnsInHanded_of_change_sized (C := Try.checked) Try.own started (by kernel_rfl) Try.func5
    (ChangeSpec.witness6 (enc := enc) (C := Try.checked) false ⟨#[], #[.int .u32 0, .int .u32 0, .int .u32 0], []⟩ 8 (by kernel_rfl) (by kernel_rfl) (by kernel_rfl) (by kernel_rfl)) ?_
  intro W base args ds gs before hval hW _ hwt _
  refine law_calls (P := Try.prog) (n := 20) (shs := [.int .u32, .int .u32, .int .u32]) (tb := 4) Try.laidOut rfl (by kernel_rfl) (by kernel_rfl) (by decide +kernel) (by kernel_rfl) (fun ds h => ?_) (fun xs hx => ?_) hval hW hwt
  · match ds, h with
    | [d1, d2, d3], _ => rfl
  · obtain ⟨x, xs', rfl, hx1, hxs⟩ := fitS_cons hx
    obtain ⟨y, ys', rfl, hy, hys⟩ := fitS_cons hxs
    obtain ⟨z, zs', rfl, hz, hzs⟩ := fitS_cons hys
    simp only [Sh.fitL] at hzs
    subst hzs
    obtain ⟨a, rfl, ha⟩ := fit_w hx1
    obtain ⟨b, rfl, hb⟩ := fit_w hy
    obtain ⟨c, rfl, hc⟩ := fit_w hz
    exact stackcalls_c a b c ha hb hc

theorem stackcalls_holds : Rows.StackCallsSaid :=
  OpenClaim.holds_of_wide 5 Try.f5 rfl rfl rfl rfl rfl rfl rfl ⟨rfl, rfl, rfl, rfl, rfl⟩ rfl rfl rfl rfl rfl (by kernel_rfl) Try.func5 (by kernel_rfl)
    (of_decide_eq_true (by kernel_rfl)) (by unfold Func.isWrapper; first | (rw [if_pos (by decide +kernel)]; kernel_rfl) | (rw [if_neg (by decide +kernel)]; exact ⟨rfl, rfl⟩))
    (fun os started H enc _ => stackcalls_lifted os started H enc)
end Go.Proofs.Ytdfdkoajphcjbaa
