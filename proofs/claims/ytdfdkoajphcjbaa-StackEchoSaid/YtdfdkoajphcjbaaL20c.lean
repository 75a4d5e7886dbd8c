/-
  StackEcho: the row. No condition.
-/
import Derived.Test.YtdfdkoajphcjbaaSQ
import Derived.Test.YtdfdkoajphcjbaaSE
import Derived.Test.YtdfdkoajphcjbaaSA
namespace Go.Proofs.Ytdfdkoajphcjbaa
set_option linter.unusedSimpArgs false
set_option linter.unusedVariables false
set_option maxRecDepth 10000
open Go.V Go.ChangeShapes Go.WideShapes Go.ChangeAt Go.RowKit


theorem ech_fit : FitP echP := FitP.of (fun g hg x hx => by
    obtain rfl : g = _ := List.mem_singleton.1 hg
    simp only [echL, List.mem_cons, List.not_mem_nil, or_false] at hx
    rcases hx with rfl | rfl | rfl | rfl | rfl | rfl | rfl | rfl | rfl | rfl <;> exact ⟨by decide, by decide⟩) ech_right fun f => by
  match f with
  | 0 => decide
  | f + 1 => simp [SP.fn, echP]; decide
theorem ech_in : InP echP := ⟨by decide, ech_fit.code, fun f => by
  match f with
  | 0 => exact ⟨by decide, by decide⟩
  | f + 1 => exact ⟨by simp [SP.fn, echP]; decide, by simp [SP.fn, echP]; decide⟩⟩
theorem stackecho_c (inp : ByteArray) : Contract Try.prog 7 [strv inp] (fun r => r = B true) := by
  refine Contract.of_call (VCall.of_body hmix f_sclaw20_StackEcho (by simp) ?_)
  simp only [go_sem,Nat.reduceEqDiff,Nat.reduceAdd,Nat.reduceMul,↓reduceIte,↓dreduceIte,reduceCtorEq,Nat.reduceLeDiff,Nat.reduceLT,Nat.reduceSub,Int.reduceToNat,Int.reduceLE,Int.reduceLT, one_ref, one_imm, Int.reduceLT, Int.reduceEq, Int.reduceBEq, c_sclaw20_StackEcho]
  refine VCall.of_contract awake_c (SleL.pure rfl) fun r hr => ?_
  subst hr
  by_cases h : (100 : Int) < (inp.size : Int)
  · simp only [go_sem,Nat.reduceEqDiff,Nat.reduceAdd,Nat.reduceMul,↓reduceIte,↓dreduceIte,reduceCtorEq,Nat.reduceLeDiff,Nat.reduceLT,Nat.reduceSub,Int.reduceToNat,Int.reduceLE,Int.reduceLT, one_ref, one_imm, Int.reduceLT, Int.reduceEq, Int.reduceBEq, eq_true h]
    exact ⟨_, Frz.pure rfl, rfl⟩
  simp only [go_sem,Nat.reduceEqDiff,Nat.reduceAdd,Nat.reduceMul,↓reduceIte,↓dreduceIte,reduceCtorEq,Nat.reduceLeDiff,Nat.reduceLT,Nat.reduceSub,Int.reduceToNat,Int.reduceLE,Int.reduceLT, one_ref, one_imm, Int.reduceLT, Int.reduceEq, Int.reduceBEq, eq_false h]
  refine VCall.of_contractN (srightN_c echP ech_in ⟨by decide, by decide⟩ (fun f => by
    match f with
    | 0 => exact ⟨⟨by decide, by decide⟩, ⟨by decide, by decide⟩⟩
    | f + 1 => exact ⟨⟨by simp [SP.fn, echP]; decide, by simp [SP.fn, echP]; decide⟩, ⟨by simp [SP.fn, echP]; decide, by simp [SP.fn, echP]; decide⟩⟩) ech_right) ?_ fun r hr => ?_
  · exact ⟨_, _, rfl, frz_one 1 ⟨0, 0, 0, false, echL⟩ rfl rfl, rfl⟩
  subst hr
  obtain ⟨m, hm⟩ := ech_run inp (by omega)
  have w1 : IntKind.i64.wrap (9 * (inp.size : Int)) = 9 * (inp.size : Int) := i64_in (by omega) (by omega)
  have w2 : IntKind.i64.wrap (9 * (inp.size : Int) + 7) = 9 * (inp.size : Int) + 7 := i64_in (by omega) (by omega)
  simp only [go_sem,Nat.reduceEqDiff,Nat.reduceAdd,Nat.reduceMul,↓reduceIte,↓dreduceIte,reduceCtorEq,Nat.reduceLeDiff,Nat.reduceLT,Nat.reduceSub,Int.reduceToNat,Int.reduceLE,Int.reduceLT, one_ref, one_imm, Int.reduceLT, Int.reduceEq, Int.reduceBEq]
  refine VCall.of_contractN (srunN_c echP inp 2000 ech_fit ech_right (by omega) (by omega)) ?_ fun r hr => ?_
  · exact ⟨_, _, rfl, frz_one 1 ⟨0, 0, 0, false, echL⟩ rfl rfl, _, _, rfl, Frz.pure rfl, _, _, rfl, Frz.pure rfl, rfl⟩
  rw [show (2000 : Int).toNat = 2000 by rfl, hm] at hr
  subst hr
  simp only [go_sem,Nat.reduceEqDiff,Nat.reduceAdd,Nat.reduceMul,↓reduceIte,↓dreduceIte,reduceCtorEq,Nat.reduceLeDiff,Nat.reduceLT,Nat.reduceSub,Int.reduceToNat,Int.reduceLE,Int.reduceLT, one_ref, one_imm, Int.reduceLT, Int.reduceEq, Int.reduceBEq, resS, w1, w2]
  refine ⟨_, Frz.pure rfl, ?_⟩
  simp [ba_self]

set_option maxRecDepth 100000 in
theorem stackecho_lifted (os : Os) (started : os.Started) (H : Type) (enc : TypeId × Value → H) :
    ReturnsInHanded {} Try.checked os 7 .any (Rows.stackEchoSpec.pre6 enc Try.prog Try.f7 Rows.stackEchoRow.domain false) (Rows.stackEchoSpec.post enc Try.prog Try.f7 false true false false) := by
  refine returnsInHanded_of_change_sized (C := Try.checked) Try.own started (by kernel_rfl) Try.func7
    (ChangeSpec.witness6 (enc := enc) (C := Try.checked) false ⟨#[], #[.string ⟨#[]⟩], []⟩ 8 (by kernel_rfl) (by kernel_rfl) (by kernel_rfl) (by kernel_rfl)) ?_
  intro W base args ds gs before hval hW _ hwt _
  refine law_calls (P := Try.prog) (n := 20) (shs := [.str]) (tb := 4) Try.laidOut rfl (by kernel_rfl) (by kernel_rfl) (by decide +kernel) (by kernel_rfl) (fun ds h => ?_) (fun xs hx => ?_) hval hW hwt
  · match ds, h with
    | [d1], _ => rfl
  · obtain ⟨y, ys', rfl, hy, hys⟩ := fitS_cons hx
    simp only [Sh.fitL] at hys
    subst hys
    simp only [Sh.fit] at hy
    obtain ⟨inp, rfl, hy⟩ := hy
    exact stackecho_c inp

theorem stackecho_holds : Rows.StackEchoSaid :=
  OpenClaim.holds_of_wide 7 Try.f7 rfl rfl rfl rfl rfl rfl rfl ⟨rfl, rfl, rfl, rfl, rfl⟩ rfl rfl rfl rfl rfl (by kernel_rfl) Try.func7 (by kernel_rfl)
    (of_decide_eq_true (by kernel_rfl)) (by unfold Func.isWrapper; first | (rw [if_pos (by decide +kernel)]; kernel_rfl) | (rw [if_neg (by decide +kernel)]; exact ⟨rfl, rfl⟩))
    (fun os started H enc _ => stackecho_lifted os started H enc)
end Go.Proofs.Ytdfdkoajphcjbaa
