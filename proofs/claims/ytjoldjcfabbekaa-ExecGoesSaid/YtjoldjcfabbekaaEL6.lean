/-
  ExecGoes: the row. No condition.
-/
import Derived.Test.YtjoldjcfabbekaaEQ
import Derived.Test.YtjoldjcfabbekaaER6
namespace Go.Proofs.Ytjoldjcfabbekaa
set_option linter.unusedSimpArgs false
set_option linter.unusedVariables false
set_option maxRecDepth 10000
open Go.V Go.ChangeShapes Go.WideShapes Go.ChangeAt Go.RowKit

theorem execgoes_c (code : List Int) (data : Int) (inp : ByteArray) (s : S) (fuel : Int) (h : Im code data) (k : StF s) (hf : Int64 fuel) : Contract Try.prog 8 [askQ code data inp s fuel] (fun r => r = B true) := by
  refine Contract.of_call (VCall.of_body hmix f_sclaw10_ExecGoes (by simp) ?_)
  simp only [go_sem,Nat.reduceEqDiff,Nat.reduceAdd,Nat.reduceMul,↓reduceIte,↓dreduceIte,reduceCtorEq,Nat.reduceLeDiff,Nat.reduceLT,Nat.reduceSub,Int.reduceToNat,Int.reduceLE,Int.reduceLT, c_sclaw10_ExecGoes, q_all, q_im, q_inp, q_st, q_fuel, askR_length, askR_all, s_all, s_fin, s_zero, s_put, s_put', stc_length, stc_all, one_imm]
  refine VCall.of_contract alive_c (SleL.pure rfl) fun x hx => ?_
  subst hx
  simp only [go_sem,Nat.reduceEqDiff,Nat.reduceAdd,Nat.reduceMul,↓reduceIte,↓dreduceIte,reduceCtorEq,Nat.reduceLeDiff,Nat.reduceLT,Nat.reduceSub,Int.reduceToNat,Int.reduceLE,Int.reduceLT, q_all, q_im, q_inp, q_st, q_fuel, askR_length, askR_all, s_all, s_fin, s_zero, s_put, s_put', stc_length, stc_all, one_imm]
  refine VCall.of_contract (little_c code data inp s fuel) (SleL.pure rfl) fun x hx => ?_
  subst hx
  cases hb : littleB code data inp s fuel
  · simp only [go_sem,Nat.reduceEqDiff,Nat.reduceAdd,Nat.reduceMul,↓reduceIte,↓dreduceIte,reduceCtorEq,Nat.reduceLeDiff,Nat.reduceLT,Nat.reduceSub,Int.reduceToNat,Int.reduceLE,Int.reduceLT, q_all, q_im, q_inp, q_st, q_fuel, askR_length, askR_all, s_all, s_fin, s_zero, s_put, s_put', stc_length, stc_all, one_imm]
    exact ⟨_, Frz.pure rfl, rfl⟩
  obtain ⟨⟨b1, b2, b3, b4⟩, b5, b6, b7⟩ := littleB_iff.1 hb
  have hwf := runN_wf (inp := inp) h.fit k.wf
  obtain ⟨w1, w2, w3⟩ := hwf fuel.toNat
  simp only [go_sem,Nat.reduceEqDiff,Nat.reduceAdd,Nat.reduceMul,↓reduceIte,↓dreduceIte,reduceCtorEq,Nat.reduceLeDiff,Nat.reduceLT,Nat.reduceSub,Int.reduceToNat,Int.reduceLE,Int.reduceLT, q_all, q_im, q_inp, q_st, q_fuel, askR_length, askR_all, s_all, s_fin, s_zero, s_put, s_put', stc_length, stc_all, one_imm]
  refine VCall.of_contract (go_c code data inp s fuel h.fit (by omega) (by omega) k.wf (by omega) (by omega) (by omega)) (SleL.pure rfl) fun x hx => ?_
  subst hx
  simp only [go_sem,Nat.reduceEqDiff,Nat.reduceAdd,Nat.reduceMul,↓reduceIte,↓dreduceIte,reduceCtorEq,Nat.reduceLeDiff,Nat.reduceLT,Nat.reduceSub,Int.reduceToNat,Int.reduceLE,Int.reduceLT, q_all, q_im, q_inp, q_st, q_fuel, askR_length, askR_all, s_all, s_fin, s_zero, s_put, s_put', stc_length, stc_all, one_imm]
  refine ECall.of (refgo_c code data inp s fuel h.fit (by omega) (by omega) k.wf (by omega) (by omega) (by omega)) (SleL.pure rfl) ⟨_, fun _ => Iff.rfl⟩ fun x hx => ?_
  subst hx
  simp only [go_sem,Nat.reduceEqDiff,Nat.reduceAdd,Nat.reduceMul,↓reduceIte,↓dreduceIte,reduceCtorEq,Nat.reduceLeDiff,Nat.reduceLT,Nat.reduceSub,Int.reduceToNat,Int.reduceLE,Int.reduceLT, q_all, q_im, q_inp, q_st, q_fuel, askR_length, askR_all, s_all, s_fin, s_zero, s_put, s_put', stc_length, stc_all, one_imm]
  have hs' := refsame_c (runN code inp s fuel.toNat) (runN code inp s fuel.toNat) (by omega)
  rw [sameB_refl] at hs'
  refine ECall.of hs' (SleL.pure rfl) ⟨_, fun _ => Iff.rfl⟩ fun x hx => ?_
  subst hx
  by_cases c1 : 60 < fuel
  · simp only [go_sem,Nat.reduceEqDiff,Nat.reduceAdd,Nat.reduceMul,↓reduceIte,↓dreduceIte,reduceCtorEq,Nat.reduceLeDiff,Nat.reduceLT,Nat.reduceSub,Int.reduceToNat,Int.reduceLE,Int.reduceLT, q_all, q_im, q_inp, q_st, q_fuel, askR_length, askR_all, s_all, s_fin, s_zero, s_put, s_put', stc_length, stc_all, one_imm, eq_true c1]
    exact ⟨_, Frz.pure rfl, rfl⟩
  simp only [go_sem,Nat.reduceEqDiff,Nat.reduceAdd,Nat.reduceMul,↓reduceIte,↓dreduceIte,reduceCtorEq,Nat.reduceLeDiff,Nat.reduceLT,Nat.reduceSub,Int.reduceToNat,Int.reduceLE,Int.reduceLT, q_all, q_im, q_inp, q_st, q_fuel, askR_length, askR_all, s_all, s_fin, s_zero, s_put, s_put', stc_length, stc_all, one_imm, eq_false c1]
  refine VW_loop (fun q : Nat => ⟨[(1, .ptr 0 0 0), (2, B false), (3, .ptr 1 1 0), (4, .ptr 2 2 0), (5, I q)], [⟨0, 39, 1, askR (words code) data inp s.pc s.reg (words s.mem) s.rd s.out s.st s.fin fuel⟩, ⟨1, 37, 1, stc (runN code inp s fuel.toNat).pc (runN code inp s fuel.toNat).reg (words (runN code inp s fuel.toNat).mem) (runN code inp s fuel.toNat).rd (runN code inp s fuel.toNat).out (runN code inp s fuel.toNat).st (runN code inp s fuel.toNat).fin⟩, ⟨2, 37, 1, stc (runN code inp s q).pc (runN code inp s q).reg (words (runN code inp s q).mem) (runN code inp s q).rd (runN code inp s q).out (runN code inp s q).st (runN code inp s q).fin⟩], 3⟩)
    (fun q => q ≤ fuel.toNat) (fun q => fuel.toNat - q) 0 (Wk.mk (by simp [get_cons]) ⟨[], rfl⟩ (Nat.le_refl _)) (Nat.zero_le _) ?_
  intro q hq
  obtain ⟨v1, v2, v3⟩ := hwf q
  by_cases d1 : (q : Int) < fuel
  · by_cases d2 : (runN code inp s q).fin = 0
    · simp only [go_sem,Nat.reduceEqDiff,Nat.reduceAdd,Nat.reduceMul,↓reduceIte,↓dreduceIte,reduceCtorEq,Nat.reduceLeDiff,Nat.reduceLT,Nat.reduceSub,Int.reduceToNat,Int.reduceLE,Int.reduceLT, q_all, q_im, q_inp, q_st, q_fuel, askR_length, askR_all, s_all, s_fin, s_zero, s_put, s_put', stc_length, stc_all, one_imm, eq_true d1, eq_true d2]
      have hst := step_c code data inp (runN code inp s q) h.fit (by omega) (by omega) v1 (by omega) (by omega)
      refine VCall.of_contract hst (SleL.pure (by rfl)) fun x hx => ?_
      subst hx
      simp only [go_sem,Nat.reduceEqDiff,Nat.reduceAdd,Nat.reduceMul,↓reduceIte,↓dreduceIte,reduceCtorEq,Nat.reduceLeDiff,Nat.reduceLT,Nat.reduceSub,Int.reduceToNat,Int.reduceLE,Int.reduceLT, q_all, q_im, q_inp, q_st, q_fuel, askR_length, askR_all, s_all, s_fin, s_zero, s_put, s_put', stc_length, stc_all, one_imm]
      rw [i64_in (by omega) (by omega)]
      exact ⟨q + 1, by omega, by omega, Wk.mk (by simp [get_cons]) ⟨[], rfl⟩ (Nat.le_refl _)⟩
    · have e1 := runN_stays d2 (fuel.toNat - q)
      rw [show q + (fuel.toNat - q) = fuel.toNat by omega] at e1
      rw [← e1]
      simp only [go_sem,Nat.reduceEqDiff,Nat.reduceAdd,Nat.reduceMul,↓reduceIte,↓dreduceIte,reduceCtorEq,Nat.reduceLeDiff,Nat.reduceLT,Nat.reduceSub,Int.reduceToNat,Int.reduceLE,Int.reduceLT, q_all, q_im, q_inp, q_st, q_fuel, askR_length, askR_all, s_all, s_fin, s_zero, s_put, s_put', stc_length, stc_all, one_imm, eq_true d1, eq_false (show ¬ (runN code inp s fuel.toNat).fin = 0 by rw [e1]; exact d2)]
      refine VCall.of_contract hs' (SleL.pure rfl) fun x hx => ?_
      subst hx
      simp only [go_sem,Nat.reduceEqDiff,Nat.reduceAdd,Nat.reduceMul,↓reduceIte,↓dreduceIte,reduceCtorEq,Nat.reduceLeDiff,Nat.reduceLT,Nat.reduceSub,Int.reduceToNat,Int.reduceLE,Int.reduceLT]
      exact ⟨_, Frz.pure rfl, rfl⟩
  · have e : q = fuel.toNat := by omega
    subst e
    simp only [go_sem,Nat.reduceEqDiff,Nat.reduceAdd,Nat.reduceMul,↓reduceIte,↓dreduceIte,reduceCtorEq,Nat.reduceLeDiff,Nat.reduceLT,Nat.reduceSub,Int.reduceToNat,Int.reduceLE,Int.reduceLT, q_all, q_im, q_inp, q_st, q_fuel, askR_length, askR_all, s_all, s_fin, s_zero, s_put, s_put', stc_length, stc_all, one_imm, eq_false d1]
    refine VCall.of_contract hs' (SleL.pure rfl) fun x hx => ?_
    subst hx
    simp only [go_sem,Nat.reduceEqDiff,Nat.reduceAdd,Nat.reduceMul,↓reduceIte,↓dreduceIte,reduceCtorEq,Nat.reduceLeDiff,Nat.reduceLT,Nat.reduceSub,Int.reduceToNat,Int.reduceLE,Int.reduceLT]
    exact ⟨_, Frz.pure rfl, rfl⟩

set_option maxRecDepth 100000 in
theorem execgoes_lifted (os : Os) (started : os.Started) (H : Type) (enc : TypeId × Value → H) :
    ReturnsInHanded {} Try.checked os 8 .any (Rows.execGoesSpec.pre6 enc Try.prog Try.f8 Rows.execGoesRow.domain false) (Rows.execGoesSpec.post enc Try.prog Try.f8 false true false false) := by
  refine returnsInHanded_of_change_sized (C := Try.checked) Try.own started (by kernel_rfl) Try.func8
    (ChangeSpec.witness6 (enc := enc) (C := Try.checked) false ⟨#[], #[.agg #[.slice none 0 0, .int .i64 0, .string ⟨#[]⟩, .int .i64 0, .int .u32 0, .int .u32 0, .int .u32 0, .int .u32 0, .int .u32 0, .int .u32 0, .int .u32 0, .int .u32 0, .int .u32 0, .int .u32 0, .int .u32 0, .int .u32 0, .int .u32 0, .int .u32 0, .int .u32 0, .int .u32 0, .slice none 0 0, .int .i64 0, .string ⟨#[]⟩, .int .i64 0, .int .i64 0, .int .i64 0]], []⟩ 8 (by kernel_rfl) (by kernel_rfl) (by kernel_rfl) (by kernel_rfl)) ?_
  intro W base args ds gs before hval hW _ hwt _
  refine law_calls (P := Try.prog) (n := 20) (shs := [askqSh]) (tb := 4) Try.laidOut rfl (by kernel_rfl) (by kernel_rfl) (by decide +kernel) (by kernel_rfl) (fun ds h => ?_) (fun xs hx => ?_) hval hW hwt
  · match ds, h with
    | [d1], _ => rfl
  · obtain ⟨x, _, rfl, hx1, hxs⟩ := fitL_cons hx
    have := fitL_nil hxs
    subst this
    obtain ⟨code, data, inp, s, fuel, rfl, h, k, hf⟩ := askq_of hx1
    exact execgoes_c code data inp s fuel h k hf

theorem execgoes_holds : Rows.ExecGoesSaid :=
  OpenClaim.holds_of_wide 8 Try.f8 rfl rfl rfl rfl rfl rfl rfl ⟨rfl, rfl, rfl, rfl, rfl⟩ rfl rfl rfl rfl rfl (by kernel_rfl) Try.func8 (by kernel_rfl)
    (of_decide_eq_true (by kernel_rfl)) (by unfold Func.isWrapper; first | (rw [if_pos (by decide +kernel)]; kernel_rfl) | (rw [if_neg (by decide +kernel)]; exact ⟨rfl, rfl⟩))
    (fun os started H enc _ => execgoes_lifted os started H enc)
end Go.Proofs.Ytjoldjcfabbekaa
