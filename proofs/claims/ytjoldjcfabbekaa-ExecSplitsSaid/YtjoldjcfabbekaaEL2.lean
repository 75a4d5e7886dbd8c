/-
  ExecSplits: the row. No condition.
-/
import Derived.Test.YtjoldjcfabbekaaEQ
namespace Go.Proofs.Ytjoldjcfabbekaa
set_option linter.unusedSimpArgs false
set_option linter.unusedVariables false
set_option maxRecDepth 10000
open Go.V Go.ChangeShapes Go.WideShapes Go.ChangeAt Go.RowKit

theorem execsplits_c (code : List Int) (data : Int) (inp : ByteArray) (s : S) (fuel more : Int) (h : Im code data) (k : StF s) (hf : Int64 fuel) (hm : Int64 more) : Contract Try.prog 4 [askQ code data inp s fuel, I more] (fun r => r = B true) := by
  refine Contract.of_call (VCall.of_body hmix f_sclaw10_ExecSplits (by simp) ?_)
  simp only [go_sem,Nat.reduceEqDiff,Nat.reduceAdd,Nat.reduceMul,↓reduceIte,↓dreduceIte,reduceCtorEq,Nat.reduceLeDiff,Nat.reduceLT,Nat.reduceSub,Int.reduceToNat,Int.reduceLE,Int.reduceLT, c_sclaw10_ExecSplits, q_all, q_im, q_inp, q_st, q_fuel, q_mem, q_out, q_steps, askR_length, askR_all, s_all, s_zero, s_put, s_put', s_mem, s_out, s_st, stc_length, stc_all, one_imm]
  refine VCall.of_contract alive_c (SleL.pure rfl) fun x hx => ?_
  subst hx
  simp only [go_sem,Nat.reduceEqDiff,Nat.reduceAdd,Nat.reduceMul,↓reduceIte,↓dreduceIte,reduceCtorEq,Nat.reduceLeDiff,Nat.reduceLT,Nat.reduceSub,Int.reduceToNat,Int.reduceLE,Int.reduceLT, q_all, q_im, q_inp, q_st, q_fuel, q_mem, q_out, q_steps, askR_length, askR_all, s_all, s_zero, s_put, s_put', s_mem, s_out, s_st, stc_length, stc_all, one_imm]
  refine VCall.of_contract (little_c code data inp s fuel) (SleL.pure rfl) fun x hx => ?_
  subst hx
  cases hb : littleB code data inp s fuel
  · simp only [go_sem,Nat.reduceEqDiff,Nat.reduceAdd,Nat.reduceMul,↓reduceIte,↓dreduceIte,reduceCtorEq,Nat.reduceLeDiff,Nat.reduceLT,Nat.reduceSub,Int.reduceToNat,Int.reduceLE,Int.reduceLT, q_all, q_im, q_inp, q_st, q_fuel, q_mem, q_out, q_steps, askR_length, askR_all, s_all, s_zero, s_put, s_put', s_mem, s_out, s_st, stc_length, stc_all, one_imm]
    exact ⟨_, Frz.pure rfl, rfl⟩
  by_cases c1 : fuel < 0
  · simp only [go_sem,Nat.reduceEqDiff,Nat.reduceAdd,Nat.reduceMul,↓reduceIte,↓dreduceIte,reduceCtorEq,Nat.reduceLeDiff,Nat.reduceLT,Nat.reduceSub,Int.reduceToNat,Int.reduceLE,Int.reduceLT, eq_true c1, q_all, q_im, q_inp, q_st, q_fuel, q_mem, q_out, q_steps, askR_length, askR_all, s_all, s_zero, s_put, s_put', s_mem, s_out, s_st, stc_length, stc_all, one_imm]
    exact ⟨_, Frz.pure rfl, rfl⟩
  by_cases c2 : more < 0
  · simp only [go_sem,Nat.reduceEqDiff,Nat.reduceAdd,Nat.reduceMul,↓reduceIte,↓dreduceIte,reduceCtorEq,Nat.reduceLeDiff,Nat.reduceLT,Nat.reduceSub,Int.reduceToNat,Int.reduceLE,Int.reduceLT, eq_false c1, eq_true c2, q_all, q_im, q_inp, q_st, q_fuel, q_mem, q_out, q_steps, askR_length, askR_all, s_all, s_zero, s_put, s_put', s_mem, s_out, s_st, stc_length, stc_all, one_imm]
    exact ⟨_, Frz.pure rfl, rfl⟩
  by_cases c3 : 300 < more
  · simp only [go_sem,Nat.reduceEqDiff,Nat.reduceAdd,Nat.reduceMul,↓reduceIte,↓dreduceIte,reduceCtorEq,Nat.reduceLeDiff,Nat.reduceLT,Nat.reduceSub,Int.reduceToNat,Int.reduceLE,Int.reduceLT, eq_false c1, eq_false c2, eq_true c3, q_all, q_im, q_inp, q_st, q_fuel, q_mem, q_out, q_steps, askR_length, askR_all, s_all, s_zero, s_put, s_put', s_mem, s_out, s_st, stc_length, stc_all, one_imm]
    exact ⟨_, Frz.pure rfl, rfl⟩
  obtain ⟨⟨b1, b2, b3, b4⟩, b5, b6, b7⟩ := littleB_iff.1 hb
  obtain ⟨w1, w2, w3⟩ := runN_wf (inp := inp) h.fit k.wf fuel.toNat
  obtain ⟨v1, v2, v3⟩ := runN_wf (inp := inp) h.fit w1 more.toNat
  have hadd : IntKind.i64.wrap (fuel + more) = fuel + more := i64_in (by omega) (by omega)
  have hsum : runN code inp s (fuel + more).toNat = runN code inp (runN code inp s fuel.toNat) more.toNat := by
    rw [show (fuel + more).toNat = fuel.toNat + more.toNat by omega, runN_add]
  simp only [go_sem,Nat.reduceEqDiff,Nat.reduceAdd,Nat.reduceMul,↓reduceIte,↓dreduceIte,reduceCtorEq,Nat.reduceLeDiff,Nat.reduceLT,Nat.reduceSub,Int.reduceToNat,Int.reduceLE,Int.reduceLT, eq_false c1, eq_false c2, eq_false c3, q_all, q_im, q_inp, q_st, q_fuel, q_mem, q_out, q_steps, askR_length, askR_all, s_all, s_zero, s_put, s_put', s_mem, s_out, s_st, stc_length, stc_all, one_imm]
  refine VCall.of_contract (go_c code data inp s fuel h.fit (by omega) (by omega) k.wf (by omega) (by omega) (by omega)) (SleL.pure rfl) fun x hx => ?_
  subst hx
  simp only [go_sem,Nat.reduceEqDiff,Nat.reduceAdd,Nat.reduceMul,↓reduceIte,↓dreduceIte,reduceCtorEq,Nat.reduceLeDiff,Nat.reduceLT,Nat.reduceSub,Int.reduceToNat,Int.reduceLE,Int.reduceLT, q_all, q_im, q_inp, q_st, q_fuel, q_mem, q_out, q_steps, askR_length, askR_all, s_all, s_zero, s_put, s_put', s_mem, s_out, s_st, stc_length, stc_all, one_imm]
  refine VCall.of_contract (go_c code data inp (runN code inp s fuel.toNat) more h.fit (by omega) (by omega) w1 (by omega) (by omega) (by omega)) (SleL.pure rfl) fun x hx => ?_
  subst hx
  simp only [go_sem,Nat.reduceEqDiff,Nat.reduceAdd,Nat.reduceMul,↓reduceIte,↓dreduceIte,reduceCtorEq,Nat.reduceLeDiff,Nat.reduceLT,Nat.reduceSub,Int.reduceToNat,Int.reduceLE,Int.reduceLT, hadd, q_all, q_im, q_inp, q_st, q_fuel, q_mem, q_out, q_steps, askR_length, askR_all, s_all, s_zero, s_put, s_put', s_mem, s_out, s_st, stc_length, stc_all, one_imm]
  refine ECall.of (go_c code data inp s (fuel + more) h.fit (by omega) (by omega) k.wf (by omega) (by omega) (by omega)) (SleL.pure rfl) ⟨_, fun _ => Iff.rfl⟩ fun x hx => ?_
  subst hx
  rw [hsum]
  simp only [go_sem,Nat.reduceEqDiff,Nat.reduceAdd,Nat.reduceMul,↓reduceIte,↓dreduceIte,reduceCtorEq,Nat.reduceLeDiff,Nat.reduceLT,Nat.reduceSub,Int.reduceToNat,Int.reduceLE,Int.reduceLT, q_all, q_im, q_inp, q_st, q_fuel, q_mem, q_out, q_steps, askR_length, askR_all, s_all, s_zero, s_put, s_put', s_mem, s_out, s_st, stc_length, stc_all, one_imm]
  have hs' := refsame_c (runN code inp (runN code inp s fuel.toNat) more.toNat) (runN code inp (runN code inp s fuel.toNat) more.toNat) (by omega)
  rw [sameB_refl] at hs'
  refine ECall.of hs' (SleL.pure rfl) ⟨_, fun _ => Iff.rfl⟩ fun x hx => ?_
  subst hx
  simp only [go_sem,Nat.reduceEqDiff,Nat.reduceAdd,Nat.reduceMul,↓reduceIte,↓dreduceIte,reduceCtorEq,Nat.reduceLeDiff,Nat.reduceLT,Nat.reduceSub,Int.reduceToNat,Int.reduceLE,Int.reduceLT]
  exact ⟨_, Frz.pure rfl, rfl⟩

set_option maxRecDepth 100000 in
theorem execsplits_lifted (os : Os) (started : os.Started) (H : Type) (enc : TypeId × Value → H) :
    ReturnsInHanded {} Try.checked os 4 .any (Rows.execSplitsSpec.pre6 enc Try.prog Try.f4 Rows.execSplitsRow.domain false) (Rows.execSplitsSpec.post enc Try.prog Try.f4 false true false false) := by
  refine returnsInHanded_of_change_sized (C := Try.checked) Try.own started (by kernel_rfl) Try.func4
    (ChangeSpec.witness6 (enc := enc) (C := Try.checked) false ⟨#[], #[.agg #[.slice none 0 0, .int .i64 0, .string ⟨#[]⟩, .int .i64 0, .int .u32 0, .int .u32 0, .int .u32 0, .int .u32 0, .int .u32 0, .int .u32 0, .int .u32 0, .int .u32 0, .int .u32 0, .int .u32 0, .int .u32 0, .int .u32 0, .int .u32 0, .int .u32 0, .int .u32 0, .int .u32 0, .slice none 0 0, .int .i64 0, .string ⟨#[]⟩, .int .i64 0, .int .i64 0, .int .i64 0], .int .i64 0], []⟩ 8 (by kernel_rfl) (by kernel_rfl) (by kernel_rfl) (by kernel_rfl)) ?_
  intro W base args ds gs before hval hW _ hwt _
  refine law_calls (P := Try.prog) (n := 20) (shs := [askqSh, .int .i64]) (tb := 4) Try.laidOut rfl (by kernel_rfl) (by kernel_rfl) (by decide +kernel) (by kernel_rfl) (fun ds h => ?_) (fun xs hx => ?_) hval hW hwt
  · match ds, h with
    | [d1, d2], _ => rfl
  · obtain ⟨x, _, rfl, hx1, hxs⟩ := fitL_cons hx
    obtain ⟨y, _, rfl, hy, hys⟩ := fitL_cons hxs
    have := fitL_nil hys
    subst this
    obtain ⟨code, data, inp, s, fuel, rfl, h, k, hf⟩ := askq_of hx1
    obtain ⟨more, rfl, hm⟩ := fit_int hy
    exact execsplits_c code data inp s fuel more h k hf hm

theorem execsplits_holds : Rows.ExecSplitsSaid :=
  OpenClaim.holds_of_wide 4 Try.f4 rfl rfl rfl rfl rfl rfl rfl ⟨rfl, rfl, rfl, rfl, rfl⟩ rfl rfl rfl rfl rfl (by kernel_rfl) Try.func4 (by kernel_rfl)
    (of_decide_eq_true (by kernel_rfl)) (by unfold Func.isWrapper; first | (rw [if_pos (by decide +kernel)]; kernel_rfl) | (rw [if_neg (by decide +kernel)]; exact ⟨rfl, rfl⟩))
    (fun os started H enc _ => execsplits_lifted os started H enc)
end Go.Proofs.Ytjoldjcfabbekaa
