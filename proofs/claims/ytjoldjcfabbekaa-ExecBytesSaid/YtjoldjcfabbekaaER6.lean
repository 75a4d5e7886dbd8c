/-
  The document's Go, Run, Counts. No condition.
-/
import Derived.Test.YtjoldjcfabbekaaER5
namespace Go.Proofs.Ytjoldjcfabbekaa
set_option linter.unusedSimpArgs false
set_option linter.unusedVariables false
set_option maxRecDepth 10000
open Go.V

theorem refints_c (a b : List Int) (ha : a.length ≤ 140737488355328) : Contract Try.prog 16 [ints a, ints b] (fun r => r = B (a == b)) := by
  refine Contract.of_call (VCall.of_body hmix f_scref01_Ints (by simp) ?_)
  simp only [go_sem,Nat.reduceEqDiff,Nat.reduceAdd,Nat.reduceMul,↓reduceIte,↓dreduceIte,reduceCtorEq,Nat.reduceLeDiff,Nat.reduceLT,Nat.reduceSub,Int.reduceToNat,Int.reduceLE,Int.reduceLT, c_scref01_Ints]
  refine ⟨fun h => ⟨_, Frz.pure rfl, ?_⟩, fun h => ?_⟩
  · rw [beq_eq_false_iff_ne.2 (fun e => h (by rw [e]))]
  have hl : a.length = b.length := by omega
  refine VW_loop (fun k : Nat => ⟨[(0, ints a), (1, ints b), (5, I k)], [], 0⟩) (fun k => k ≤ a.length ∧ a.take k = b.take k) (fun k => a.length - k) 0 (Wk.mk (by simp [get_cons]) ⟨[], rfl⟩ (Nat.le_refl _)) ⟨by omega, rfl⟩ ?_
  intro k ⟨hk, hpre⟩
  simp only [go_sem,Nat.reduceEqDiff,Nat.reduceAdd,Nat.reduceMul,↓reduceIte,↓dreduceIte,reduceCtorEq,Nat.reduceLeDiff,Nat.reduceLT,Nat.reduceSub,Int.reduceToNat,Int.reduceLE,Int.reduceLT]
  refine ⟨fun h => ?_, fun h => ?_⟩
  · refine ⟨by omega, by omega, fun hne => ⟨_, Frz.pure rfl, ?_⟩, fun heq => ?_⟩
    · have : a ≠ b := fun e => hne (by rw [e])
      rw [beq_eq_false_iff_ne.2 this]
    · rw [i64_in (by omega) (by omega)]
      refine ⟨k + 1, ⟨by omega, ?_⟩, by omega, Wk.mk (by simp [get_cons]) ⟨[], rfl⟩ (Nat.le_refl _)⟩
      rw [List.take_add_one, List.take_add_one, hpre, List.getElem?_eq_getElem (by omega), List.getElem?_eq_getElem (by omega)]
      simp only [List.getD, List.getElem?_eq_getElem (show k < a.length by omega), List.getElem?_eq_getElem (show k < b.length by omega), Option.getD_some] at heq
      rw [heq]
  · refine ⟨_, Frz.pure rfl, ?_⟩
    have : a = b := by
      have h1 := hpre
      rw [List.take_of_length_le (by omega), List.take_of_length_le (by omega)] at h1
      exact h1
    rw [this]
    simp


theorem refgo_c (code : List Int) (data : Int) (inp : ByteArray) (σ : S) (fuel : Int) (hcode : ∀ x ∈ code, In32 x) (hcl : code.length ≤ 1000000) (hi : inp.size ≤ 1000000000) (hws : Wf σ) (hl : σ.mem.length ≤ 1000000) (hol : σ.out.size + fuel.toNat ≤ 1000000) (hfu : fuel ≤ 1000000) :
    Contract Try.prog 23 [imgA code data, strv inp, stA σ, I fuel] (fun r => r = stA (runN code inp σ fuel.toNat)) := by
  refine Contract.of_call (VCall.of_body hmix f_scref10_Go (by simp) ?_)
  simp only [go_sem,Nat.reduceEqDiff,Nat.reduceAdd,Nat.reduceMul,↓reduceIte,↓dreduceIte,reduceCtorEq,Nat.reduceLeDiff,Nat.reduceLT,Nat.reduceSub,Int.reduceToNat,Int.reduceLE,Int.reduceLT, c_scref10_Go, s_all, s_zero, s_put, s_put', stc_length, stc_all, one_imm, one_ref]
  refine VCall.of_contract (refrun_c code data inp σ fuel hcode hcl hi hws hl hol hfu) (SleL.pure rfl) fun x hx => ?_
  subst hx
  simp only [go_sem,Nat.reduceEqDiff,Nat.reduceAdd,Nat.reduceMul,↓reduceIte,↓dreduceIte,reduceCtorEq,Nat.reduceLeDiff,Nat.reduceLT,Nat.reduceSub,Int.reduceToNat,Int.reduceLE,Int.reduceLT, s_all, s_zero, s_put, s_put', stc_length, stc_all, one_imm, one_ref]
  exact ⟨_, Frz.pure rfl, rfl⟩
theorem refRun_c (code : List Int) (data : Int) (inp : ByteArray) (fuel : Int) (hcode : ∀ x ∈ code, In32 x) (hcl : code.length ≤ 1000000) (hi : inp.size ≤ 1000000000) (hfu : fuel ≤ 900000) :
    Contract Try.prog 15 [imgA code data, strv inp, I fuel] (fun r => r = runA code data inp fuel) := by
  have hs := start_len data
  have ho : (startF data).out.size = 0 := rfl
  refine Contract.of_call (VCall.of_body hmix f_scref10_Run (by simp) ?_)
  simp only [go_sem,Nat.reduceEqDiff,Nat.reduceAdd,Nat.reduceMul,↓reduceIte,↓dreduceIte,reduceCtorEq,Nat.reduceLeDiff,Nat.reduceLT,Nat.reduceSub,Int.reduceToNat,Int.reduceLE,Int.reduceLT, c_scref10_Run, one_imm]
  refine ECall.of (refstart_c code data) (SleL.pure rfl) ⟨_, fun _ => Iff.rfl⟩ fun x hx => ?_
  subst hx
  simp only [go_sem,Nat.reduceEqDiff,Nat.reduceAdd,Nat.reduceMul,↓reduceIte,↓dreduceIte,reduceCtorEq,Nat.reduceLeDiff,Nat.reduceLT,Nat.reduceSub,Int.reduceToNat,Int.reduceLE,Int.reduceLT, one_imm]
  refine ECall.of (refgo_c code data inp (startF data) fuel hcode hcl hi (wf_start data) (by omega) (by omega) (by omega)) (SleL.pure rfl) ⟨_, fun _ => Iff.rfl⟩ fun x hx => ?_
  subst hx
  show _
  unfold runA endF runF
  generalize runN code inp (startF data) fuel.toNat = ρ
  by_cases h : ρ.fin = 0
  · simp only [go_sem,Nat.reduceEqDiff,Nat.reduceAdd,Nat.reduceMul,↓reduceIte,↓dreduceIte,reduceCtorEq,Nat.reduceLeDiff,Nat.reduceLT,Nat.reduceSub,Int.reduceToNat,Int.reduceLE,Int.reduceLT, one_imm, s_zero, s_put, s_put', s_all, stc_length, stc_all, s_fin, s_out, s_st, ss_fin, eq_true h, if_pos h]
    exact ⟨_, Frz.pure rfl, rfl⟩
  · simp only [go_sem,Nat.reduceEqDiff,Nat.reduceAdd,Nat.reduceMul,↓reduceIte,↓dreduceIte,reduceCtorEq,Nat.reduceLeDiff,Nat.reduceLT,Nat.reduceSub,Int.reduceToNat,Int.reduceLE,Int.reduceLT, one_imm, s_zero, s_put, s_put', s_all, stc_length, stc_all, s_fin, s_out, s_st, ss_fin, eq_false h, if_neg h]
    exact ⟨_, Frz.pure rfl, rfl⟩
theorem refCounts_c (code : List Int) (data : Int) (inp : ByteArray) (fuel : Int) (hcode : ∀ x ∈ code, In32 x) (hcl : code.length ≤ 1000000) (hi : inp.size ≤ 1000000000) (hfu : fuel ≤ 900000) :
    Contract Try.prog 17 [imgA code data, strv inp, I fuel] (fun r => r = ints (cntL code inp (startF data) fuel.toNat)) := by
  have hs := start_len data
  have ho : (startF data).out.size = 0 := rfl
  refine Contract.of_call (VCall.of_body hmix f_scref10_Counts (by simp) ?_)
  simp only [go_sem,Nat.reduceEqDiff,Nat.reduceAdd,Nat.reduceMul,↓reduceIte,↓dreduceIte,reduceCtorEq,Nat.reduceLeDiff,Nat.reduceLT,Nat.reduceSub,Int.reduceToNat,Int.reduceLE,Int.reduceLT, c_scref10_Counts, one_imm]
  refine ECall.of (refstart_c code data) (SleL.pure rfl) ⟨_, fun _ => Iff.rfl⟩ fun x hx => ?_
  subst hx
  simp only [go_sem,Nat.reduceEqDiff,Nat.reduceAdd,Nat.reduceMul,↓reduceIte,↓dreduceIte,reduceCtorEq,Nat.reduceLeDiff,Nat.reduceLT,Nat.reduceSub,Int.reduceToNat,Int.reduceLE,Int.reduceLT, one_imm]
  refine ECall.of (refrun_c code data inp (startF data) fuel hcode hcl hi (wf_start data) (by omega) (by omega) (by omega)) (SleL.pure rfl) ⟨_, fun _ => Iff.rfl⟩ fun x hx => ?_
  subst hx
  simp only [go_sem,Nat.reduceEqDiff,Nat.reduceAdd,Nat.reduceMul,↓reduceIte,↓dreduceIte,reduceCtorEq,Nat.reduceLeDiff,Nat.reduceLT,Nat.reduceSub,Int.reduceToNat,Int.reduceLE,Int.reduceLT, s_all, s_zero, s_put, s_put', stc_length, stc_all, one_imm, one_ref]
  exact ⟨_, Frz.pure rfl, rfl⟩
end Go.Proofs.Ytjoldjcfabbekaa
