/-
  Runs with fuel: the examples, alive. No condition.
-/
import Derived.Test.YtjoldjcfabbekaaE4
namespace Go.Proofs.Ytjoldjcfabbekaa
set_option linter.unusedSimpArgs false
set_option linter.unusedVariables false
set_option maxRecDepth 10000
open Go.V

def jmpW : Int := 301989888
def jmpS (j : Int) : S := ⟨0, fun _ => 0, [], 0, ⟨#[]⟩, j, 0⟩
theorem jmp_step (j : Int) (h : 0 ≤ j ∧ j < 100) : stepF [jmpW] ⟨#[]⟩ (jmpS j) = jmpS (j + 1) := by
  have h1 : okW jmpW = true := by decide
  have e : IntKind.i64.wrap (j + 1) = j + 1 := i64_in (by omega) (by omega)
  have h2 : insF [jmpW] ⟨#[]⟩ (jmpS (j + 1)) (opW jmpW) (raW jmpW) (rbW jmpW) (kW jmpW) = (0, jmpS (j + 1)) := by
    have e1 : opW jmpW = 18 := by decide
    have e2 : kW jmpW = 0 := by decide
    rw [e1, e2]; rfl
  have h3 : stepF [jmpW] ⟨#[]⟩ (jmpS j) = wordF [jmpW] ⟨#[]⟩ (jmpS (IntKind.i64.wrap (j + 1))) jmpW := by
    unfold stepF
    rw [if_pos (show (jmpS j).fin = 0 from rfl), if_neg (by show ¬ ((0 : Int) < 0 ∨ (([jmpW].length : Nat) : Int) ≤ 0); decide)]; rfl
  rw [h3, e]
  unfold wordF
  rw [h1, if_pos rfl, h2, if_pos rfl]
theorem jmp_run : ∀ k : Nat, k ≤ 50 → runN [jmpW] ⟨#[]⟩ (startF 0) k = jmpS k
  | 0, _ => rfl
  | k + 1, h => by
    show stepF _ _ (runN [jmpW] ⟨#[]⟩ (startF 0) k) = _
    rw [jmp_run k (by omega), jmp_step k (by omega)]; rfl
theorem jmp_cnt : ∀ k : Nat, k ≤ 50 → cntL [jmpW] ⟨#[]⟩ (startF 0) k = [(k : Int)]
  | 0, _ => rfl
  | k + 1, h => by
    have hd : doneF [jmpW] (jmpS k) = true := by simp [doneF, jmpS]
    simp only [cntL, jmp_run k (by omega), hd, if_true, jmp_cnt k (by omega)]
    rfl
theorem none_run1 : runN [] ⟨#[]⟩ (startF 0) 1 = ⟨0, fun _ => 0, [], 0, ⟨#[]⟩, 0, 7⟩ := by
  show stepF _ _ (startF 0) = _
  unfold stepF
  rw [if_pos (show (startF 0).fin = 0 from rfl), if_pos (by right; decide)]
  rfl

theorem alive_c : Contract Try.prog 10 [] (fun r => r = B true) := by
  refine Contract.of_call (VCall.of_body hmix f_sclaw10_alive (by simp) ?_)
  simp only [go_sem,Nat.reduceEqDiff,Nat.reduceAdd,Nat.reduceMul,↓reduceIte,↓dreduceIte,reduceCtorEq,Nat.reduceLeDiff,Nat.reduceLT,Nat.reduceSub,Int.reduceToNat,Int.reduceLE,Int.reduceLT, c_sclaw10_alive]
  refine VCall.of_contract (encode_c 18 0 0 0 (by decide)) (SleL.pure rfl) fun x hx => ?_
  subst hx
  simp only [go_sem,Nat.reduceEqDiff,Nat.reduceAdd,Nat.reduceMul,↓reduceIte,↓dreduceIte,reduceCtorEq,Nat.reduceLeDiff,Nat.reduceLT,Nat.reduceSub,Int.reduceToNat,Int.reduceLE,Int.reduceLT]
  have hin : ∀ x ∈ [jmpW], In32 x := by intro x hx; simp only [List.mem_cons, List.not_mem_nil, or_false] at hx; subst hx; exact ⟨by decide, by decide⟩
  have hin0 : ∀ x ∈ ([] : List Int), In32 x := by simp
  refine VCall.of_contractN (runN_c [jmpW] 0 ⟨#[]⟩ 5 hin (by decide) (by decide) (by decide)) ?_ fun x hx => ?_
  · exact ⟨_, _, rfl, Frz.agg ⟨_, _, rfl, Frz.ref (Nat.zero_le _) rfl rfl rfl rfl ⟨_, _, rfl, Frz.pure rfl, rfl⟩, _, _, rfl, Frz.pure rfl, rfl⟩, _, _, rfl, Frz.pure rfl, _, _, rfl, Frz.pure rfl, rfl⟩
  subst hx
  have hr5 : runF [jmpW] 0 ⟨#[]⟩ 5 = jmpS 5 := jmp_run 5 (by decide)
  have he5 : endF (jmpS 5) = 5 := rfl
  have ho5 : (jmpS 5).out = ⟨#[]⟩ := rfl
  have hs5 : (jmpS 5).st = 5 := rfl
  simp only [go_sem,Nat.reduceEqDiff,Nat.reduceAdd,Nat.reduceMul,↓reduceIte,↓dreduceIte,reduceCtorEq,Nat.reduceLeDiff,Nat.reduceLT,Nat.reduceSub,Int.reduceToNat,Int.reduceLE,Int.reduceLT, hr5, he5, ho5, hs5, one_imm, one_ref]
  refine VCall.of_contractN (countsN_c [jmpW] 0 ⟨#[]⟩ 5 hin (by decide) (by decide) (by decide)) ?_ fun x hx => ?_
  · exact ⟨_, _, rfl, Frz.agg ⟨_, _, rfl, Frz.ref (Nat.zero_le _) rfl rfl rfl rfl ⟨_, _, rfl, Frz.pure rfl, rfl⟩, _, _, rfl, Frz.pure rfl, rfl⟩, _, _, rfl, Frz.pure rfl, _, _, rfl, Frz.pure rfl, rfl⟩
  subst hx
  have hc5 : cntL [jmpW] ⟨#[]⟩ (startF 0) 5 = [5] := jmp_cnt 5 (by decide)
  simp only [go_sem,Nat.reduceEqDiff,Nat.reduceAdd,Nat.reduceMul,↓reduceIte,↓dreduceIte,reduceCtorEq,Nat.reduceLeDiff,Nat.reduceLT,Nat.reduceSub,Int.reduceToNat,Int.reduceLE,Int.reduceLT, hc5, one_imm, one_ref]
  refine VCall.of_contract (execsame_c 5 ⟨#[]⟩ 5 5 ⟨#[]⟩ 5) (SleL.pure rfl) fun x hx => ?_
  subst hx
  rw [sameR_refl]
  simp only [go_sem,Nat.reduceEqDiff,Nat.reduceAdd,Nat.reduceMul,↓reduceIte,↓dreduceIte,reduceCtorEq,Nat.reduceLeDiff,Nat.reduceLT,Nat.reduceSub,Int.reduceToNat,Int.reduceLE,Int.reduceLT, one_imm, one_ref, Int.reduceEq, Int.reduceBEq]
  refine ⟨fun _ => ⟨by decide, ⟨fun _ => ?_, fun h => absurd rfl h⟩⟩, fun h => absurd rfl h⟩
  refine VCall.of_contract (run_c [] 0 ⟨#[]⟩ 1 hin0 (by decide) (by decide) (by decide)) ?_ fun x hx => ?_
  · exact ⟨_, _, rfl, sle_img0, _, _, rfl, Sle.pure rfl, _, _, rfl, Sle.pure rfl, rfl⟩
  subst hx
  have hr1 : runF [] 0 ⟨#[]⟩ 1 = ⟨0, fun _ => 0, [], 0, ⟨#[]⟩, 0, 7⟩ := none_run1
  have he1 : endF ⟨0, fun _ => 0, [], 0, ⟨#[]⟩, 0, 7⟩ = 7 := rfl
  simp only [go_sem,Nat.reduceEqDiff,Nat.reduceAdd,Nat.reduceMul,↓reduceIte,↓dreduceIte,reduceCtorEq,Nat.reduceLeDiff,Nat.reduceLT,Nat.reduceSub,Int.reduceToNat,Int.reduceLE,Int.reduceLT, hr1, he1, Int.reduceEq, Int.reduceBEq]
  refine VCall.of_contract (run_c [] 0 ⟨#[]⟩ 0 hin0 (by decide) (by decide) (by decide)) ?_ fun x hx => ?_
  · exact ⟨_, _, rfl, sle_img0, _, _, rfl, Sle.pure rfl, _, _, rfl, Sle.pure rfl, rfl⟩
  subst hx
  have hr0 : endF (runF [] 0 ⟨#[]⟩ 0) = 5 := rfl
  simp only [go_sem,Nat.reduceEqDiff,Nat.reduceAdd,Nat.reduceMul,↓reduceIte,↓dreduceIte,reduceCtorEq,Nat.reduceLeDiff,Nat.reduceLT,Nat.reduceSub,Int.reduceToNat,Int.reduceLE,Int.reduceLT, hr0, Int.reduceEq, Int.reduceBEq]
  exact ⟨_, Frz.pure rfl, rfl⟩
end Go.Proofs.Ytjoldjcfabbekaa
