/-
  The document's words: what the operations make of two words is what the program makes of them. No condition.
-/
import Derived.Test.YtdfdkoajphcjbaaM4
namespace Go.Proofs.Ytdfdkoajphcjbaa
set_option linter.unusedSimpArgs false
set_option linter.unusedVariables false
set_option maxRecDepth 10000
open Go.V

theorem refapply_c (op a b : Int) (ha : In32 a) (hb : In32 b) : Contract Try.prog 48 [I op, U32 a, U32 b] (fun r => r = tup2 (applyW op a b)) := by
  refine Contract.of_call (VCall.of_body hmix f_scref01_Apply (by simp) ?_)
  have ha' := ha
  have hb' := hb
  obtain ⟨ha1, ha2⟩ := ha
  obtain ⟨hb1, hb2⟩ := hb
  have ea : IntKind.u64.wrap a = a := by rw [IntKind.wrap_u64]; omega
  have eb : IntKind.u64.wrap b = b := by rw [IntKind.wrap_u64]; omega
  have hop : op = 4 ∨ op = 5 ∨ op = 6 ∨ op = 7 ∨ op = 8 ∨ op = 9 ∨ op = 10 ∨ op = 11 ∨ op = 12 ∨ op = 13 ∨ op = 14 ∨ op = 15 ∨ (op ≠ 4 ∧ op ≠ 5 ∧ op ≠ 6 ∧ op ≠ 7 ∧ op ≠ 8 ∧ op ≠ 9 ∧ op ≠ 10 ∧ op ≠ 11 ∧ op ≠ 12 ∧ op ≠ 13 ∧ op ≠ 14 ∧ op ≠ 15) := by omega
  rcases hop with rfl | rfl | rfl | rfl | rfl | rfl | rfl | rfl | rfl | rfl | rfl | rfl | ⟨h1, h2, h3, h4, h5, h6, h7, h8, h9, h10, h11, h12⟩
  · simp only [go_sem,Nat.reduceEqDiff,Nat.reduceAdd,Nat.reduceMul,↓reduceIte,↓dreduceIte,reduceCtorEq,Nat.reduceLeDiff,Nat.reduceLT,Nat.reduceSub,Int.reduceToNat,Int.reduceLE,Int.reduceLT, c_scref01_Apply, Int.reduceEq, Int.reduceBEq, ea, eb]
    have e : IntKind.u32.wrap ((IntKind.u64.wrap (a + b)).tmod 4294967296) = w32 (a + b) := by
      rw [IntKind.wrap_u64, Int.tmod_eq_emod_of_nonneg (by omega), IntKind.wrap_u32, w32, IntKind.wrap_u32]; omega
    exact ⟨_, Frz.pure rfl, by rw [e]; rfl⟩
  · simp only [go_sem,Nat.reduceEqDiff,Nat.reduceAdd,Nat.reduceMul,↓reduceIte,↓dreduceIte,reduceCtorEq,Nat.reduceLeDiff,Nat.reduceLT,Nat.reduceSub,Int.reduceToNat,Int.reduceLE,Int.reduceLT, c_scref01_Apply, Int.reduceEq, Int.reduceBEq, ea, eb]
    have e : IntKind.u32.wrap ((IntKind.u64.wrap (IntKind.u64.wrap (a + 4294967296) - b)).tmod 4294967296) = w32 (a - b) := by
      rw [IntKind.wrap_u64, IntKind.wrap_u64, Int.tmod_eq_emod_of_nonneg (by omega), IntKind.wrap_u32, w32, IntKind.wrap_u32]; omega
    exact ⟨_, Frz.pure rfl, by rw [e]; rfl⟩
  · simp only [go_sem,Nat.reduceEqDiff,Nat.reduceAdd,Nat.reduceMul,↓reduceIte,↓dreduceIte,reduceCtorEq,Nat.reduceLeDiff,Nat.reduceLT,Nat.reduceSub,Int.reduceToNat,Int.reduceLE,Int.reduceLT, c_scref01_Apply, Int.reduceEq, Int.reduceBEq, ea, eb]
    have hp := Int.mul_nonneg ha1 hb1
    have e : ∀ p : Int, 0 ≤ p → IntKind.u32.wrap ((IntKind.u64.wrap p).tmod 4294967296) = w32 p := fun p hp => by
      rw [IntKind.wrap_u64, Int.tmod_eq_emod_of_nonneg (by omega), IntKind.wrap_u32, w32, IntKind.wrap_u32]; omega
    exact ⟨_, Frz.pure rfl, by rw [e _ hp]; rfl⟩
  · simp only [go_sem,Nat.reduceEqDiff,Nat.reduceAdd,Nat.reduceMul,↓reduceIte,↓dreduceIte,reduceCtorEq,Nat.reduceLeDiff,Nat.reduceLT,Nat.reduceSub,Int.reduceToNat,Int.reduceLE,Int.reduceLT, c_scref01_Apply, Int.reduceEq, Int.reduceBEq, ea, eb]
    refine ⟨fun h0 => ⟨_, Frz.pure rfl, ?_⟩, fun h0 => ⟨h0, _, Frz.pure rfl, ?_⟩⟩
    · show _ = tup2 (if b = 0 then (0, 14) else _); rw [if_pos h0]
    · show _ = tup2 (if b = 0 then (0, 14) else (IntKind.u32.wrap (a.tdiv b), 0))
      rw [if_neg h0, Int.tdiv_eq_ediv_of_nonneg ha1]
      have h1 : 0 ≤ a / b := Int.ediv_nonneg ha1 hb1
      have h2 : a / b ≤ a := Int.ediv_le_self _ ha1
      rw [IntKind.wrap_u64, show (a / b) % 18446744073709551616 = a / b by omega]
  · simp only [go_sem,Nat.reduceEqDiff,Nat.reduceAdd,Nat.reduceMul,↓reduceIte,↓dreduceIte,reduceCtorEq,Nat.reduceLeDiff,Nat.reduceLT,Nat.reduceSub,Int.reduceToNat,Int.reduceLE,Int.reduceLT, c_scref01_Apply, Int.reduceEq, Int.reduceBEq, ea, eb]
    refine ⟨fun h0 => ⟨_, Frz.pure rfl, ?_⟩, fun h0 => ⟨h0, _, Frz.pure rfl, ?_⟩⟩
    · show _ = tup2 (if b = 0 then (0, 14) else _); rw [if_pos h0]
    · show _ = tup2 (if b = 0 then (0, 14) else (a.tmod b, 0))
      rw [if_neg h0, Int.tmod_eq_emod_of_nonneg ha1]
      have h1 : 0 ≤ a % b := Int.emod_nonneg _ h0
      have h2 : a % b < b := Int.emod_lt_of_pos _ (by omega)
      rw [w32_in ⟨h1, by omega⟩]
  iterate 3
    · simp only [go_sem,Nat.reduceEqDiff,Nat.reduceAdd,Nat.reduceMul,↓reduceIte,↓dreduceIte,reduceCtorEq,Nat.reduceLeDiff,Nat.reduceLT,Nat.reduceSub,Int.reduceToNat,Int.reduceLE,Int.reduceLT, c_scref01_Apply, Int.reduceEq, Int.reduceBEq, ea, eb]
      refine VCall.of_contract (both_c _ a b (by simp) ha' hb') (SleL.pure rfl) fun x hx => ?_
      subst hx
      simp only [go_sem,Nat.reduceEqDiff,Nat.reduceAdd,Nat.reduceMul,↓reduceIte,↓dreduceIte,reduceCtorEq,Nat.reduceLeDiff,Nat.reduceLT,Nat.reduceSub,Int.reduceToNat,Int.reduceLE,Int.reduceLT]
      refine ⟨_, Frz.pure rfl, ?_⟩
      have := (both_bits (op := _) ha' hb' (by first | exact .inl rfl | exact .inr (.inl rfl) | exact .inr (.inr rfl))).1
      rfl
  · simp only [go_sem,Nat.reduceEqDiff,Nat.reduceAdd,Nat.reduceMul,↓reduceIte,↓dreduceIte,reduceCtorEq,Nat.reduceLeDiff,Nat.reduceLT,Nat.reduceSub,Int.reduceToNat,Int.reduceLE,Int.reduceLT, c_scref01_Apply, Int.reduceEq, Int.reduceBEq, ea, eb]
    refine VCall.of_contract (refshift_c _ a b ha' hb') (SleL.pure rfl) fun x hx => ?_
    subst hx
    simp only [go_sem,Nat.reduceEqDiff,Nat.reduceAdd,Nat.reduceMul,↓reduceIte,↓dreduceIte,reduceCtorEq,Nat.reduceLeDiff,Nat.reduceLT,Nat.reduceSub,Int.reduceToNat,Int.reduceLE,Int.reduceLT]
    have e : (if 31 < b then 0 else shN 12 a b.toNat) = if 31 < b then 0 else shlW a b := by
      by_cases h : 31 < b
      · rw [if_pos h, if_pos h]
      · rw [if_neg h, if_neg h]
        unfold shlW shN
        rw [if_pos rfl, show min b.toNat IntKind.u32.bits = b.toNat from Nat.min_eq_left (by show b.toNat ≤ 32; omega), w32, IntKind.wrap_u32]
        conv => rhs; rw [show a = ((a.toNat : Nat) : Int) by omega]
        simp
    exact ⟨_, Frz.pure rfl, by rw [e]; rfl⟩
  · simp only [go_sem,Nat.reduceEqDiff,Nat.reduceAdd,Nat.reduceMul,↓reduceIte,↓dreduceIte,reduceCtorEq,Nat.reduceLeDiff,Nat.reduceLT,Nat.reduceSub,Int.reduceToNat,Int.reduceLE,Int.reduceLT, c_scref01_Apply, Int.reduceEq, Int.reduceBEq, ea, eb]
    refine VCall.of_contract (refshift_c _ a b ha' hb') (SleL.pure rfl) fun x hx => ?_
    subst hx
    simp only [go_sem,Nat.reduceEqDiff,Nat.reduceAdd,Nat.reduceMul,↓reduceIte,↓dreduceIte,reduceCtorEq,Nat.reduceLeDiff,Nat.reduceLT,Nat.reduceSub,Int.reduceToNat,Int.reduceLE,Int.reduceLT]
    have e : (if 31 < b then 0 else shN 13 a b.toNat) = if 31 < b then 0 else shrW a b := by
      by_cases h : 31 < b
      · rw [if_pos h, if_pos h]
      · rw [if_neg h, if_neg h]
        unfold shN
        rw [if_neg (by decide)]
        have := shrW_eq ha' b.toNat (by omega)
        rw [show ((b.toNat : Nat) : Int) = b by omega] at this
        rw [this]
    exact ⟨_, Frz.pure rfl, by rw [e]; rfl⟩
  iterate 2
    · simp only [go_sem,Nat.reduceEqDiff,Nat.reduceAdd,Nat.reduceMul,↓reduceIte,↓dreduceIte,reduceCtorEq,Nat.reduceLeDiff,Nat.reduceLT,Nat.reduceSub,Int.reduceToNat,Int.reduceLE,Int.reduceLT, c_scref01_Apply, Int.reduceEq, Int.reduceBEq, ea, eb]
      refine VCall.of_contract (flag_c _) (SleL.pure rfl) fun x hx => ?_
      subst hx
      simp only [go_sem,Nat.reduceEqDiff,Nat.reduceAdd,Nat.reduceMul,↓reduceIte,↓dreduceIte,reduceCtorEq,Nat.reduceLeDiff,Nat.reduceLT,Nat.reduceSub,Int.reduceToNat,Int.reduceLE,Int.reduceLT]
      exact ⟨_, Frz.pure rfl, by simp [applyW, tup2]⟩
  · simp only [go_sem,Nat.reduceEqDiff,Nat.reduceAdd,Nat.reduceMul,↓reduceIte,↓dreduceIte,reduceCtorEq,Nat.reduceLeDiff,Nat.reduceLT,Nat.reduceSub,Int.reduceToNat,Int.reduceLE,Int.reduceLT, c_scref01_Apply, eq_false h1, eq_false h2, eq_false h3, eq_false h4, eq_false h5, eq_false h6, eq_false h7, eq_false h8, eq_false h9, eq_false h10, eq_false h11, eq_false h12]
    exact ⟨_, Frz.pure rfl, by simp [applyW, tup2, h1, h2, h3, h4, h5, h6, h7, h8, h9, h10, h11, h12]⟩
end Go.Proofs.Ytdfdkoajphcjbaa
