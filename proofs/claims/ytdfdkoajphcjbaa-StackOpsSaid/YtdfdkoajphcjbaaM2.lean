/-
  word: contracts: what the operations make of two words. No condition.
-/
import Derived.Test.YtdfdkoajphcjbaaVH
import Derived.Test.YtdfdkoajphcjbaaCode
namespace Go.Proofs.Ytdfdkoajphcjbaa
set_option linter.unusedSimpArgs false
set_option linter.unusedVariables false
set_option maxRecDepth 10000
open Go.V

theorem one_imm {sz : Nat} {xs : List AV} : (AV.imm sz xs).one = true := rfl
theorem one_ref {id s off len : Nat} : (AV.ref id s off len).one = true := rfl
theorem cellT_U32 {xs : List Int} {off : Nat} {C : AV → Prop} : cellT (xs.map U32) off false 1 C .mk = (off < xs.length ∧ C (U32 (xs.getD off default))) := cellT_map fun _ => rfl
/-- A word made of any number. -/
abbrev w32 (n : Int) : Int := IntKind.u32.wrap n
def andW (a b : Int) : Int := w32 (BitVec.ofInt IntKind.u32.bits a &&& BitVec.ofInt IntKind.u32.bits b).toNat
def orW (a b : Int) : Int := w32 (BitVec.ofInt IntKind.u32.bits a ||| BitVec.ofInt IntKind.u32.bits b).toNat
def xorW (a b : Int) : Int := w32 (BitVec.ofInt IntKind.u32.bits a ^^^ BitVec.ofInt IntKind.u32.bits b).toNat
def shlW (a b : Int) : Int := w32 (a * 2 ^ (min b.toNat IntKind.u32.bits))
def shrW (a b : Int) : Int := a.fdiv (2 ^ (min b.toNat IntKind.u32.bits))

/-- What an operation makes of two words, and the error. -/
def applyW (op a b : Int) : Int × Int :=
  if op = 4 then (w32 (a + b), 0) else if op = 5 then (w32 (a - b), 0) else if op = 6 then (w32 (a * b), 0)
  else if op = 7 then (if b = 0 then (0, 14) else (w32 (a.tdiv b), 0))
  else if op = 8 then (if b = 0 then (0, 14) else (a.tmod b, 0))
  else if op = 9 then (andW a b, 0) else if op = 10 then (orW a b, 0) else if op = 11 then (xorW a b, 0)
  else if op = 12 then (if 31 < b then 0 else shlW a b, 0)
  else if op = 13 then (if 31 < b then 0 else shrW a b, 0)
  else if op = 14 then (if a < b then 1 else 0, 0)
  else if op = 15 then (if a = b then 1 else 0, 0)
  else (0, 1)

abbrev tup2 (p : Int × Int) : AV := .tup [U32 p.1, I p.2]

theorem divide_c (op a b : Int) (h : op = 7 ∨ op = 8) : Contract Try.prog 31 [I op, U32 a, U32 b] (fun r => r = tup2 (applyW op a b)) := by
  refine Contract.of_call (VCall.of_body hmix f_word_divide (by simp) ?_)
  simp only [go_sem,Nat.reduceEqDiff,Nat.reduceAdd,Nat.reduceMul,↓reduceIte,↓dreduceIte,reduceCtorEq,Nat.reduceLeDiff,Nat.reduceLT,Nat.reduceSub,Int.reduceToNat,Int.reduceLE,Int.reduceLT, c_word_divide]
  refine ⟨fun h0 => ⟨_, Frz.pure rfl, ?_⟩, fun h0 => ⟨fun h1 => ⟨h0, _, Frz.pure rfl, ?_⟩, fun h1 => ⟨h0, _, Frz.pure rfl, ?_⟩⟩⟩
  · rcases h with rfl | rfl <;> simp [applyW, tup2, h0]
  · subst h1; simp [applyW, tup2, h0]
  · rcases h with rfl | rfl
    · exact absurd rfl h1
    · simp [applyW, tup2, h0]

theorem shift_c (op a b : Int) (hb : 0 ≤ b) : Contract Try.prog 32 [I op, U32 a, U32 b] (fun r => r = U32 (if 31 < b then 0 else if op = 12 then shlW a b else shrW a b)) := by
  refine Contract.of_call (VCall.of_body hmix f_word_shift (by simp) ?_)
  simp only [go_sem,Nat.reduceEqDiff,Nat.reduceAdd,Nat.reduceMul,↓reduceIte,↓dreduceIte,reduceCtorEq,Nat.reduceLeDiff,Nat.reduceLT,Nat.reduceSub,Int.reduceToNat,Int.reduceLE,Int.reduceLT, c_word_shift]
  refine ⟨fun h0 => ⟨_, Frz.pure rfl, ?_⟩, fun h0 => ⟨fun h1 => ⟨hb, _, Frz.pure rfl, ?_⟩, fun h1 => ⟨hb, _, Frz.pure rfl, ?_⟩⟩⟩
  · rw [if_pos h0]
  · rw [if_neg h0, if_pos h1]; rfl
  · rw [if_neg h0, if_neg h1]; rfl

theorem compare_c (op a b : Int) : Contract Try.prog 33 [I op, U32 a, U32 b] (fun r => r = U32 (if (op = 14 ∧ a < b) ∨ (op = 15 ∧ a = b) then 1 else 0)) := by
  refine Contract.of_call (VCall.of_body hmix f_word_compare (by simp) ?_)
  by_cases h1 : op = 14
  · subst h1
    by_cases h2 : a < b
    · simp only [go_sem,Nat.reduceEqDiff,Nat.reduceAdd,Nat.reduceMul,↓reduceIte,↓dreduceIte,reduceCtorEq,Nat.reduceLeDiff,Nat.reduceLT,Nat.reduceSub,Int.reduceToNat,Int.reduceLE,Int.reduceLT, c_word_compare, eq_true h2, Int.reduceEq, Int.reduceBEq]
      exact ⟨_, Frz.pure rfl, by simp [h2]⟩
    · simp only [go_sem,Nat.reduceEqDiff,Nat.reduceAdd,Nat.reduceMul,↓reduceIte,↓dreduceIte,reduceCtorEq,Nat.reduceLeDiff,Nat.reduceLT,Nat.reduceSub,Int.reduceToNat,Int.reduceLE,Int.reduceLT, c_word_compare, eq_false h2, Int.reduceEq, Int.reduceBEq]
      exact ⟨_, Frz.pure rfl, by simp [h2]⟩
  · by_cases h3 : op = 15
    · subst h3
      by_cases h2 : a = b
      · simp only [go_sem,Nat.reduceEqDiff,Nat.reduceAdd,Nat.reduceMul,↓reduceIte,↓dreduceIte,reduceCtorEq,Nat.reduceLeDiff,Nat.reduceLT,Nat.reduceSub,Int.reduceToNat,Int.reduceLE,Int.reduceLT, c_word_compare, eq_true h2, Int.reduceEq, Int.reduceBEq]
        exact ⟨_, Frz.pure rfl, by simp [h2]⟩
      · simp only [go_sem,Nat.reduceEqDiff,Nat.reduceAdd,Nat.reduceMul,↓reduceIte,↓dreduceIte,reduceCtorEq,Nat.reduceLeDiff,Nat.reduceLT,Nat.reduceSub,Int.reduceToNat,Int.reduceLE,Int.reduceLT, c_word_compare, eq_false h2, Int.reduceEq, Int.reduceBEq]
        exact ⟨_, Frz.pure rfl, by simp [h2]⟩
    · simp only [go_sem,Nat.reduceEqDiff,Nat.reduceAdd,Nat.reduceMul,↓reduceIte,↓dreduceIte,reduceCtorEq,Nat.reduceLeDiff,Nat.reduceLT,Nat.reduceSub,Int.reduceToNat,Int.reduceLE,Int.reduceLT, c_word_compare, eq_false h1, eq_false h3]
      exact ⟨_, Frz.pure rfl, by simp [h1, h3]⟩

theorem apply_c (op a b : Int) (hb : 0 ≤ b) : Contract Try.prog 15 [I op, U32 a, U32 b] (fun r => r = tup2 (applyW op a b)) := by
  refine Contract.of_call (VCall.of_body hmix f_word_Apply (by simp) ?_)
  have hop : op = 4 ∨ op = 5 ∨ op = 6 ∨ op = 9 ∨ op = 10 ∨ op = 11 ∨ op = 7 ∨ op = 8 ∨ op = 12 ∨ op = 13 ∨ op = 14 ∨ op = 15 ∨ (op ≠ 4 ∧ op ≠ 5 ∧ op ≠ 6 ∧ op ≠ 7 ∧ op ≠ 8 ∧ op ≠ 9 ∧ op ≠ 10 ∧ op ≠ 11 ∧ op ≠ 12 ∧ op ≠ 13 ∧ op ≠ 14 ∧ op ≠ 15) := by omega
  rcases hop with rfl | rfl | rfl | rfl | rfl | rfl | rfl | rfl | rfl | rfl | rfl | rfl | ⟨h1, h2, h3, h4, h5, h6, h7, h8, h9, h10, h11, h12⟩
  iterate 6
    · simp only [go_sem,Nat.reduceEqDiff,Nat.reduceAdd,Nat.reduceMul,↓reduceIte,↓dreduceIte,reduceCtorEq,Nat.reduceLeDiff,Nat.reduceLT,Nat.reduceSub,Int.reduceToNat,Int.reduceLE,Int.reduceLT, c_word_Apply, Int.reduceEq, Int.reduceBEq]
      exact ⟨_, Frz.pure rfl, by first | rfl | simp [applyW, tup2, andW, orW, xorW]⟩
  iterate 2
    · simp only [go_sem,Nat.reduceEqDiff,Nat.reduceAdd,Nat.reduceMul,↓reduceIte,↓dreduceIte,reduceCtorEq,Nat.reduceLeDiff,Nat.reduceLT,Nat.reduceSub,Int.reduceToNat,Int.reduceLE,Int.reduceLT, c_word_Apply, Int.reduceEq, Int.reduceBEq]
      refine VCall.of_contract (divide_c _ a b (by simp)) (SleL.pure rfl) fun x hx => ?_
      subst hx
      simp only [go_sem,Nat.reduceEqDiff,Nat.reduceAdd,Nat.reduceMul,↓reduceIte,↓dreduceIte,reduceCtorEq,Nat.reduceLeDiff,Nat.reduceLT,Nat.reduceSub,Int.reduceToNat,Int.reduceLE,Int.reduceLT]
      exact ⟨_, Frz.pure rfl, rfl⟩
  iterate 2
    · simp only [go_sem,Nat.reduceEqDiff,Nat.reduceAdd,Nat.reduceMul,↓reduceIte,↓dreduceIte,reduceCtorEq,Nat.reduceLeDiff,Nat.reduceLT,Nat.reduceSub,Int.reduceToNat,Int.reduceLE,Int.reduceLT, c_word_Apply, Int.reduceEq, Int.reduceBEq]
      refine VCall.of_contract (shift_c _ a b hb) (SleL.pure rfl) fun x hx => ?_
      subst hx
      simp only [go_sem,Nat.reduceEqDiff,Nat.reduceAdd,Nat.reduceMul,↓reduceIte,↓dreduceIte,reduceCtorEq,Nat.reduceLeDiff,Nat.reduceLT,Nat.reduceSub,Int.reduceToNat,Int.reduceLE,Int.reduceLT]
      exact ⟨_, Frz.pure rfl, by simp [applyW, tup2]⟩
  iterate 2
    · simp only [go_sem,Nat.reduceEqDiff,Nat.reduceAdd,Nat.reduceMul,↓reduceIte,↓dreduceIte,reduceCtorEq,Nat.reduceLeDiff,Nat.reduceLT,Nat.reduceSub,Int.reduceToNat,Int.reduceLE,Int.reduceLT, c_word_Apply, Int.reduceEq, Int.reduceBEq]
      refine VCall.of_contract (compare_c _ a b) (SleL.pure rfl) fun x hx => ?_
      subst hx
      simp only [go_sem,Nat.reduceEqDiff,Nat.reduceAdd,Nat.reduceMul,↓reduceIte,↓dreduceIte,reduceCtorEq,Nat.reduceLeDiff,Nat.reduceLT,Nat.reduceSub,Int.reduceToNat,Int.reduceLE,Int.reduceLT]
      exact ⟨_, Frz.pure rfl, by simp [applyW, tup2]⟩
  · simp only [go_sem,Nat.reduceEqDiff,Nat.reduceAdd,Nat.reduceMul,↓reduceIte,↓dreduceIte,reduceCtorEq,Nat.reduceLeDiff,Nat.reduceLT,Nat.reduceSub,Int.reduceToNat,Int.reduceLE,Int.reduceLT, c_word_Apply, eq_false h1, eq_false h2, eq_false h3, eq_false h4, eq_false h5, eq_false h6, eq_false h7, eq_false h8, eq_false h9, eq_false h10, eq_false h11, eq_false h12]
    exact ⟨_, Frz.pure rfl, by simp [applyW, tup2, h1, h2, h3, h4, h5, h6, h7, h8, h9, h10, h11, h12]⟩
end Go.Proofs.Ytdfdkoajphcjbaa
