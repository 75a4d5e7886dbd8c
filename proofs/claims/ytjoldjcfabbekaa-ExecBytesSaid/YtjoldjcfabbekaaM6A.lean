/-
  Instructions out of words, and words out of instructions, as the program and the document have it: contracts. No condition.
-/
import Derived.Test.YtjoldjcfabbekaaM3
import Derived.Test.YtjoldjcfabbekaaM5
namespace Go.Proofs.Ytjoldjcfabbekaa
set_option linter.unusedSimpArgs false
set_option linter.unusedVariables false
set_option maxRecDepth 10000
open Go.V

abbrev Y8 (n : Int) : AV := .val (.int .u8 n)

def hasB (s : ByteArray) (c : Int) : Bool := s.data.toList.any fun b => ((b.toNat : Nat) : Int) == c

theorem hasB_step (s : ByteArray) (c : Int) {k : Nat} (h : k < s.size) : (s.data.toList.drop k).any (fun b => ((b.toNat : Nat) : Int) == c) = ((byteAt s k == c) || (s.data.toList.drop (k + 1)).any fun b => ((b.toNat : Nat) : Int) == c) := by
  have hk : k < s.data.toList.length := by simpa using h
  rw [List.drop_eq_getElem_cons hk, List.any_cons]
  congr 1
  simp only [byteAt, List.getD, List.getElem?_eq_getElem hk, Option.getD_some]

theorem has_c (s : ByteArray) (c : Int) (hs : s.size ≤ 1000) : Contract Try.prog 45 [strv s, Y8 c] (fun r => r = B (hasB s c)) := by
  refine Contract.of_call (VCall.of_body hmix f_scref07_has (by simp) ?_)
  simp only [go_sem,Nat.reduceEqDiff,Nat.reduceAdd,Nat.reduceMul,↓reduceIte,↓dreduceIte,reduceCtorEq,Nat.reduceLeDiff,Nat.reduceLT,Nat.reduceSub,Int.reduceToNat,Int.reduceLE,Int.reduceLT, c_scref07_has]
  refine VW_loop (fun k : Nat => ⟨[(0, strv s), (1, Y8 c), (5, I k)], [], 0⟩) (fun k => k ≤ s.size ∧ hasB s c = (s.data.toList.drop k).any fun b => ((b.toNat : Nat) : Int) == c) (fun k => s.size - k) 0
    (Wk.mk (by simp [get_cons]) ⟨[], rfl⟩ (Nat.le_refl _)) ⟨by omega, rfl⟩ ?_
  rintro k ⟨hk, he⟩
  simp only [go_sem,Nat.reduceEqDiff,Nat.reduceAdd,Nat.reduceMul,↓reduceIte,↓dreduceIte,reduceCtorEq,Nat.reduceLeDiff,Nat.reduceLT,Nat.reduceSub,Int.reduceToNat,Int.reduceLE,Int.reduceLT]
  refine ⟨fun h => ⟨by omega, fun h2 => ?_, fun h2 => ?_⟩, fun h => ?_⟩
  · refine ⟨_, Frz.pure rfl, ?_⟩
    rw [he, hasB_step s c (by omega)]
    simp [h2]
  · rw [i64_in (by omega) (by omega)]
    refine ⟨k + 1, ⟨by omega, ?_⟩, by omega, Wk.mk (by simp [get_cons]) ⟨[], rfl⟩ (Nat.le_refl _)⟩
    rw [he, hasB_step s c (by omega)]
    simp [h2]
  · refine ⟨_, Frz.pure rfl, ?_⟩
    rw [he, List.drop_eq_nil_of_le (by simp; omega)]; rfl

/-- The document's names of the fields that an operation has. -/
def PS (op : Int) : ByteArray :=
  if op = 1 ∨ op = 2 ∨ op = 19 ∨ op = 20 ∨ op = 21 ∨ op = 25 then ⟨#[97, 99]⟩ else if op = 3 then ⟨#[97, 98]⟩ else if op = 16 ∨ op = 17 ∨ op = 27 then ⟨#[97, 98, 99]⟩
  else if op = 18 then ⟨#[99]⟩ else if op = 22 ∨ op = 23 ∨ op = 24 then ⟨#[97]⟩ else if op = 26 then ⟨#[]⟩ else if 4 ≤ op ∧ op ≤ 15 then ⟨#[97, 98, 114]⟩ else ⟨#[63]⟩

theorem PS_size (op : Int) : (PS op).size ≤ 3 := by
  unfold PS
  repeat' split
  all_goals decide

theorem parts_c (op : Int) : Contract Try.prog 44 [I op] (fun r => r = strv (PS op)) := by
  refine Contract.of_call (VCall.of_body hmix f_scref07_Parts (by simp) ?_)
  by_cases hv : 1 ≤ op ∧ op ≤ 27
  · have hop : op = 1 ∨ op = 2 ∨ op = 3 ∨ op = 4 ∨ op = 5 ∨ op = 6 ∨ op = 7 ∨ op = 8 ∨ op = 9 ∨ op = 10 ∨ op = 11 ∨ op = 12 ∨ op = 13 ∨ op = 14 ∨ op = 15 ∨ op = 16 ∨ op = 17 ∨ op = 18 ∨ op = 19 ∨ op = 20 ∨ op = 21 ∨ op = 22 ∨ op = 23 ∨ op = 24 ∨ op = 25 ∨ op = 26 ∨ op = 27 := by omega
    rcases hop with rfl | rfl | rfl | rfl | rfl | rfl | rfl | rfl | rfl | rfl | rfl | rfl | rfl | rfl | rfl | rfl | rfl | rfl | rfl | rfl | rfl | rfl | rfl | rfl | rfl | rfl | rfl
    all_goals
      simp only [go_sem,Nat.reduceEqDiff,Nat.reduceAdd,Nat.reduceMul,↓reduceIte,↓dreduceIte,reduceCtorEq,Nat.reduceLeDiff,Nat.reduceLT,Nat.reduceSub,Int.reduceToNat,Int.reduceLE,Int.reduceLT, c_scref07_Parts, Int.reduceEq, Int.reduceBEq]
      exact ⟨_, Frz.pure rfl, rfl⟩
  · have n : ∀ k : Int, 1 ≤ k → k ≤ 27 → (op = k) = False := fun k h1 h2 => eq_false (by omega)
    have n1 := n 1 (by omega) (by omega)
    have n2 := n 2 (by omega) (by omega)
    have n3 := n 3 (by omega) (by omega)
    have n16 := n 16 (by omega) (by omega)
    have n17 := n 17 (by omega) (by omega)
    have n18 := n 18 (by omega) (by omega)
    have n19 := n 19 (by omega) (by omega)
    have n20 := n 20 (by omega) (by omega)
    have n21 := n 21 (by omega) (by omega)
    have n22 := n 22 (by omega) (by omega)
    have n23 := n 23 (by omega) (by omega)
    have n24 := n 24 (by omega) (by omega)
    have n25 := n 25 (by omega) (by omega)
    have n26 := n 26 (by omega) (by omega)
    have n27 := n 27 (by omega) (by omega)
    have e : PS op = ⟨#[63]⟩ := by
      unfold PS
      rw [if_neg (by omega), if_neg (by omega), if_neg (by omega), if_neg (by omega), if_neg (by omega), if_neg (by omega), if_neg (by omega)]
    rw [e]
    by_cases h4 : 4 ≤ op
    · simp only [go_sem,Nat.reduceEqDiff,Nat.reduceAdd,Nat.reduceMul,↓reduceIte,↓dreduceIte,reduceCtorEq,Nat.reduceLeDiff,Nat.reduceLT,Nat.reduceSub,Int.reduceToNat,Int.reduceLE,Int.reduceLT, c_scref07_Parts, n1, n2, n3, n16, n17, n18, n19, n20, n21, n22, n23, n24, n25, n26, n27, eq_true h4, eq_false (show ¬ op ≤ 15 by omega)]
      exact ⟨_, Frz.pure rfl, rfl⟩
    · simp only [go_sem,Nat.reduceEqDiff,Nat.reduceAdd,Nat.reduceMul,↓reduceIte,↓dreduceIte,reduceCtorEq,Nat.reduceLeDiff,Nat.reduceLT,Nat.reduceSub,Int.reduceToNat,Int.reduceLE,Int.reduceLT, c_scref07_Parts, n1, n2, n3, n16, n17, n18, n19, n20, n21, n22, n23, n24, n25, n26, n27, eq_false h4]
      exact ⟨_, Frz.pure rfl, rfl⟩

theorem refwithin_c (v most : Int) (named : Bool) : Contract Try.prog 46 [B named, I v, I most] (fun r => r = B (winB v most named)) := by
  refine Contract.of_call (VCall.of_body hmix f_scref07_within (by simp) ?_)
  cases named with
  | false =>
    simp only [go_sem,Nat.reduceEqDiff,Nat.reduceAdd,Nat.reduceMul,↓reduceIte,↓dreduceIte,reduceCtorEq,Nat.reduceLeDiff,Nat.reduceLT,Nat.reduceSub,Int.reduceToNat,Int.reduceLE,Int.reduceLT, c_scref07_within]
    exact ⟨_, Frz.pure rfl, by simp [winB]; rfl⟩
  | true =>
    by_cases h : 0 ≤ v
    · simp only [go_sem,Nat.reduceEqDiff,Nat.reduceAdd,Nat.reduceMul,↓reduceIte,↓dreduceIte,reduceCtorEq,Nat.reduceLeDiff,Nat.reduceLT,Nat.reduceSub,Int.reduceToNat,Int.reduceLE,Int.reduceLT, c_scref07_within, eq_true h]
      exact ⟨_, Frz.pure rfl, by simp [winB, h]⟩
    · simp only [go_sem,Nat.reduceEqDiff,Nat.reduceAdd,Nat.reduceMul,↓reduceIte,↓dreduceIte,reduceCtorEq,Nat.reduceLeDiff,Nat.reduceLT,Nat.reduceSub,Int.reduceToNat,Int.reduceLE,Int.reduceLT, c_scref07_within, eq_false h]
      exact ⟨_, Frz.pure rfl, by simp [winB, h]⟩

def rightR (op a b c : Int) : Bool := !((PS op).toList == ByteArray.toList ⟨#[63]⟩) && winB a 15 (hasB (PS op) 97) && winB b 15 (hasB (PS op) 98) && winB c (if hasB (PS op) 114 then 15 else 65535) (hasB (PS op) 99 || hasB (PS op) 114)
theorem rightR_eq (op a b c : Int) : rightR op a b c = okI op a b c := by
  by_cases hv : 1 ≤ op ∧ op ≤ 27
  · have hop : op = 1 ∨ op = 2 ∨ op = 3 ∨ op = 4 ∨ op = 5 ∨ op = 6 ∨ op = 7 ∨ op = 8 ∨ op = 9 ∨ op = 10 ∨ op = 11 ∨ op = 12 ∨ op = 13 ∨ op = 14 ∨ op = 15 ∨ op = 16 ∨ op = 17 ∨ op = 18 ∨ op = 19 ∨ op = 20 ∨ op = 21 ∨ op = 22 ∨ op = 23 ∨ op = 24 ∨ op = 25 ∨ op = 26 ∨ op = 27 := by omega
    unfold rightR
    rw [ba_toList, ba_toList]
    rcases hop with rfl | rfl | rfl | rfl | rfl | rfl | rfl | rfl | rfl | rfl | rfl | rfl | rfl | rfl | rfl | rfl | rfl | rfl | rfl | rfl | rfl | rfl | rfl | rfl | rfl | rfl | rfl
    all_goals rfl
  · have e : PS op = ⟨#[63]⟩ := by
      unfold PS
      rw [if_neg (by omega), if_neg (by omega), if_neg (by omega), if_neg (by omega), if_neg (by omega), if_neg (by omega), if_neg (by omega)]
    have h1 : vOp op = false := by simp [vOp]; omega
    unfold rightR okI
    rw [e, h1]; simp

end Go.Proofs.Ytjoldjcfabbekaa
