/-
  Three-address code as data; what an instruction reads and sets, and what follows a block: contracts. No condition.
-/
import Derived.Test.YtjdeediehmhdoaaCode
import Derived.Test.YtjdeediehmhdoaaVH
namespace Go.Proofs.Ytjdeediehmhdoaa
set_option linter.unusedSimpArgs false
set_option linter.unusedVariables false
open Go.V

structure Tac where
  op : Int
  d : Int
  a : Int
  b : Int
  k : Int
  base : Int
  size : Int
  n : Int
deriving Inhabited, DecidableEq
structure Bk where
  ins : List Tac
  e : Int
  v : Int
  to : Int
  el : Int
deriving Inhabited, DecidableEq
structure BF where
  regs : Int
  bks : List Bk
deriving Inhabited, DecidableEq
abbrev tacL (t : Tac) : List AV := [I t.op, I t.d, I t.a, I t.b, I t.k, I t.base, I t.size, U32 t.n]
abbrev tacA (t : Tac) : AV := .agg (tacL t)
abbrev inA (l : List Tac) : AV := .imm 8 (l.map tacA)
abbrev bkL (b : Bk) : List AV := [inA b.ins, I b.e, I b.v, I b.to, I b.el]
abbrev bkA (b : Bk) : AV := .agg (bkL b)
abbrev bksA (l : List Bk) : AV := .imm 5 (l.map bkA)
abbrev bfA (f : BF) : AV := .agg [I f.regs, bksA f.bks]

def usesL (t : Tac) : List Int :=
  if t.op = 2 ∨ t.op = 5 ∨ t.op = 6 ∨ t.op = 9 then [t.a] else if t.op = 3 ∨ t.op = 7 then [t.a, t.b] else []
def SetsT (t : Tac) : Prop := t.op = 1 ∨ t.op = 2 ∨ t.op = 3 ∨ t.op = 4 ∨ t.op = 6 ∨ t.op = 8
instance (t : Tac) : Decidable (SetsT t) := by unfold SetsT; exact inferInstance
def setsL (t : Tac) : Int := if SetsT t then t.d else -1

theorem usesL_len (t : Tac) : (usesL t).length ≤ 2 := by
  unfold usesL; split
  · simp
  · split <;> simp
theorem usesL_one {t : Tac} (h : t.op = 2 ∨ t.op = 5 ∨ t.op = 6 ∨ t.op = 9) : usesL t = [t.a] := if_pos h
theorem usesL_two {t : Tac} (h : t.op = 3 ∨ t.op = 7) : usesL t = [t.a, t.b] := by
  unfold usesL; rw [if_neg (by omega), if_pos h]
theorem usesL_none {t : Tac} (h : ¬ (t.op = 2 ∨ t.op = 5 ∨ t.op = 6 ∨ t.op = 9)) (h' : ¬ (t.op = 3 ∨ t.op = 7)) : usesL t = [] := by
  unfold usesL; rw [if_neg h, if_neg h']

theorem refuses_c (t : Tac) : ContractN Try.prog 24 [tacA t] (fun r => r = ints (usesL t)) := by
  refine ContractN.of_call (VCall.of_body hmix f_scref24_Uses (by simp) ?_)
  obtain ⟨op, d, a, b, k, base, size, n⟩ := t
  have ho : op = 2 ∨ op = 5 ∨ op = 6 ∨ op = 9 ∨ op = 3 ∨ op = 7 ∨ (op ≠ 2 ∧ op ≠ 5 ∧ op ≠ 6 ∧ op ≠ 9 ∧ op ≠ 3 ∧ op ≠ 7) := by omega
  rcases ho with rfl | rfl | rfl | rfl | rfl | rfl | ⟨h1, h2, h3, h4, h5, h6⟩
  · simp only [go_sem,Nat.reduceEqDiff,Nat.reduceAdd,Nat.reduceMul,↓reduceIte,↓dreduceIte,reduceCtorEq,Nat.reduceLeDiff,Nat.reduceLT,Nat.reduceSub,Int.reduceToNat,Int.reduceLE,Int.reduceLT, c_scref24_Uses, Int.reduceEq, Int.reduceBEq]; exact ⟨_, frzN_ints (l := [a]) rfl rfl, rfl⟩
  · simp only [go_sem,Nat.reduceEqDiff,Nat.reduceAdd,Nat.reduceMul,↓reduceIte,↓dreduceIte,reduceCtorEq,Nat.reduceLeDiff,Nat.reduceLT,Nat.reduceSub,Int.reduceToNat,Int.reduceLE,Int.reduceLT, c_scref24_Uses, Int.reduceEq, Int.reduceBEq]; exact ⟨_, frzN_ints (l := [a]) rfl rfl, rfl⟩
  · simp only [go_sem,Nat.reduceEqDiff,Nat.reduceAdd,Nat.reduceMul,↓reduceIte,↓dreduceIte,reduceCtorEq,Nat.reduceLeDiff,Nat.reduceLT,Nat.reduceSub,Int.reduceToNat,Int.reduceLE,Int.reduceLT, c_scref24_Uses, Int.reduceEq, Int.reduceBEq]; exact ⟨_, frzN_ints (l := [a]) rfl rfl, rfl⟩
  · simp only [go_sem,Nat.reduceEqDiff,Nat.reduceAdd,Nat.reduceMul,↓reduceIte,↓dreduceIte,reduceCtorEq,Nat.reduceLeDiff,Nat.reduceLT,Nat.reduceSub,Int.reduceToNat,Int.reduceLE,Int.reduceLT, c_scref24_Uses, Int.reduceEq, Int.reduceBEq]; exact ⟨_, frzN_ints (l := [a]) rfl rfl, rfl⟩
  · simp only [go_sem,Nat.reduceEqDiff,Nat.reduceAdd,Nat.reduceMul,↓reduceIte,↓dreduceIte,reduceCtorEq,Nat.reduceLeDiff,Nat.reduceLT,Nat.reduceSub,Int.reduceToNat,Int.reduceLE,Int.reduceLT, c_scref24_Uses, Int.reduceEq, Int.reduceBEq]; exact ⟨_, frzN_ints (l := [a, b]) rfl rfl, rfl⟩
  · simp only [go_sem,Nat.reduceEqDiff,Nat.reduceAdd,Nat.reduceMul,↓reduceIte,↓dreduceIte,reduceCtorEq,Nat.reduceLeDiff,Nat.reduceLT,Nat.reduceSub,Int.reduceToNat,Int.reduceLE,Int.reduceLT, c_scref24_Uses, Int.reduceEq, Int.reduceBEq]; exact ⟨_, frzN_ints (l := [a, b]) rfl rfl, rfl⟩
  · simp only [go_sem,Nat.reduceEqDiff,Nat.reduceAdd,Nat.reduceMul,↓reduceIte,↓dreduceIte,reduceCtorEq,Nat.reduceLeDiff,Nat.reduceLT,Nat.reduceSub,Int.reduceToNat,Int.reduceLE,Int.reduceLT, c_scref24_Uses, Int.reduceEq, Int.reduceBEq, h1, h2, h3, h4, h5, h6, eq_false h1, eq_false h2, eq_false h3, eq_false h4, eq_false h5, eq_false h6]
    refine ⟨_, FrzN.nil 1, ?_⟩
    rw [usesL_none (by simp only; omega) (by simp only; omega)]; rfl
theorem refsets_c (t : Tac) : Contract Try.prog 53 [tacA t] (fun r => r = I (setsL t)) := by
  refine Contract.of_call (VCall.of_body hmix f_scref24_Sets (by simp) ?_)
  obtain ⟨op, d, a, b, k, base, size, n⟩ := t
  have ho : op = 1 ∨ op = 2 ∨ op = 3 ∨ op = 4 ∨ op = 6 ∨ op = 8 ∨ (op ≠ 1 ∧ op ≠ 2 ∧ op ≠ 3 ∧ op ≠ 4 ∧ op ≠ 6 ∧ op ≠ 8) := by omega
  rcases ho with rfl | rfl | rfl | rfl | rfl | rfl | ⟨h1, h2, h3, h4, h5, h6⟩
  all_goals first
    | (simp only [go_sem,Nat.reduceEqDiff,Nat.reduceAdd,Nat.reduceMul,↓reduceIte,↓dreduceIte,reduceCtorEq,Nat.reduceLeDiff,Nat.reduceLT,Nat.reduceSub,Int.reduceToNat,Int.reduceLE,Int.reduceLT, c_scref24_Sets, Int.reduceEq, Int.reduceBEq]; exact ⟨_, Frz.pure rfl, rfl⟩)
    | (simp only [go_sem,Nat.reduceEqDiff,Nat.reduceAdd,Nat.reduceMul,↓reduceIte,↓dreduceIte,reduceCtorEq,Nat.reduceLeDiff,Nat.reduceLT,Nat.reduceSub,Int.reduceToNat,Int.reduceLE,Int.reduceLT, c_scref24_Sets, Int.reduceEq, Int.reduceBEq, h1, h2, h3, h4, h5, h6, eq_false h1, eq_false h2, eq_false h3, eq_false h4, eq_false h5, eq_false h6]
       refine ⟨_, Frz.pure rfl, ?_⟩
       rw [show setsL ⟨op, d, a, b, k, base, size, n⟩ = -1 from if_neg (by unfold SetsT; simp only; omega)])

/-- The same of the program's own. -/
def readsN (op : Int) : Int := if op = 2 ∨ op = 5 ∨ op = 6 ∨ op = 9 then 1 else if op = 3 ∨ op = 7 then 2 else 0
theorem usesL_eq (t : Tac) : usesL t = if readsN t.op = 1 then [t.a] else if readsN t.op = 2 then [t.a, t.b] else [] := by
  unfold usesL readsN
  by_cases h : t.op = 2 ∨ t.op = 5 ∨ t.op = 6 ∨ t.op = 9
  · simp [h]
  · by_cases h' : t.op = 3 ∨ t.op = 7
    · simp [h, h']
    · simp [h, h']
theorem bsets_c (t : Tac) : Contract Try.prog 61 [I t.op] (fun r => r = B (decide (SetsT t))) := by
  refine Contract.of_call (VCall.of_body hmix f_block_sets (by simp) ?_)
  obtain ⟨op, d, a, b, k, base, size, n⟩ := t
  have ho : op = 1 ∨ op = 2 ∨ op = 3 ∨ op = 4 ∨ op = 6 ∨ op = 8 ∨ (op ≠ 1 ∧ op ≠ 2 ∧ op ≠ 3 ∧ op ≠ 4 ∧ op ≠ 6 ∧ op ≠ 8) := by omega
  rcases ho with rfl | rfl | rfl | rfl | rfl | rfl | ⟨h1, h2, h3, h4, h5, h6⟩
  all_goals first
    | (simp only [go_sem,Nat.reduceEqDiff,Nat.reduceAdd,Nat.reduceMul,↓reduceIte,↓dreduceIte,reduceCtorEq,Nat.reduceLeDiff,Nat.reduceLT,Nat.reduceSub,Int.reduceToNat,Int.reduceLE,Int.reduceLT, c_block_sets, Int.reduceEq, Int.reduceBEq]; exact ⟨_, Frz.pure rfl, rfl⟩)
    | (simp only [go_sem,Nat.reduceEqDiff,Nat.reduceAdd,Nat.reduceMul,↓reduceIte,↓dreduceIte,reduceCtorEq,Nat.reduceLeDiff,Nat.reduceLT,Nat.reduceSub,Int.reduceToNat,Int.reduceLE,Int.reduceLT, c_block_sets, Int.reduceEq, Int.reduceBEq, h1, h2, h3, h4, h5, h6, eq_false h1, eq_false h2, eq_false h3, eq_false h4, eq_false h5, eq_false h6]
       refine ⟨_, Frz.pure rfl, ?_⟩
       rw [decide_eq_false (by unfold SetsT; simp only; omega)])
theorem breads_c (op : Int) : Contract Try.prog 62 [I op] (fun r => r = I (readsN op)) := by
  refine Contract.of_call (VCall.of_body hmix f_block_reads (by simp) ?_)
  have ho : op = 2 ∨ op = 5 ∨ op = 6 ∨ op = 9 ∨ op = 3 ∨ op = 7 ∨ (op ≠ 2 ∧ op ≠ 5 ∧ op ≠ 6 ∧ op ≠ 9 ∧ op ≠ 3 ∧ op ≠ 7) := by omega
  rcases ho with rfl | rfl | rfl | rfl | rfl | rfl | ⟨h1, h2, h3, h4, h5, h6⟩
  all_goals first
    | (simp only [go_sem,Nat.reduceEqDiff,Nat.reduceAdd,Nat.reduceMul,↓reduceIte,↓dreduceIte,reduceCtorEq,Nat.reduceLeDiff,Nat.reduceLT,Nat.reduceSub,Int.reduceToNat,Int.reduceLE,Int.reduceLT, c_block_reads, Int.reduceEq, Int.reduceBEq]; exact ⟨_, Frz.pure rfl, rfl⟩)
    | (simp only [go_sem,Nat.reduceEqDiff,Nat.reduceAdd,Nat.reduceMul,↓reduceIte,↓dreduceIte,reduceCtorEq,Nat.reduceLeDiff,Nat.reduceLT,Nat.reduceSub,Int.reduceToNat,Int.reduceLE,Int.reduceLT, c_block_reads, Int.reduceEq, Int.reduceBEq, h1, h2, h3, h4, h5, h6, eq_false h1, eq_false h2, eq_false h3, eq_false h4, eq_false h5, eq_false h6]
       refine ⟨_, Frz.pure rfl, ?_⟩
       rw [show readsN op = 0 by unfold readsN; rw [if_neg (by omega), if_neg (by omega)]])
theorem bSets_c (t : Tac) : Contract Try.prog 51 [tacA t] (fun r => r = I (setsL t)) := by
  refine Contract.of_call (VCall.of_body hmix f_block_Sets (by simp) ?_)
  simp only [go_sem,Nat.reduceEqDiff,Nat.reduceAdd,Nat.reduceMul,↓reduceIte,↓dreduceIte,reduceCtorEq,Nat.reduceLeDiff,Nat.reduceLT,Nat.reduceSub,Int.reduceToNat,Int.reduceLE,Int.reduceLT, c_block_Sets]
  refine VCall.of_contract (bsets_c t) (SleL.pure rfl) fun r hr => ?_
  subst hr
  by_cases h : SetsT t
  · simp only [go_sem,Nat.reduceEqDiff,Nat.reduceAdd,Nat.reduceMul,↓reduceIte,↓dreduceIte,reduceCtorEq,Nat.reduceLeDiff,Nat.reduceLT,Nat.reduceSub,Int.reduceToNat,Int.reduceLE,Int.reduceLT, decide_eq_true h]
    exact ⟨_, Frz.pure rfl, by rw [show setsL t = t.d from if_pos h]⟩
  · simp only [go_sem,Nat.reduceEqDiff,Nat.reduceAdd,Nat.reduceMul,↓reduceIte,↓dreduceIte,reduceCtorEq,Nat.reduceLeDiff,Nat.reduceLT,Nat.reduceSub,Int.reduceToNat,Int.reduceLE,Int.reduceLT, decide_eq_false h]
    exact ⟨_, Frz.pure rfl, by rw [show setsL t = -1 from if_neg h]⟩
theorem bUses_c (t : Tac) : ContractN Try.prog 52 [tacA t] (fun r => r = ints (usesL t)) := by
  refine ContractN.of_call (VCall.of_body hmix f_block_Uses (by simp) ?_)
  simp only [go_sem,Nat.reduceEqDiff,Nat.reduceAdd,Nat.reduceMul,↓reduceIte,↓dreduceIte,reduceCtorEq,Nat.reduceLeDiff,Nat.reduceLT,Nat.reduceSub,Int.reduceToNat,Int.reduceLE,Int.reduceLT, c_block_Uses]
  refine VCall.of_contract (breads_c t.op) (SleL.pure rfl) fun r hr => ?_
  subst hr
  have h3 : readsN t.op = 1 ∨ readsN t.op = 2 ∨ (readsN t.op ≠ 1 ∧ readsN t.op ≠ 2) := by omega
  rcases h3 with h | h | ⟨h, h'⟩
  · simp only [go_sem,Nat.reduceEqDiff,Nat.reduceAdd,Nat.reduceMul,↓reduceIte,↓dreduceIte,reduceCtorEq,Nat.reduceLeDiff,Nat.reduceLT,Nat.reduceSub,Int.reduceToNat,Int.reduceLE,Int.reduceLT, h, Int.reduceEq, Int.reduceBEq]
    exact ⟨_, frzN_ints (l := [t.a]) rfl rfl, by rw [usesL_eq, if_pos h]⟩
  · simp only [go_sem,Nat.reduceEqDiff,Nat.reduceAdd,Nat.reduceMul,↓reduceIte,↓dreduceIte,reduceCtorEq,Nat.reduceLeDiff,Nat.reduceLT,Nat.reduceSub,Int.reduceToNat,Int.reduceLE,Int.reduceLT, h, Int.reduceEq, Int.reduceBEq]
    exact ⟨_, frzN_ints (l := [t.a, t.b]) rfl rfl, by rw [usesL_eq, if_neg (by omega), if_pos h]⟩
  · simp only [go_sem,Nat.reduceEqDiff,Nat.reduceAdd,Nat.reduceMul,↓reduceIte,↓dreduceIte,reduceCtorEq,Nat.reduceLeDiff,Nat.reduceLT,Nat.reduceSub,Int.reduceToNat,Int.reduceLE,Int.reduceLT, eq_false h, eq_false h', Int.reduceEq, Int.reduceBEq]
    exact ⟨_, FrzN.nil 1, by rw [usesL_eq, if_neg h, if_neg h']; rfl⟩
end Go.Proofs.Ytjdeediehmhdoaa
