/-
  Three-address code as data; what an instruction reads and sets, and what follows a block: contracts. No condition. What matters, plainly: rows of truths, what an instruction makes of one, closed tables, the least one. No condition. What matters, plainly: rows as words; the search for the least table: what stays true of it. No condition. The search for the least table, plainly: a step keeps what is true of it, and ends; what it ends with is the least one. No condition. The document's word on three-address code: may an instruction, an end, a function, a program be: contracts. No condition. Words: what the operations make of two of them, plainly. No condition. The document's word on what matters: contracts of its small functions. No condition. What follows a block: contracts. No condition. The program's word on what matters: contracts of its small functions. No condition. The numbers below one, the greatest first: the loop's function; what a block makes of a row: contract. No condition. The document's word on three-address code: may an end, a function, a program be: contracts; what such a function is. No condition. Three-address code and tables of truths as arguments. No condition. What matters: the checks of both, rows that are the same, small functions: contracts. No condition. What matters behind each instruction: contracts of both. No condition. Rows as words; objects in memory, what of them stays: what is often asked. No condition. The allocation's sets of registers: contracts. No condition. Where registers stand, plainly: what an allocation must be, and how much it needs. No condition.
-/
import Derived.Test.YtncjbipnkdlkoaaUCode
import Derived.Test.YtncjbipnkdlkoaaUH
import Derived.Test.YtncjbipnkdlkoaaUG
import Derived.SizedLaws
set_option linter.unusedVariables false
set_option linter.unusedSimpArgs false
namespace Go.Proofs.Ytncjbipnkdlkoaa
set_option linter.unusedSimpArgs false
set_option linter.unusedVariables false
open Go.V
structure Tac where
  op : Int
  d : Int
  a : Int
  b : Int
  k : Int
  base : Int
  size : Int
  n : Int
deriving Inhabited, DecidableEq
structure Bk where
  ins : List Tac
  e : Int
  v : Int
  to : Int
  el : Int
deriving Inhabited, DecidableEq
structure BF where
  regs : Int
  bks : List Bk
deriving Inhabited, DecidableEq
abbrev tacL (t : Tac) : List AV := [I t.op, I t.d, I t.a, I t.b, I t.k, I t.base, I t.size, U32 t.n]
abbrev tacA (t : Tac) : AV := .agg (tacL t)
abbrev inA (l : List Tac) : AV := .imm 8 (l.map tacA)
abbrev bkL (b : Bk) : List AV := [inA b.ins, I b.e, I b.v, I b.to, I b.el]
abbrev bkA (b : Bk) : AV := .agg (bkL b)
abbrev bksA (l : List Bk) : AV := .imm 5 (l.map bkA)
abbrev bfA (f : BF) : AV := .agg [I f.regs, bksA f.bks]
def usesL (t : Tac) : List Int :=
  if t.op = 2 ∨ t.op = 5 ∨ t.op = 6 ∨ t.op = 9 then [t.a] else if t.op = 3 ∨ t.op = 7 then [t.a, t.b] else []
def SetsT (t : Tac) : Prop := t.op = 1 ∨ t.op = 2 ∨ t.op = 3 ∨ t.op = 4 ∨ t.op = 6 ∨ t.op = 8
instance (t : Tac) : Decidable (SetsT t) := by unfold SetsT; exact inferInstance
def setsL (t : Tac) : Int := if SetsT t then t.d else -1
theorem usesL_len (t : Tac) : (usesL t).length ≤ 2 := by
  unfold usesL; split
  · simp
  · split <;> simp
theorem usesL_none {t : Tac} (h : ¬ (t.op = 2 ∨ t.op = 5 ∨ t.op = 6 ∨ t.op = 9)) (h' : ¬ (t.op = 3 ∨ t.op = 7)) : usesL t = [] := by
  unfold usesL; rw [if_neg h, if_neg h']
theorem refuses_c (t : Tac) : ContractN Try.prog 35 [tacA t] (fun r => r = ints (usesL t)) := by
  refine ContractN.of_call (VCall.of_body hmix f_scref24_Uses (by simp) ?_)
  obtain ⟨op, d, a, b, k, base, size, n⟩ := t
  have ho : op = 2 ∨ op = 5 ∨ op = 6 ∨ op = 9 ∨ op = 3 ∨ op = 7 ∨ (op ≠ 2 ∧ op ≠ 5 ∧ op ≠ 6 ∧ op ≠ 9 ∧ op ≠ 3 ∧ op ≠ 7) := by omega
  rcases ho with rfl | rfl | rfl | rfl | rfl | rfl | ⟨h1, h2, h3, h4, h5, h6⟩
  · simp only [go_sem,Nat.reduceEqDiff,Nat.reduceAdd,Nat.reduceMul,↓reduceIte,↓dreduceIte,reduceCtorEq,Nat.reduceLeDiff,Nat.reduceLT,Nat.reduceSub,Int.reduceToNat,Int.reduceLE,Int.reduceLT, c_scref24_Uses, Int.reduceEq, Int.reduceBEq]; exact ⟨_, frzN_ints (l := [a]) rfl rfl, rfl⟩
  · simp only [go_sem,Nat.reduceEqDiff,Nat.reduceAdd,Nat.reduceMul,↓reduceIte,↓dreduceIte,reduceCtorEq,Nat.reduceLeDiff,Nat.reduceLT,Nat.reduceSub,Int.reduceToNat,Int.reduceLE,Int.reduceLT, c_scref24_Uses, Int.reduceEq, Int.reduceBEq]; exact ⟨_, frzN_ints (l := [a]) rfl rfl, rfl⟩
  · simp only [go_sem,Nat.reduceEqDiff,Nat.reduceAdd,Nat.reduceMul,↓reduceIte,↓dreduceIte,reduceCtorEq,Nat.reduceLeDiff,Nat.reduceLT,Nat.reduceSub,Int.reduceToNat,Int.reduceLE,Int.reduceLT, c_scref24_Uses, Int.reduceEq, Int.reduceBEq]; exact ⟨_, frzN_ints (l := [a]) rfl rfl, rfl⟩
  · simp only [go_sem,Nat.reduceEqDiff,Nat.reduceAdd,Nat.reduceMul,↓reduceIte,↓dreduceIte,reduceCtorEq,Nat.reduceLeDiff,Nat.reduceLT,Nat.reduceSub,Int.reduceToNat,Int.reduceLE,Int.reduceLT, c_scref24_Uses, Int.reduceEq, Int.reduceBEq]; exact ⟨_, frzN_ints (l := [a]) rfl rfl, rfl⟩
  · simp only [go_sem,Nat.reduceEqDiff,Nat.reduceAdd,Nat.reduceMul,↓reduceIte,↓dreduceIte,reduceCtorEq,Nat.reduceLeDiff,Nat.reduceLT,Nat.reduceSub,Int.reduceToNat,Int.reduceLE,Int.reduceLT, c_scref24_Uses, Int.reduceEq, Int.reduceBEq]; exact ⟨_, frzN_ints (l := [a, b]) rfl rfl, rfl⟩
  · simp only [go_sem,Nat.reduceEqDiff,Nat.reduceAdd,Nat.reduceMul,↓reduceIte,↓dreduceIte,reduceCtorEq,Nat.reduceLeDiff,Nat.reduceLT,Nat.reduceSub,Int.reduceToNat,Int.reduceLE,Int.reduceLT, c_scref24_Uses, Int.reduceEq, Int.reduceBEq]; exact ⟨_, frzN_ints (l := [a, b]) rfl rfl, rfl⟩
  · simp only [go_sem,Nat.reduceEqDiff,Nat.reduceAdd,Nat.reduceMul,↓reduceIte,↓dreduceIte,reduceCtorEq,Nat.reduceLeDiff,Nat.reduceLT,Nat.reduceSub,Int.reduceToNat,Int.reduceLE,Int.reduceLT, c_scref24_Uses, Int.reduceEq, Int.reduceBEq, h1, h2, h3, h4, h5, h6, eq_false h1, eq_false h2, eq_false h3, eq_false h4, eq_false h5, eq_false h6]
    refine ⟨_, FrzN.nil 1, ?_⟩
    rw [usesL_none (by simp only; omega) (by simp only; omega)]; rfl
theorem refsets_c (t : Tac) : Contract Try.prog 36 [tacA t] (fun r => r = I (setsL t)) := by
  refine Contract.of_call (VCall.of_body hmix f_scref24_Sets (by simp) ?_)
  obtain ⟨op, d, a, b, k, base, size, n⟩ := t
  have ho : op = 1 ∨ op = 2 ∨ op = 3 ∨ op = 4 ∨ op = 6 ∨ op = 8 ∨ (op ≠ 1 ∧ op ≠ 2 ∧ op ≠ 3 ∧ op ≠ 4 ∧ op ≠ 6 ∧ op ≠ 8) := by omega
  rcases ho with rfl | rfl | rfl | rfl | rfl | rfl | ⟨h1, h2, h3, h4, h5, h6⟩
  all_goals first
    | (simp only [go_sem,Nat.reduceEqDiff,Nat.reduceAdd,Nat.reduceMul,↓reduceIte,↓dreduceIte,reduceCtorEq,Nat.reduceLeDiff,Nat.reduceLT,Nat.reduceSub,Int.reduceToNat,Int.reduceLE,Int.reduceLT, c_scref24_Sets, Int.reduceEq, Int.reduceBEq]; exact ⟨_, Frz.pure rfl, rfl⟩)
    | (simp only [go_sem,Nat.reduceEqDiff,Nat.reduceAdd,Nat.reduceMul,↓reduceIte,↓dreduceIte,reduceCtorEq,Nat.reduceLeDiff,Nat.reduceLT,Nat.reduceSub,Int.reduceToNat,Int.reduceLE,Int.reduceLT, c_scref24_Sets, Int.reduceEq, Int.reduceBEq, h1, h2, h3, h4, h5, h6, eq_false h1, eq_false h2, eq_false h3, eq_false h4, eq_false h5, eq_false h6]
       refine ⟨_, Frz.pure rfl, ?_⟩
       rw [show setsL ⟨op, d, a, b, k, base, size, n⟩ = -1 from if_neg (by unfold SetsT; simp only; omega)])
def readsN (op : Int) : Int := if op = 2 ∨ op = 5 ∨ op = 6 ∨ op = 9 then 1 else if op = 3 ∨ op = 7 then 2 else 0
theorem usesL_eq (t : Tac) : usesL t = if readsN t.op = 1 then [t.a] else if readsN t.op = 2 then [t.a, t.b] else [] := by
  unfold usesL readsN
  by_cases h : t.op = 2 ∨ t.op = 5 ∨ t.op = 6 ∨ t.op = 9
  · simp [h]
  · by_cases h' : t.op = 3 ∨ t.op = 7
    · simp [h, h']
    · simp [h, h']
theorem bsets_c (t : Tac) : Contract Try.prog 60 [I t.op] (fun r => r = B (decide (SetsT t))) := by
  refine Contract.of_call (VCall.of_body hmix f_block_sets (by simp) ?_)
  obtain ⟨op, d, a, b, k, base, size, n⟩ := t
  have ho : op = 1 ∨ op = 2 ∨ op = 3 ∨ op = 4 ∨ op = 6 ∨ op = 8 ∨ (op ≠ 1 ∧ op ≠ 2 ∧ op ≠ 3 ∧ op ≠ 4 ∧ op ≠ 6 ∧ op ≠ 8) := by omega
  rcases ho with rfl | rfl | rfl | rfl | rfl | rfl | ⟨h1, h2, h3, h4, h5, h6⟩
  all_goals first
    | (simp only [go_sem,Nat.reduceEqDiff,Nat.reduceAdd,Nat.reduceMul,↓reduceIte,↓dreduceIte,reduceCtorEq,Nat.reduceLeDiff,Nat.reduceLT,Nat.reduceSub,Int.reduceToNat,Int.reduceLE,Int.reduceLT, c_block_sets, Int.reduceEq, Int.reduceBEq]; exact ⟨_, Frz.pure rfl, rfl⟩)
    | (simp only [go_sem,Nat.reduceEqDiff,Nat.reduceAdd,Nat.reduceMul,↓reduceIte,↓dreduceIte,reduceCtorEq,Nat.reduceLeDiff,Nat.reduceLT,Nat.reduceSub,Int.reduceToNat,Int.reduceLE,Int.reduceLT, c_block_sets, Int.reduceEq, Int.reduceBEq, h1, h2, h3, h4, h5, h6, eq_false h1, eq_false h2, eq_false h3, eq_false h4, eq_false h5, eq_false h6]
       refine ⟨_, Frz.pure rfl, ?_⟩
       rw [decide_eq_false (by unfold SetsT; simp only; omega)])
theorem breads_c (op : Int) : Contract Try.prog 61 [I op] (fun r => r = I (readsN op)) := by
  refine Contract.of_call (VCall.of_body hmix f_block_reads (by simp) ?_)
  have ho : op = 2 ∨ op = 5 ∨ op = 6 ∨ op = 9 ∨ op = 3 ∨ op = 7 ∨ (op ≠ 2 ∧ op ≠ 5 ∧ op ≠ 6 ∧ op ≠ 9 ∧ op ≠ 3 ∧ op ≠ 7) := by omega
  rcases ho with rfl | rfl | rfl | rfl | rfl | rfl | ⟨h1, h2, h3, h4, h5, h6⟩
  all_goals first
    | (simp only [go_sem,Nat.reduceEqDiff,Nat.reduceAdd,Nat.reduceMul,↓reduceIte,↓dreduceIte,reduceCtorEq,Nat.reduceLeDiff,Nat.reduceLT,Nat.reduceSub,Int.reduceToNat,Int.reduceLE,Int.reduceLT, c_block_reads, Int.reduceEq, Int.reduceBEq]; exact ⟨_, Frz.pure rfl, rfl⟩)
    | (simp only [go_sem,Nat.reduceEqDiff,Nat.reduceAdd,Nat.reduceMul,↓reduceIte,↓dreduceIte,reduceCtorEq,Nat.reduceLeDiff,Nat.reduceLT,Nat.reduceSub,Int.reduceToNat,Int.reduceLE,Int.reduceLT, c_block_reads, Int.reduceEq, Int.reduceBEq, h1, h2, h3, h4, h5, h6, eq_false h1, eq_false h2, eq_false h3, eq_false h4, eq_false h5, eq_false h6]
       refine ⟨_, Frz.pure rfl, ?_⟩
       rw [show readsN op = 0 by unfold readsN; rw [if_neg (by omega), if_neg (by omega)]])
theorem bSets_c (t : Tac) : Contract Try.prog 46 [tacA t] (fun r => r = I (setsL t)) := by
  refine Contract.of_call (VCall.of_body hmix f_block_Sets (by simp) ?_)
  simp only [go_sem,Nat.reduceEqDiff,Nat.reduceAdd,Nat.reduceMul,↓reduceIte,↓dreduceIte,reduceCtorEq,Nat.reduceLeDiff,Nat.reduceLT,Nat.reduceSub,Int.reduceToNat,Int.reduceLE,Int.reduceLT, c_block_Sets]
  refine VCall.of_contract (bsets_c t) (SleL.pure rfl) fun r hr => ?_
  subst hr
  by_cases h : SetsT t
  · simp only [go_sem,Nat.reduceEqDiff,Nat.reduceAdd,Nat.reduceMul,↓reduceIte,↓dreduceIte,reduceCtorEq,Nat.reduceLeDiff,Nat.reduceLT,Nat.reduceSub,Int.reduceToNat,Int.reduceLE,Int.reduceLT, decide_eq_true h]
    exact ⟨_, Frz.pure rfl, by rw [show setsL t = t.d from if_pos h]⟩
  · simp only [go_sem,Nat.reduceEqDiff,Nat.reduceAdd,Nat.reduceMul,↓reduceIte,↓dreduceIte,reduceCtorEq,Nat.reduceLeDiff,Nat.reduceLT,Nat.reduceSub,Int.reduceToNat,Int.reduceLE,Int.reduceLT, decide_eq_false h]
    exact ⟨_, Frz.pure rfl, by rw [show setsL t = -1 from if_neg h]⟩
theorem bUses_c (t : Tac) : ContractN Try.prog 48 [tacA t] (fun r => r = ints (usesL t)) := by
  refine ContractN.of_call (VCall.of_body hmix f_block_Uses (by simp) ?_)
  simp only [go_sem,Nat.reduceEqDiff,Nat.reduceAdd,Nat.reduceMul,↓reduceIte,↓dreduceIte,reduceCtorEq,Nat.reduceLeDiff,Nat.reduceLT,Nat.reduceSub,Int.reduceToNat,Int.reduceLE,Int.reduceLT, c_block_Uses]
  refine VCall.of_contract (breads_c t.op) (SleL.pure rfl) fun r hr => ?_
  subst hr
  have h3 : readsN t.op = 1 ∨ readsN t.op = 2 ∨ (readsN t.op ≠ 1 ∧ readsN t.op ≠ 2) := by omega
  rcases h3 with h | h | ⟨h, h'⟩
  · simp only [go_sem,Nat.reduceEqDiff,Nat.reduceAdd,Nat.reduceMul,↓reduceIte,↓dreduceIte,reduceCtorEq,Nat.reduceLeDiff,Nat.reduceLT,Nat.reduceSub,Int.reduceToNat,Int.reduceLE,Int.reduceLT, h, Int.reduceEq, Int.reduceBEq]
    exact ⟨_, frzN_ints (l := [t.a]) rfl rfl, by rw [usesL_eq, if_pos h]⟩
  · simp only [go_sem,Nat.reduceEqDiff,Nat.reduceAdd,Nat.reduceMul,↓reduceIte,↓dreduceIte,reduceCtorEq,Nat.reduceLeDiff,Nat.reduceLT,Nat.reduceSub,Int.reduceToNat,Int.reduceLE,Int.reduceLT, h, Int.reduceEq, Int.reduceBEq]
    exact ⟨_, frzN_ints (l := [t.a, t.b]) rfl rfl, by rw [usesL_eq, if_neg (by omega), if_pos h]⟩
  · simp only [go_sem,Nat.reduceEqDiff,Nat.reduceAdd,Nat.reduceMul,↓reduceIte,↓dreduceIte,reduceCtorEq,Nat.reduceLeDiff,Nat.reduceLT,Nat.reduceSub,Int.reduceToNat,Int.reduceLE,Int.reduceLT, eq_false h, eq_false h', Int.reduceEq, Int.reduceBEq]
    exact ⟨_, FrzN.nil 1, by rw [usesL_eq, if_neg h, if_neg h']; rfl⟩
end Go.Proofs.Ytncjbipnkdlkoaa
namespace Go.Proofs.Ytncjbipnkdlkoaa
set_option linter.unusedSimpArgs false
set_option linter.unusedVariables false
open Go.V
abbrev rowsA (m : List (List Bool)) : AV := .imm 1 (m.map bools)
structure LD where
  inn : List (List Bool)
  out : List (List Bool)
deriving Inhabited
abbrev liveA (L : LD) : AV := .agg [rowsA L.inn, rowsA L.out]
def gB (l : List Bool) (v : Nat) : Bool := l.getD v false
def LD.I (L : LD) (b v : Nat) : Bool := gB (L.inn.getD b []) v
def LD.O (L : LD) (b v : Nat) : Bool := gB (L.out.getD b []) v
def clearL (t : Tac) (l : List Bool) : List Bool := if 0 ≤ setsL t then l.set (setsL t).toNat false else l
def useL (l : List Bool) (us : List Int) : List Bool := us.foldl (fun l u => l.set u.toNat true) l
def backL (t : Tac) (l : List Bool) : List Bool := useL (clearL t l) (usesL t)
def lastL (b : Bk) (l : List Bool) : List Bool := if b.e = 2 then l.set b.v.toNat true else l
def thruL (ins : List Tac) (l : List Bool) : List Bool := ins.foldr backL l
def aheadL (b : Bk) (l : List Bool) : List Bool := thruL b.ins (lastL b l)
def behindL (b : Bk) (l : List Bool) : List (List Bool) := (List.range b.ins.length).map fun i => thruL (b.ins.drop (i + 1)) (lastL b l)
theorem useL_len : ∀ (us : List Int) (l : List Bool), (useL l us).length = l.length
  | [], _ => rfl
  | u :: us, l => by simp only [useL, List.foldl_cons]; rw [← useL, useL_len us]; simp
theorem clearL_len (t : Tac) (l : List Bool) : (clearL t l).length = l.length := by unfold clearL; split <;> simp
theorem backL_len (t : Tac) (l : List Bool) : (backL t l).length = l.length := by unfold backL; rw [useL_len, clearL_len]
theorem lastL_len (b : Bk) (l : List Bool) : (lastL b l).length = l.length := by unfold lastL; split <;> simp
theorem thruL_len : ∀ (ins : List Tac) (l : List Bool), (thruL ins l).length = l.length
  | [], _ => rfl
  | t :: ins, l => by show (backL t (thruL ins l)).length = _; rw [backL_len, thruL_len ins]
theorem aheadL_len (b : Bk) (l : List Bool) : (aheadL b l).length = l.length := by unfold aheadL; rw [thruL_len, lastL_len]
theorem gB_set (l : List Bool) (i v : Nat) (x : Bool) (hv : v < l.length) : gB (l.set i x) v = if i = v then x else gB l v := by
  unfold gB
  rw [List.getD, List.getElem?_set]
  by_cases h : i = v
  · subst h; simp [hv]
  · rw [if_neg h, if_neg h]; rfl
theorem gB_le {l : List Bool} {v : Nat} (h : gB l v = true) : v < l.length := by
  unfold gB at h
  rcases Nat.lt_or_ge v l.length with h1 | h1
  · exact h1
  · rw [List.getD, List.getElem?_eq_none h1] at h; simp at h
theorem gB_ext {a b : List Bool} (hl : a.length = b.length) (h : ∀ v < a.length, gB a v = gB b v) : a = b := by
  refine List.ext_getElem hl fun i h1 h2 => ?_
  have := h i h1
  simp only [gB, List.getD, List.getElem?_eq_getElem h1, List.getElem?_eq_getElem h2, Option.getD_some] at this
  exact this
def bk1 (t : Tac) (v : Nat) (x : Bool) : Bool := if (v : Int) ∈ usesL t then true else if setsL t = (v : Int) then false else x
def last1 (b : Bk) (v : Nat) (x : Bool) : Bool := if b.e = 2 ∧ b.v = (v : Int) then true else x
def thru1 (ins : List Tac) (v : Nat) (x : Bool) : Bool := ins.foldr (fun t x => bk1 t v x) x
theorem gB_use : ∀ (us : List Int) (l : List Bool) (v : Nat), (∀ u ∈ us, 0 ≤ u) → v < l.length → gB (useL l us) v = if (v : Int) ∈ us then true else gB l v
  | [], l, v, _, _ => by simp [useL]
  | u :: us, l, v, hu, hv => by
    simp only [useL, List.foldl_cons]
    rw [← useL, gB_use us _ v (fun w hw => hu w (by simp [hw])) (by simpa using hv), gB_set _ _ _ _ hv]
    have h0 := hu u (by simp)
    by_cases h1 : (v : Int) ∈ us
    · simp [h1]
    · by_cases h2 : (v : Int) = u
      · rw [if_neg h1, if_pos (by omega), if_pos (by simp [h2])]
      · rw [if_neg h1, if_neg (by omega), if_neg (by simp [h1, h2])]
def RegT (t : Tac) (n : Int) : Prop := (∀ u ∈ usesL t, 0 ≤ u ∧ u < n) ∧ (SetsT t → 0 ≤ t.d ∧ t.d < n)
theorem RegT.sets {t : Tac} {n : Int} (h : RegT t n) : setsL t = -1 ∨ (0 ≤ setsL t ∧ setsL t < n) := by
  unfold setsL; split
  · rename_i h1; exact .inr (h.2 h1)
  · exact .inl rfl
theorem gB_back (t : Tac) (l : List Bool) (v : Nat) (hr : RegT t l.length) (hv : v < l.length) : gB (backL t l) v = bk1 t v (gB l v) := by
  unfold backL bk1
  rw [gB_use _ _ _ (fun u hu => (hr.1 u hu).1) (by rw [clearL_len]; exact hv)]
  congr 1
  unfold clearL
  rcases hr.sets with h | ⟨h, _⟩
  · rw [h, if_neg (by omega), if_neg (by omega)]
  · rw [if_pos h, gB_set _ _ _ _ hv]
    by_cases h2 : setsL t = (v : Int)
    · rw [if_pos (by omega), if_pos h2]
    · rw [if_neg (by omega), if_neg h2]
theorem gB_thru : ∀ (ins : List Tac) (l : List Bool) (v : Nat), (∀ t ∈ ins, RegT t l.length) → v < l.length → gB (thruL ins l) v = thru1 ins v (gB l v)
  | [], _, _, _, _ => rfl
  | t :: ins, l, v, hr, hv => by
    show gB (backL t (thruL ins l)) v = bk1 t v (thru1 ins v (gB l v))
    rw [gB_back _ _ _ (by rw [thruL_len]; exact hr t (by simp)) (by rw [thruL_len]; exact hv), gB_thru ins l v (fun t ht => hr t (by simp [ht])) hv]
theorem gB_last (b : Bk) (l : List Bool) (v : Nat) (hb : b.e = 2 → 0 ≤ b.v) (hv : v < l.length) : gB (lastL b l) v = last1 b v (gB l v) := by
  unfold lastL last1
  by_cases h : b.e = 2
  · have := hb h
    rw [if_pos h, gB_set _ _ _ _ hv]
    by_cases h2 : b.v = (v : Int)
    · rw [if_pos (by omega), if_pos ⟨h, h2⟩]
    · rw [if_neg (by omega), if_neg (fun e => h2 e.2)]
  · rw [if_neg h, if_neg (fun e => h e.1)]
def nxt (b : Bk) : List Int := if b.e = 1 then [b.to] else if b.e = 2 then [b.to, b.el] else []
theorem nxt_len (b : Bk) : (nxt b).length ≤ 2 := by unfold nxt; split; simp; split <;> simp
structure Fine (f : BF) : Prop where
  r0 : 0 ≤ f.regs
  r1 : f.regs ≤ 4000
  b0 : f.bks ≠ []
  b1 : f.bks.length ≤ 500
  ins : ∀ b ∈ f.bks, ∀ t ∈ b.ins, RegT t f.regs
  len : ∀ b ∈ f.bks, b.ins.length ≤ 1000
  v : ∀ b ∈ f.bks, b.e = 2 → 0 ≤ b.v ∧ b.v < f.regs
  to : ∀ b ∈ f.bks, ∀ k ∈ nxt b, 0 ≤ k ∧ k < f.bks.length
def BF.n (f : BF) : Nat := f.bks.length
def BF.r (f : BF) : Nat := f.regs.toNat
def BF.bk (f : BF) (b : Nat) : Bk := f.bks.getD b default
theorem BF.mem {f : BF} {b : Nat} (h : b < f.n) : f.bk b ∈ f.bks := mem_getD h
def ahead1 (b : Bk) (v : Nat) (x : Bool) : Bool := thru1 b.ins v (last1 b v x)
theorem gB_ahead {f : BF} (hf : Fine f) {b : Nat} (hb : b < f.n) (l : List Bool) (hl : l.length = f.r) {v : Nat} (hv : v < f.r) : gB (aheadL (f.bk b) l) v = ahead1 (f.bk b) v (gB l v) := by
  have hr0 := hf.r0
  have hm := BF.mem hb
  have hlr : (l.length : Int) = f.regs := by rw [hl]; unfold BF.r; omega
  unfold aheadL ahead1
  rw [gB_thru _ _ _ (fun t ht => by rw [lastL_len, hlr]; exact hf.ins _ hm t ht) (by rw [lastL_len, hl]; exact hv), gB_last _ _ _ (fun h => (hf.v _ hm h).1) (by rw [hl]; exact hv)]
def Tri (g : Bool → Bool) : Prop := (∀ x, g x = true) ∨ (∀ x, g x = false) ∨ (∀ x, g x = x)
theorem Tri.id : Tri fun x => x := .inr (.inr fun _ => rfl)
theorem Tri.comp {g h : Bool → Bool} (hg : Tri g) (hh : Tri h) : Tri fun x => g (h x) := by
  rcases hg with h1 | h1 | h1
  · exact .inl fun x => h1 _
  · exact .inr (.inl fun x => h1 _)
  · rcases hh with h2 | h2 | h2
    · exact .inl fun x => by simp only [h1, h2]
    · exact .inr (.inl fun x => by simp only [h1, h2])
    · exact .inr (.inr fun x => by simp only [h1, h2])
theorem Tri.bk1 (t : Tac) (v : Nat) : Tri (bk1 t v) := by
  unfold Go.Proofs.Ytncjbipnkdlkoaa.bk1
  by_cases h : (v : Int) ∈ usesL t
  · exact .inl fun x => if_pos h
  · by_cases h2 : setsL t = (v : Int)
    · exact .inr (.inl fun x => by simp only [if_neg h, if_pos h2])
    · exact .inr (.inr fun x => by simp only [if_neg h, if_neg h2])
theorem Tri.thru1 (v : Nat) : ∀ ins, Tri (thru1 ins v)
  | [] => Tri.id
  | t :: ins => (Tri.bk1 t v).comp (Tri.thru1 v ins)
theorem Tri.ahead1 (b : Bk) (v : Nat) : Tri (ahead1 b v) := by
  refine (Tri.thru1 v b.ins).comp ?_
  unfold last1
  by_cases h : b.e = 2 ∧ b.v = (v : Int)
  · exact .inl fun x => if_pos h
  · exact .inr (.inr fun x => if_neg h)
theorem Tri.mono {g : Bool → Bool} (h : Tri g) {x y : Bool} (hxy : x = true → y = true) (hx : g x = true) : g y = true := by
  rcases h with h | h | h
  · exact h y
  · rw [h] at hx; cases hx
  · rw [h] at hx ⊢; exact hxy hx
theorem Tri.or {g : Bool → Bool} (h : Tri g) (x y : Bool) : g (x || y) = (g x || g y) := by
  rcases h with h | h | h <;> simp [h]
theorem Tri.and {g : Bool → Bool} (h : Tri g) (x y : Bool) : g (x && y) = (g x && g y) := by
  rcases h with h | h | h <;> simp [h]
def sizedL (m : List (List Bool)) (n : Int) (r : Int) : Bool := decide ((m.length : Int) = n) && m.all fun l => decide ((l.length : Int) = r)
def sizedB (f : BF) (L : LD) : Bool := sizedL L.inn f.bks.length f.regs && sizedL L.out f.bks.length f.regs
structure SizedP (f : BF) (L : LD) : Prop where
  i : L.inn.length = f.n
  o : L.out.length = f.n
  ir : ∀ l ∈ L.inn, l.length = f.r
  or : ∀ l ∈ L.out, l.length = f.r
theorem sizedB_iff {f : BF} (h0 : 0 ≤ f.regs) (L : LD) : sizedB f L = true ↔ SizedP f L := by
  unfold sizedB sizedL
  simp only [Bool.and_eq_true, decide_eq_true_eq, List.all_eq_true]
  refine ⟨fun ⟨⟨h1, h2⟩, h3, h4⟩ => ⟨by unfold BF.n; omega, by unfold BF.n; omega, fun l hl => ?_, fun l hl => ?_⟩, fun h => ⟨⟨by have := h.i; unfold BF.n at this; omega, fun l hl => ?_⟩, by have := h.o; unfold BF.n at this; omega, fun l hl => ?_⟩⟩
  · have := h2 l hl; unfold BF.r; omega
  · have := h4 l hl; unfold BF.r; omega
  · have := h.ir l hl; unfold BF.r at this; omega
  · have := h.or l hl; unfold BF.r at this; omega
theorem getD_nil {m : List (List Bool)} {b : Nat} (hb : b < m.length) : m.getD b [] ∈ m := by
  rw [List.getD, List.getElem?_eq_getElem hb]; exact List.getElem_mem hb
theorem SizedP.il {f : BF} {L : LD} (h : SizedP f L) {b : Nat} (hb : b < f.n) : (L.inn.getD b []).length = f.r := h.ir _ (getD_nil (by rw [h.i]; exact hb))
theorem SizedP.ol {f : BF} {L : LD} (h : SizedP f L) {b : Nat} (hb : b < f.n) : (L.out.getD b []).length = f.r := h.or _ (getD_nil (by rw [h.o]; exact hb))
structure Closed (f : BF) (I O : Nat → Nat → Bool) : Prop where
  way : ∀ b < f.n, ∀ k ∈ nxt (f.bk b), ∀ v < f.r, I k.toNat v = true → O b v = true
  ahead : ∀ b < f.n, ∀ v < f.r, ahead1 (f.bk b) v (O b v) = true → I b v = true
structure ClosedP (f : BF) (L : LD) : Prop where
  sz : SizedP f L
  cl : Closed f L.I L.O
def InAll (f : BF) (b v : Nat) : Prop := ∀ I O, Closed f I O → I b v = true
def OutAll (f : BF) (b v : Nat) : Prop := ∀ I O, Closed f I O → O b v = true
structure Least (f : BF) (L : LD) : Prop where
  cl : ClosedP f L
  min : ∀ I O, Closed f I O → ∀ b < f.n, ∀ v < f.r, (L.I b v = true → I b v = true) ∧ (L.O b v = true → O b v = true)
theorem LD.ext {f : BF} {L M : LD} (hL : SizedP f L) (hM : SizedP f M) (hi : ∀ b < f.n, ∀ v < f.r, L.I b v = M.I b v) (ho : ∀ b < f.n, ∀ v < f.r, L.O b v = M.O b v) : L = M := by
  obtain ⟨i, o⟩ := L
  obtain ⟨i', o'⟩ := M
  have key : ∀ (a a' : List (List Bool)), a.length = f.n → a'.length = f.n → (∀ b < f.n, (a.getD b []).length = f.r) → (∀ b < f.n, (a'.getD b []).length = f.r) →
      (∀ b < f.n, ∀ v < f.r, gB (a.getD b []) v = gB (a'.getD b []) v) → a = a' := fun a a' h1 h2 h3 h4 h5 => by
    refine List.ext_getElem (h1.trans h2.symm) fun b hb hb' => ?_
    have hn : b < f.n := by omega
    have := gB_ext ((h3 b hn).trans (h4 b hn).symm) fun v hv => h5 b hn v (by rw [h3 b hn] at hv; exact hv)
    simp only [List.getD, List.getElem?_eq_getElem hb, List.getElem?_eq_getElem hb', Option.getD_some] at this
    exact this
  rw [key i i' hL.i hM.i (fun b hb => hL.il hb) (fun b hb => hM.il hb) hi, key o o' hL.o hM.o (fun b hb => hL.ol hb) (fun b hb => hM.ol hb) ho]
theorem Least.unique {f : BF} {L M : LD} (hL : Least f L) (hM : Least f M) : L = M := by
  refine LD.ext hL.cl.sz hM.cl.sz (fun b hb v hv => ?_) (fun b hb v hv => ?_)
  · have h1 := (hL.min _ _ hM.cl.cl b hb v hv).1
    have h2 := (hM.min _ _ hL.cl.cl b hb v hv).1
    cases h : L.I b v <;> cases h' : M.I b v <;> simp_all
  · have h1 := (hL.min _ _ hM.cl.cl b hb v hv).2
    have h2 := (hM.min _ _ hL.cl.cl b hb v hv).2
    cases h : L.O b v <;> cases h' : M.O b v <;> simp_all
def tabL (n r : Nat) (p : Nat → Nat → Bool) : List (List Bool) := (List.range n).map fun b => (List.range r).map fun v => p b v
theorem tabL_len (n r : Nat) (p : Nat → Nat → Bool) : (tabL n r p).length = n := by simp [tabL]
theorem tabL_row (n r : Nat) (p : Nat → Nat → Bool) : ∀ l ∈ tabL n r p, l.length = r := fun l hl => by
  simp only [tabL, List.mem_map] at hl
  obtain ⟨b, _, rfl⟩ := hl
  simp
theorem tabL_get {n r b v : Nat} (p : Nat → Nat → Bool) (hb : b < n) (hv : v < r) : gB ((tabL n r p).getD b []) v = p b v := by
  simp [tabL, gB, List.getD, hb, hv]
theorem sized_tab (f : BF) (p q : Nat → Nat → Bool) : SizedP f ⟨tabL f.n f.r p, tabL f.n f.r q⟩ := ⟨tabL_len _ _ _, tabL_len _ _ _, tabL_row _ _ _, tabL_row _ _ _⟩
theorem Closed.congr {f : BF} (hf : Fine f) {I O I' O' : Nat → Nat → Bool} (hi : ∀ b < f.n, ∀ v < f.r, I b v = I' b v) (ho : ∀ b < f.n, ∀ v < f.r, O b v = O' b v) (h : Closed f I O) : Closed f I' O' := by
  refine ⟨fun b hb k hk v hv h1 => ?_, fun b hb v hv h1 => ?_⟩
  · have hk' := hf.to _ (BF.mem hb) k hk
    rw [← ho b hb v hv]
    rw [← hi _ (show k.toNat < f.n by unfold BF.n; omega) v hv] at h1
    exact h.way b hb k hk v hv h1
  · rw [← hi b hb v hv]
    rw [← ho b hb v hv] at h1
    exact h.ahead b hb v hv h1
theorem least_exists {f : BF} (hf : Fine f) : ∃ L, Least f L := by
  classical
  refine ⟨⟨tabL f.n f.r fun b v => decide (InAll f b v), tabL f.n f.r fun b v => decide (OutAll f b v)⟩, ⟨sized_tab _ _ _, ?_⟩, fun I O h b hb v hv => ⟨fun e => ?_, fun e => ?_⟩⟩
  · refine Closed.congr hf (I := fun b v => decide (InAll f b v)) (O := fun b v => decide (OutAll f b v)) (fun b hb v hv => (tabL_get (fun b v => decide (InAll f b v)) hb hv).symm) (fun b hb v hv => (tabL_get (fun b v => decide (OutAll f b v)) hb hv).symm) ⟨fun b hb k hk v hv h1 => ?_, fun b hb v hv h1 => ?_⟩
    · simp only [decide_eq_true_eq] at h1 ⊢
      exact fun I O h => h.way b hb k hk v hv (h1 I O h)
    · simp only [decide_eq_true_eq] at h1 ⊢
      refine fun I O h => h.ahead b hb v hv ((Tri.ahead1 _ v).mono (fun e => ?_) h1)
      simp only [decide_eq_true_eq] at e
      exact e I O h
  · have := tabL_get (fun b v => decide (InAll f b v)) hb hv
    have e' : gB ((tabL f.n f.r fun b v => decide (InAll f b v)).getD b []) v = true := e
    rw [this] at e'
    exact of_decide_eq_true e' I O h
  · have := tabL_get (fun b v => decide (OutAll f b v)) hb hv
    have e' : gB ((tabL f.n f.r fun b v => decide (OutAll f b v)).getD b []) v = true := e
    rw [this] at e'
    exact of_decide_eq_true e' I O h
end Go.Proofs.Ytncjbipnkdlkoaa
namespace Go.Proofs.Ytncjbipnkdlkoaa
set_option linter.unusedSimpArgs false
set_option linter.unusedVariables false
open Go.V

/- A row as a word. -/
def wd : List Bool → Nat
  | [] => 0
  | b :: l => b.toNat + 2 * wd l
theorem wd_bit : ∀ (l : List Bool) (i : Nat), (wd l).testBit i = gB l i
  | [], i => by simp [wd, gB]
  | b :: l, 0 => by
    show (b.toNat + 2 * wd l).testBit 0 = b
    rw [Nat.testBit_zero]
    cases b <;> simp <;> omega
  | b :: l, i + 1 => by
    show (b.toNat + 2 * wd l).testBit (i + 1) = gB (b :: l) (i + 1)
    rw [Nat.testBit_succ, show (b.toNat + 2 * wd l) / 2 = wd l by cases b <;> simp <;> omega, wd_bit l i]
    rfl
theorem wd_lt : ∀ (l : List Bool), wd l < 2 ^ l.length
  | [] => by simp [wd]
  | b :: l => by
    have := wd_lt l
    show b.toNat + 2 * wd l < 2 ^ (l.length + 1)
    rw [Nat.pow_succ]
    cases b <;> simp <;> omega
theorem wd_lt64 {l : List Bool} (h : l.length ≤ 64) : wd l < 2 ^ 64 := Nat.lt_of_lt_of_le (wd_lt l) (Nat.pow_le_pow_right (by decide) h)
theorem wd_eq {l : List Bool} {n : Nat} (h : ∀ i, n.testBit i = gB l i) : n = wd l := Nat.eq_of_testBit_eq fun i => by rw [h, wd_bit]
theorem gB_out {l : List Bool} {i : Nat} (h : l.length ≤ i) : gB l i = false := by
  unfold gB; rw [List.getD, List.getElem?_eq_none h]; rfl
theorem wd_zero (n : Nat) : wd (List.replicate n false) = 0 := (wd_eq fun i => by
  rw [Nat.zero_testBit]
  unfold gB; rw [List.getD, List.getElem?_replicate]; split <;> rfl).symm
def orL (a b : List Bool) : List Bool := (List.range a.length).map fun v => gB a v || gB b v
theorem gB_or (a b : List Bool) {v : Nat} (hv : v < a.length) : gB (orL a b) v = (gB a v || gB b v) := by
  unfold orL; rw [gB, List.getD]; simp [hv]
theorem orL_len (a b : List Bool) : (orL a b).length = a.length := by simp [orL]
theorem wd_or {a b : List Bool} (hl : a.length = b.length) : wd a ||| wd b = wd (orL a b) := wd_eq fun i => by
  rw [Nat.testBit_or, wd_bit, wd_bit]
  rcases Nat.lt_or_ge i a.length with h | h
  · rw [gB_or _ _ h]
  · rw [gB_out h, gB_out (by omega), gB_out (by rw [orL_len]; exact h)]; rfl
theorem wd_set {l : List Bool} {i : Nat} (hi : i < l.length) : wd l ||| 2 ^ i = wd (l.set i true) := wd_eq fun j => by
  rw [Nat.testBit_or, wd_bit, Nat.testBit_two_pow]
  rcases Nat.lt_or_ge j l.length with h | h
  · rw [gB_set _ _ _ _ h]
    by_cases e : i = j
    · rw [if_pos e]; simp [e]
    · rw [if_neg e]; simp [e]
  · rw [gB_out h, gB_out (by simpa using h)]
    simp; omega

/- What a block reads ahead of setting it, and what it sets. -/
theorem gB_rep (r v : Nat) : gB (List.replicate r false) v = false := by
  unfold gB; rw [List.getD, List.getElem?_replicate]; split <;> rfl
structure SV where
  I : List (List Bool)
  O : List (List Bool)
  wt : List Nat
deriving Inhabited
def SV.L (σ : SV) : LD := ⟨σ.I, σ.O⟩
def gath (I : List (List Bool)) (o : List Bool) (ks : List Int) : List Bool := ks.foldl (fun o k => orL o (I.getD k.toNat default)) o
theorem gath_len (I : List (List Bool)) : ∀ (ks : List Int) (o : List Bool), (gath I o ks).length = o.length
  | [], _ => rfl
  | k :: ks, o => by
    show (gath I (orL o (I.getD k.toNat default)) ks).length = _
    rw [gath_len I ks, orL_len]
theorem gB_gath (I : List (List Bool)) : ∀ (ks : List Int) (o : List Bool) {v : Nat}, v < o.length → gB (gath I o ks) v = (gB o v || ks.any fun k => gB (I.getD k.toNat default) v)
  | [], o, v, _ => by simp [gath]
  | k :: ks, o, v, hv => by
    show gB (gath I (orL o (I.getD k.toNat default)) ks) v = _
    rw [gB_gath I ks _ (by rw [orL_len]; exact hv), gB_or _ _ hv, List.any_cons, Bool.or_assoc]
def newO (f : BF) (I O : List (List Bool)) (b : Nat) : List Bool := gath I (O.getD b default) (nxt (f.bk b))
def Under (f : BF) (L : LD) : Prop := ∀ I O, Closed f I O → ∀ b < f.n, ∀ v < f.r, (L.I b v = true → I b v = true) ∧ (L.O b v = true → O b v = true)
theorem row_set {m : List (List Bool)} {b c : Nat} {l : List Bool} (hb : b < m.length) : (m.set b l).getD c [] = if b = c then l else m.getD c [] := by
  rw [List.getD, List.getElem?_set]
  by_cases h : b = c
  · subst h; simp [hb]
  · rw [if_neg h, if_neg h]; rfl
theorem SizedP.setO {f : BF} {L : LD} (h : SizedP f L) {b : Nat} {l : List Bool} (hl : l.length = f.r) : SizedP f ⟨L.inn, L.out.set b l⟩ :=
  ⟨h.i, by simp [h.o], h.ir, fun x hx => by rcases List.mem_or_eq_of_mem_set hx with e | e; exact h.or x e; rw [e, hl]⟩
theorem SizedP.setI {f : BF} {L : LD} (h : SizedP f L) {b : Nat} {l : List Bool} (hl : l.length = f.r) : SizedP f ⟨L.inn.set b l, L.out⟩ :=
  ⟨by simp [h.i], h.o, fun x hx => by rcases List.mem_or_eq_of_mem_set hx with e | e; exact h.ir x e; rw [e, hl], h.or⟩
theorem under_out {f : BF} (hf : Fine f) {I O : List (List Bool)} (hs : SizedP f ⟨I, O⟩) (h : Under f ⟨I, O⟩) {b : Nat} (hb : b < f.n) : Under f ⟨I, O.set b (newO f I O b)⟩ := fun I' O' hc c hc' v hv => by
  have hob : b < O.length := by have := hs.o; simp only at this; omega
  refine ⟨(h I' O' hc c hc' v hv).1, fun e => ?_⟩
  have e' : gB ((O.set b (newO f I O b)).getD c []) v = true := e
  rw [row_set hob] at e'
  by_cases hbc : b = c
  · subst hbc
    rw [if_pos rfl] at e'
    unfold newO at e'
    have hol : (O.getD b default).length = f.r := hs.ol hb
    rw [gB_gath _ _ _ (by rw [hol]; exact hv), Bool.or_eq_true] at e'
    rcases e' with g | g
    · exact (h I' O' hc b hb v hv).2 g
    · obtain ⟨k, hk, g⟩ := List.any_eq_true.1 g
      have hk' := hf.to _ (BF.mem hb) k hk
      exact hc.way b hb k hk v hv ((h I' O' hc k.toNat (by unfold BF.n; omega) v hv).1 g)
  · rw [if_neg hbc] at e'
    exact (h I' O' hc c hc' v hv).2 e'
theorem under_in {f : BF} (hf : Fine f) {I O : List (List Bool)} (hs : SizedP f ⟨I, O⟩) (h : Under f ⟨I, O⟩) {b : Nat} (hb : b < f.n) {l : List Bool} (hl : ∀ v < f.r, gB l v = true → gB (I.getD b []) v = true ∨ gB (aheadL (f.bk b) (O.getD b [])) v = true) :
    Under f ⟨I.set b l, O⟩ := fun I' O' hc c hc' v hv => by
  have hob : b < I.length := by have := hs.i; simp only at this; omega
  refine ⟨fun e => ?_, (h I' O' hc c hc' v hv).2⟩
  have e' : gB ((I.set b l).getD c []) v = true := e
  rw [row_set hob] at e'
  by_cases hbc : b = c
  · subst hbc
    rw [if_pos rfl] at e'
    rcases hl v hv e' with g | g
    · exact (h I' O' hc b hb v hv).1 g
    · rw [gB_ahead hf hb _ (hs.ol hb) hv] at g
      exact hc.ahead b hb v hv ((Tri.ahead1 _ v).mono (fun e => (h I' O' hc b hb v hv).2 e) g)
  · rw [if_neg hbc] at e'
    exact (h I' O' hc c hc' v hv).1 e'
def unset (m : List (List Bool)) : Nat := (m.map fun l => l.countP (! ·)).sum
theorem count_le {a b : List Bool} (hl : a.length = b.length) (h : ∀ v, gB a v = true → gB b v = true) : b.countP (! ·) ≤ a.countP (! ·) ∧ (a ≠ b → b.countP (! ·) < a.countP (! ·)) := by
  induction a generalizing b with
  | nil => cases b with
    | nil => exact ⟨Nat.le_refl _, fun e => absurd rfl e⟩
    | cons y b => simp at hl
  | cons x a ih => cases b with
    | nil => simp at hl
    | cons y b =>
      have h0 := h 0
      have hs := ih (by simpa using hl) fun v hv => by have := h (v + 1); simp only [gB, List.getD_cons_succ] at this ⊢; exact this hv
      simp only [gB, List.getD_cons_zero] at h0
      rw [List.countP_cons, List.countP_cons]
      have h2 : x :: a ≠ y :: b → x = y → a ≠ b := fun e e1 e2 => e (by rw [e1, e2])
      cases x <;> cases y
      · refine ⟨by simp; exact hs.1, fun e => by have := hs.2 (h2 e rfl); simpa using this⟩
      · exact ⟨by simp; omega, fun _ => by simp; omega⟩
      · exact absurd (h0 rfl) (by simp)
      · refine ⟨by simp; exact hs.1, fun e => by have := hs.2 (h2 e rfl); simpa using this⟩
theorem unset_set {m : List (List Bool)} {b : Nat} {l : List Bool} (hb : b < m.length) (hl : l.length = (m.getD b []).length) (h : ∀ v, gB (m.getD b []) v = true → gB l v = true) : unset (m.set b l) ≤ unset m ∧ (m.getD b [] ≠ l → unset (m.set b l) < unset m) := by
  induction m generalizing b with
  | nil => simp at hb
  | cons x m ih =>
    cases b with
    | zero =>
      have := count_le (a := x) (b := l) (by simpa using hl.symm) (by simpa using h)
      simp only [unset, List.set_cons_zero, List.map_cons, List.sum_cons, List.getD_cons_zero] at this ⊢
      exact ⟨by omega, fun e => by have := this.2 e; omega⟩
    | succ b =>
      have := ih (b := b) (by simpa using hb) (by simpa using hl) (by simpa using h)
      simp only [unset, List.set_cons_succ, List.map_cons, List.sum_cons, List.getD_cons_succ] at this ⊢
      exact ⟨by omega, fun e => by have := this.2 e; omega⟩
end Go.Proofs.Ytncjbipnkdlkoaa
namespace Go.Proofs.Ytncjbipnkdlkoaa
set_option linter.unusedSimpArgs false
set_option linter.unusedVariables false
open Go.V
theorem nodup_le : ∀ (n : Nat) (l : List Nat), l.Nodup → (∀ x ∈ l, x < n) → l.length ≤ n
  | 0, l, _, h => by
    cases l with
    | nil => exact Nat.le_refl _
    | cons x l => exact absurd (h x (by simp)) (by omega)
  | n + 1, l, hd, h => by
    by_cases hm : n ∈ l
    · have h1 := nodup_le n (l.erase n) (hd.erase n) fun x hx => by
        have h2 := h x (List.mem_of_mem_erase hx)
        have h3 : x ≠ n := fun e => by rw [e] at hx; exact (hd.not_mem_erase hx).elim
        omega
      rw [List.length_erase_of_mem hm] at h1
      omega
    · have h1 := nodup_le n l hd fun x hx => by
        have h2 := h x hx
        have h3 : x ≠ n := fun e => hm (e ▸ hx)
        omega
      omega
def predL (f : BF) (b : Nat) : List Nat := (List.range f.n).flatMap fun a => ((nxt (f.bk a)).filter fun k => decide (k.toNat = b)).map fun _ => a
theorem mem_pred {f : BF} {b a : Nat} : a ∈ predL f b ↔ a < f.n ∧ ∃ k ∈ nxt (f.bk a), k.toNat = b := by
  unfold predL
  simp only [List.mem_flatMap, List.mem_range, List.mem_map, List.mem_filter, decide_eq_true_eq]
  constructor
  · rintro ⟨x, h1, k, ⟨h2, h3⟩, rfl⟩
    exact ⟨h1, k, h2, h3⟩
  · rintro ⟨h1, k, h2, h3⟩
    exact ⟨a, h1, k, ⟨h2, h3⟩, rfl⟩
def waitS (wt : List Nat) (a : Nat) : List Nat := if a ∈ wt then wt else wt ++ [a]
def waitsS (wt : List Nat) (ls : List Nat) : List Nat := ls.foldl waitS wt
theorem mem_wait {wt : List Nat} {a x : Nat} : x ∈ waitS wt a ↔ x ∈ wt ∨ x = a := by
  unfold waitS
  split
  · rename_i h
    exact ⟨.inl, fun e => by rcases e with e | e; exact e; rw [e]; exact h⟩
  · simp
theorem mem_waits : ∀ {ls wt : List Nat} {x : Nat}, x ∈ waitsS wt ls ↔ x ∈ wt ∨ x ∈ ls
  | [], wt, x => by simp [waitsS]
  | a :: ls, wt, x => by
    show x ∈ waitsS (waitS wt a) ls ↔ _
    rw [mem_waits, mem_wait, List.mem_cons, or_assoc]
theorem nodup_wait {wt : List Nat} {a : Nat} (h : wt.Nodup) : (waitS wt a).Nodup := by
  unfold waitS
  split
  · exact h
  · rename_i h2
    rw [List.nodup_append]
    exact ⟨h, by simp, fun x hx y hy e => by simp at hy; subst hy; subst e; exact h2 hx⟩
theorem nodup_waits : ∀ {ls wt : List Nat}, wt.Nodup → (waitsS wt ls).Nodup
  | [], _, h => h
  | a :: ls, _, h => nodup_waits (ls := ls) (nodup_wait h)
def grown (f : BF) (σ : SV) (b : Nat) : List Bool := aheadL (f.bk b) (newO f σ.I σ.O b)
def moreS (f : BF) (σ : SV) (b : Nat) : Bool := decide (σ.I.getD b [] ≠ grown f σ b)
def growS (f : BF) (σ : SV) (b : Nat) : SV := ⟨σ.I.set b (grown f σ b), σ.O.set b (newO f σ.I σ.O b), σ.wt⟩
def roundS (f : BF) (σ : SV) (w0 : List Nat) (b : Nat) : SV :=
  ⟨(growS f σ b).I, (growS f σ b).O, if moreS f σ b = true then waitsS w0 (predL f b) else w0⟩
structure SInv (f : BF) (σ : SV) : Prop where
  sz : SizedP f σ.L
  un : Under f σ.L
  wn : ∀ b ∈ σ.wt, b < f.n
  nd : σ.wt.Nodup
  low : ∀ b < f.n, ∀ v < f.r, gB (σ.I.getD b []) v = true → gB (aheadL (f.bk b) (σ.O.getD b [])) v = true
  ok : ∀ b < f.n, b ∉ σ.wt → (∀ k ∈ nxt (f.bk b), ∀ v < f.r, gB (σ.I.getD k.toNat []) v = true → gB (σ.O.getD b []) v = true) ∧
    ∀ v < f.r, gB (aheadL (f.bk b) (σ.O.getD b [])) v = true → gB (σ.I.getD b []) v = true
theorem SInv.wlen {f : BF} {σ : SV} (h : SInv f σ) : σ.wt.length ≤ f.n := nodup_le _ _ h.nd h.wn
def muS (f : BF) (σ : SV) : Nat := unset σ.I * (f.n + 1) + σ.wt.length
section
variable {f : BF} {σ : SV} {b : Nat}
theorem newO_len (hf : Fine f) (h : SizedP f σ.L) (hb : b < f.n) : (newO f σ.I σ.O b).length = f.r := by
  unfold newO; rw [gath_len]; exact h.ol hb
theorem grown_len (hf : Fine f) (h : SizedP f σ.L) (hb : b < f.n) : (grown f σ b).length = f.r := by
  unfold grown; rw [aheadL_len, newO_len hf h hb]
theorem newO_ge (hf : Fine f) (h : SizedP f σ.L) (hb : b < f.n) {v : Nat} (hv : v < f.r) (e : gB (σ.O.getD b []) v = true) : gB (newO f σ.I σ.O b) v = true := by
  unfold newO
  rw [gB_gath _ _ _ (by have := h.ol hb; exact Nat.lt_of_lt_of_eq hv this.symm)]
  rw [show gB (σ.O.getD b default) v = true from e]; rfl
theorem newO_way (hf : Fine f) (h : SizedP f σ.L) (hb : b < f.n) {k : Int} (hk : k ∈ nxt (f.bk b)) {v : Nat} (hv : v < f.r) (e : gB (σ.I.getD k.toNat []) v = true) : gB (newO f σ.I σ.O b) v = true := by
  unfold newO
  rw [gB_gath _ _ _ (by have := h.ol hb; exact Nat.lt_of_lt_of_eq hv this.symm), Bool.or_eq_true]
  exact .inr (List.any_eq_true.2 ⟨k, hk, e⟩)
theorem grown_ge (hf : Fine f) (h : SInv f σ) (hb : b < f.n) {v : Nat} (hv : v < f.r) (e : gB (σ.I.getD b []) v = true) : gB (grown f σ b) v = true := by
  have h1 := h.low b hb v hv e
  rw [gB_ahead hf hb (σ.O.getD b []) (h.sz.ol hb) hv] at h1
  unfold grown
  rw [gB_ahead hf hb _ (newO_len hf h.sz hb) hv]
  exact (Tri.ahead1 _ v).mono (fun e => newO_ge hf h.sz hb hv e) h1
theorem SInv.round (hf : Fine f) {w0 : List Nat} (h : SInv f σ) (hw : σ.wt = w0 ++ [b]) : SInv f (roundS f σ w0 b) ∧ muS f (roundS f σ w0 b) < muS f σ := by
  have hb : b < f.n := h.wn b (by rw [hw]; simp)
  have hbI : b < σ.I.length := by rw [show σ.I.length = f.n from h.sz.i]; exact hb
  have hbO : b < σ.O.length := by rw [show σ.O.length = f.n from h.sz.o]; exact hb
  have hnd := h.nd
  rw [hw, List.nodup_append] at hnd
  have hb0 : b ∉ w0 := fun e => hnd.2.2 b e b (by simp) rfl
  have hol := newO_len hf h.sz hb
  have hgl := grown_len hf h.sz hb
  have hsz : SizedP f ⟨σ.I.set b (grown f σ b), σ.O.set b (newO f σ.I σ.O b)⟩ := (h.sz.setO hol).setI hgl
  have hI : ∀ c, (σ.I.set b (grown f σ b)).getD c [] = if b = c then grown f σ b else σ.I.getD c [] := fun c => row_set hbI
  have hO : ∀ c, (σ.O.set b (newO f σ.I σ.O b)).getD c [] = if b = c then newO f σ.I σ.O b else σ.O.getD c [] := fun c => row_set hbO
  have hsame : moreS f σ b = false → ∀ c, (σ.I.set b (grown f σ b)).getD c [] = σ.I.getD c [] := fun e c => by
    rw [hI]
    have e' : σ.I.getD b [] = grown f σ b := Classical.byContradiction fun g => by rw [moreS, decide_eq_true g] at e; cases e
    by_cases hc : b = c
    · rw [if_pos hc, ← hc, e']
    · rw [if_neg hc]
  have hun : Under f ⟨σ.I.set b (grown f σ b), σ.O.set b (newO f σ.I σ.O b)⟩ := by
    refine under_in hf (h.sz.setO hol) (under_out hf h.sz h.un hb) hb fun v hv e => .inr ?_
    show gB (aheadL (f.bk b) ((σ.O.set b (newO f σ.I σ.O b)).getD b [])) v = true
    rw [hO, if_pos rfl]; exact e
  have hmem : ∀ c, c ∉ (roundS f σ w0 b).wt → c ∉ w0 ∧ (moreS f σ b = true → c ∉ predL f b) := fun c hc => by
    unfold roundS at hc
    simp only at hc
    split at hc
    · rw [mem_waits] at hc
      exact ⟨fun e => hc (.inl e), fun _ e => hc (.inr e)⟩
    · rename_i hm
      exact ⟨hc, fun e => absurd e hm⟩
  refine ⟨⟨hsz, hun, fun c hc => ?_, ?_, fun c hc v hv e => ?_, fun c hc hw' => ?_⟩, ?_⟩
  · unfold roundS at hc
    simp only at hc
    have hw0 : ∀ c ∈ w0, c < f.n := fun c hc => h.wn c (by rw [hw]; simp [hc])
    split at hc
    · rcases mem_waits.1 hc with g | g
      · exact hw0 c g
      · exact (mem_pred.1 g).1
    · exact hw0 c hc
  · unfold roundS
    simp only
    split
    · exact nodup_waits hnd.1
    · exact hnd.1
  · have e' : gB ((σ.I.set b (grown f σ b)).getD c []) v = true := e
    show gB (aheadL (f.bk c) ((σ.O.set b (newO f σ.I σ.O b)).getD c [])) v = true
    rw [hI] at e'
    rw [hO]
    by_cases hbc : b = c
    · subst hbc
      rw [if_pos rfl] at e' ⊢
      exact e'
    · rw [if_neg hbc] at e' ⊢
      exact h.low c hc v hv e'
  · obtain ⟨g1, g2⟩ := hmem c hw'
    show (∀ k ∈ nxt (f.bk c), ∀ v < f.r, gB ((σ.I.set b (grown f σ b)).getD k.toNat []) v = true → gB ((σ.O.set b (newO f σ.I σ.O b)).getD c []) v = true) ∧
      ∀ v < f.r, gB (aheadL (f.bk c) ((σ.O.set b (newO f σ.I σ.O b)).getD c [])) v = true → gB ((σ.I.set b (grown f σ b)).getD c []) v = true
    have hk' : ∀ k ∈ nxt (f.bk c), (σ.I.set b (grown f σ b)).getD k.toNat [] = σ.I.getD k.toNat [] := fun k hk => by
      cases hm : moreS f σ b
      · exact hsame hm _
      · rw [hI, if_neg]
        exact fun e => g2 hm (mem_pred.2 ⟨hc, k, hk, e.symm⟩)
    by_cases hbc : b = c
    · subst hbc
      rw [hO, if_pos rfl, hI, if_pos rfl]
      refine ⟨fun k hk v hv e => ?_, fun v hv e => e⟩
      rw [hk' k hk] at e
      exact newO_way hf h.sz hb hk hv e
    · rw [hO, if_neg hbc, hI c, if_neg hbc]
      have hcw : c ∉ σ.wt := by
        rw [hw]; simp only [List.mem_append, List.mem_singleton, not_or]
        exact ⟨g1, fun e => hbc e.symm⟩
      refine ⟨fun k hk v hv e => ?_, (h.ok c hc hcw).2⟩
      rw [hk' k hk] at e
      exact (h.ok c hc hcw).1 k hk v hv e
  · have hu := unset_set (m := σ.I) (b := b) (l := grown f σ b) hbI (by rw [hgl]; exact (h.sz.il hb).symm) (fun v e => by
      rcases Nat.lt_or_ge v f.r with hv | hv
      · exact grown_ge hf h hb hv e
      · rw [gB_out (by rw [show (σ.I.getD b []).length = f.r from h.sz.il hb]; exact hv)] at e; cases e)
    have hwl : w0.length + 1 = σ.wt.length := by rw [hw]; simp
    have hwn : σ.wt.length ≤ f.n := h.wlen
    unfold muS roundS
    simp only [growS]
    cases hm : moreS f σ b
    · simp only [Bool.false_eq_true, if_false]
      have := Nat.mul_le_mul_right (f.n + 1) hu.1
      omega
    · simp only [if_true]
      have hlt := hu.2 (of_decide_eq_true hm)
      have h1 := Nat.mul_le_mul_right (f.n + 1) (show unset (σ.I.set b (grown f σ b)) + 1 ≤ unset σ.I from hlt)
      rw [Nat.add_mul, Nat.one_mul] at h1
      have h2 : (waitsS w0 (predL f b)).length ≤ f.n := nodup_le _ _ (nodup_waits hnd.1) fun c hc => by
        rcases mem_waits.1 hc with g | g
        · exact h.wn c (by rw [hw]; simp [g])
        · exact (mem_pred.1 g).1
      omega
def beginS (f : BF) : SV := ⟨List.replicate f.n (List.replicate f.r false), List.replicate f.n (List.replicate f.r false), List.range f.n⟩
theorem rep_row (n r b v : Nat) : gB ((List.replicate n (List.replicate r false)).getD b []) v = false := by
  rw [List.getD, List.getElem?_replicate]
  split
  · exact gB_rep r v
  · rfl
theorem begin_inv (f : BF) : SInv f (beginS f) := by
  refine ⟨⟨by simp [beginS, SV.L], by simp [beginS, SV.L], fun l hl => ?_, fun l hl => ?_⟩, fun I O _ b _ v _ => ⟨fun e => ?_, fun e => ?_⟩, fun b hb => by simpa [beginS] using hb, List.nodup_range, fun b hb v hv e => ?_, fun b hb hw => absurd (by simpa [beginS] using hb) hw⟩
  · simp [beginS, SV.L] at hl; rw [hl.2]; simp
  · simp [beginS, SV.L] at hl; rw [hl.2]; simp
  · have : gB ((List.replicate f.n (List.replicate f.r false)).getD b []) v = true := e
    rw [rep_row] at this; cases this
  · have : gB ((List.replicate f.n (List.replicate f.r false)).getD b []) v = true := e
    rw [rep_row] at this; cases this
  · have : gB ((List.replicate f.n (List.replicate f.r false)).getD b []) v = true := e
    rw [rep_row] at this; cases this
end
end Go.Proofs.Ytncjbipnkdlkoaa
namespace Go.Proofs.Ytncjbipnkdlkoaa
set_option linter.unusedSimpArgs false
set_option linter.unusedVariables false
set_option maxRecDepth 10000
open Go.V
section
variable {α : Type} [Inhabited α] {l : List α} {p : α → Bool} {k : Nat}
theorem all_stop (hk : k < l.length) (h : p (l.getD k default) = false) : l.all p = false := by
  rw [List.all_eq_false]
  exact ⟨_, mem_getD hk, by rw [h]; decide⟩
theorem all_step (hk : k < l.length) (h0 : (l.take k).all p = true) (h : p (l.getD k default) = true) : (l.take (k + 1)).all p = true := by
  have e : l.take (k + 1) = l.take k ++ [l.getD k default] := by rw [List.take_add_one]; simp [List.getD, List.getElem?_eq_getElem hk]
  rw [e, List.all_append, h0]; simp only [List.all_cons, List.all_nil, Bool.and_true, Bool.true_and]; exact h
omit [Inhabited α] in
theorem all_end (hk : l.length ≤ k) (h0 : (l.take k).all p = true) : l.all p = true := by
  rw [List.take_of_length_le hk] at h0; exact h0
end
theorem one_imm' {sz : Nat} {xs : List AV} : (AV.imm sz xs).one = true := rfl
theorem i64_lit1 : IntKind.i64.wrap (0 + 1) = 1 := by decide
theorem i64_lit2 : IntKind.i64.wrap (1 + 1) = 2 := by decide
theorem Nat.cast_zero' : ((0 : Nat) : Int) = 0 := rfl
theorem Nat.cast_one' : ((1 : Nat) : Int) = 1 := rfl
def inB (i n : Int) : Bool := decide (0 ≤ i ∧ i < n)
theorem rwithin_c (i n : Int) : Contract Try.prog 59 [I i, I n] (fun r => r = B (inB i n)) := by
  refine Contract.of_call (VCall.of_body hmix f_scref24_within (by simp) ?_)
  by_cases h : 0 ≤ i
  · simp only [go_sem,Nat.reduceEqDiff,Nat.reduceAdd,Nat.reduceMul,↓reduceIte,↓dreduceIte,reduceCtorEq,Nat.reduceLeDiff,Nat.reduceLT,Nat.reduceSub,Int.reduceToNat,Int.reduceLE,Int.reduceLT, c_scref24_within, h]
    exact ⟨_, Frz.pure rfl, by simp [inB, h]⟩
  · simp only [go_sem,Nat.reduceEqDiff,Nat.reduceAdd,Nat.reduceMul,↓reduceIte,↓dreduceIte,reduceCtorEq,Nat.reduceLeDiff,Nat.reduceLT,Nat.reduceSub,Int.reduceToNat,Int.reduceLE,Int.reduceLT, c_scref24_within, h]
    exact ⟨_, Frz.pure rfl, by simp [inB, h]⟩
def restT (t : Tac) (f words : Int) : Prop :=
  if t.op = 3 then 4 ≤ t.k ∧ t.k ≤ 15 ∧ t.base = 0 ∧ t.size = 0
  else t.k = 0 ∧ (if t.op = 4 ∨ t.op = 5 then 0 ≤ t.base ∧ t.base < words ∧ t.size = 0
    else if t.op = 6 ∨ t.op = 7 then 1 ≤ t.size ∧ t.size ≤ 4096 ∧ 0 ≤ t.base ∧ t.base ≤ words - t.size
    else if t.op = 10 then 0 ≤ t.base ∧ t.base < f ∧ t.size = 0
    else t.base = 0 ∧ t.size = 0)
def FitsT (t : Tac) (f regs words : Int) : Prop :=
  1 ≤ t.op ∧ t.op ≤ 10 ∧ (if SetsT t then 0 ≤ t.d ∧ t.d < regs else t.d = 0) ∧ (∀ u ∈ usesL t, 0 ≤ u ∧ u < regs) ∧
  (usesL t = [] → t.a = 0) ∧ ((usesL t).length ≤ 1 → t.b = 0) ∧ (t.op = 1 ∨ t.n = 0) ∧ restT t f words
instance (t : Tac) (f w : Int) : Decidable (restT t f w) := by unfold restT; exact inferInstance
instance (t : Tac) (f r w : Int) : Decidable (FitsT t f r w) := by unfold FitsT; exact inferInstance
def fitsT (t : Tac) (f regs words : Int) : Bool := decide (FitsT t f regs words)

-- FITS
theorem rfits_1 (d a b k base size n f regs words : Int) (hw : 0 ≤ words ∧ words ≤ 1048576) : Contract Try.prog 39 [tacA ⟨1, d, a, b, k, base, size, n⟩, I f, I regs, I words] (fun r => r = B (fitsT ⟨1, d, a, b, k, base, size, n⟩ f regs words)) := by
  refine Contract.of_call (VCall.of_body hmix f_scref24_fits (by simp) ?_)
  have hus : usesL ⟨1, d, a, b, k, base, size, n⟩ = [] := by simp [usesL]
  obtain ⟨x, hx⟩ : ∃ x, fitsT ⟨1, d, a, b, k, base, size, n⟩ f regs words = x := ⟨_, rfl⟩
  rw [hx]
  have hX : (x = true ↔ FitsT ⟨1, d, a, b, k, base, size, n⟩ f regs words) := by rw [← hx]; exact decide_eq_true_iff
  simp only [FitsT, hus, restT, SetsT, Int.reduceEq, or_false, or_true, false_or, true_or, or_self, if_true, if_false, List.mem_cons, List.not_mem_nil, forall_eq_or_imp, forall_eq, false_implies, implies_true, true_and, and_true, Int.reduceLE, List.length_cons, List.length_nil, Nat.reduceAdd, Nat.reduceLeDiff, Nat.le_refl, forall_const, reduceCtorEq, Nat.zero_le] at hX
  cases hd : inB d regs
  · have hx0 : x = false := by
      cases x
      · rfl
      · have := hX.1 rfl; have h2 := of_decide_eq_false hd; omega
    subst hx0
    by_cases h0 : 0 ≤ d
    · simp only [go_sem,Nat.reduceEqDiff,Nat.reduceAdd,Nat.reduceMul,↓reduceIte,↓dreduceIte,reduceCtorEq,Nat.reduceLeDiff,Nat.reduceLT,Nat.reduceSub,Int.reduceToNat,Int.reduceLE,Int.reduceLT, c_scref24_fits, Int.reduceEq, Int.reduceBEq, setsL, SetsT, or_false, or_true, false_or, true_or, or_self, hus, one_imm', List.length_map, Int.reduceLT, Int.reduceNeg, Int.reduceLE]
      refine VCall.of_contract (refsets_c ⟨1, d, a, b, k, base, size, n⟩) (SleL.pure rfl) fun r hr => ?_
      subst hr
      simp only [go_sem,Nat.reduceEqDiff,Nat.reduceAdd,Nat.reduceMul,↓reduceIte,↓dreduceIte,reduceCtorEq,Nat.reduceLeDiff,Nat.reduceLT,Nat.reduceSub,Int.reduceToNat,Int.reduceLE,Int.reduceLT, Int.reduceEq, Int.reduceBEq, setsL, SetsT, or_false, or_true, false_or, true_or, or_self, hus, one_imm', List.length_map, Int.reduceLT, Int.reduceNeg, Int.reduceLE, eq_true h0]
      refine VCall.of_contract (rwithin_c _ _) (SleL.pure rfl) fun r hr => ?_
      subst hr
      simp only [go_sem,Nat.reduceEqDiff,Nat.reduceAdd,Nat.reduceMul,↓reduceIte,↓dreduceIte,reduceCtorEq,Nat.reduceLeDiff,Nat.reduceLT,Nat.reduceSub,Int.reduceToNat,Int.reduceLE,Int.reduceLT, hd]
      exact ⟨_, Frz.pure rfl, rfl⟩
    · simp only [go_sem,Nat.reduceEqDiff,Nat.reduceAdd,Nat.reduceMul,↓reduceIte,↓dreduceIte,reduceCtorEq,Nat.reduceLeDiff,Nat.reduceLT,Nat.reduceSub,Int.reduceToNat,Int.reduceLE,Int.reduceLT, c_scref24_fits, Int.reduceEq, Int.reduceBEq, setsL, SetsT, or_false, or_true, false_or, true_or, or_self, hus, one_imm', List.length_map, Int.reduceLT, Int.reduceNeg, Int.reduceLE]
      refine VCall.of_contract (refsets_c ⟨1, d, a, b, k, base, size, n⟩) (SleL.pure rfl) fun r hr => ?_
      subst hr
      simp only [go_sem,Nat.reduceEqDiff,Nat.reduceAdd,Nat.reduceMul,↓reduceIte,↓dreduceIte,reduceCtorEq,Nat.reduceLeDiff,Nat.reduceLT,Nat.reduceSub,Int.reduceToNat,Int.reduceLE,Int.reduceLT, Int.reduceEq, Int.reduceBEq, setsL, SetsT, or_false, or_true, false_or, true_or, or_self, hus, one_imm', List.length_map, Int.reduceLT, Int.reduceNeg, Int.reduceLE, eq_false h0]
      refine VCall.of_contract (rwithin_c _ _) (SleL.pure rfl) fun r hr => ?_
      subst hr
      simp only [go_sem,Nat.reduceEqDiff,Nat.reduceAdd,Nat.reduceMul,↓reduceIte,↓dreduceIte,reduceCtorEq,Nat.reduceLeDiff,Nat.reduceLT,Nat.reduceSub,Int.reduceToNat,Int.reduceLE,Int.reduceLT, hd]
      exact ⟨_, Frz.pure rfl, rfl⟩
  have h0 := (of_decide_eq_true hd).1
  have h0' := (of_decide_eq_true hd).2
  simp only [go_sem,Nat.reduceEqDiff,Nat.reduceAdd,Nat.reduceMul,↓reduceIte,↓dreduceIte,reduceCtorEq,Nat.reduceLeDiff,Nat.reduceLT,Nat.reduceSub,Int.reduceToNat,Int.reduceLE,Int.reduceLT, c_scref24_fits, Int.reduceEq, Int.reduceBEq, setsL, SetsT, or_false, or_true, false_or, true_or, or_self, hus, one_imm', List.length_map, Int.reduceLT, Int.reduceNeg, Int.reduceLE]
  refine VCall.of_contract (refsets_c ⟨1, d, a, b, k, base, size, n⟩) (SleL.pure rfl) fun r hr => ?_
  subst hr
  simp only [go_sem,Nat.reduceEqDiff,Nat.reduceAdd,Nat.reduceMul,↓reduceIte,↓dreduceIte,reduceCtorEq,Nat.reduceLeDiff,Nat.reduceLT,Nat.reduceSub,Int.reduceToNat,Int.reduceLE,Int.reduceLT, Int.reduceEq, Int.reduceBEq, setsL, SetsT, or_false, or_true, false_or, true_or, or_self, hus, one_imm', List.length_map, Int.reduceLT, Int.reduceNeg, Int.reduceLE, eq_true h0]
  refine VCall.of_contract (rwithin_c _ _) (SleL.pure rfl) fun r hr => ?_
  subst hr
  simp only [go_sem,Nat.reduceEqDiff,Nat.reduceAdd,Nat.reduceMul,↓reduceIte,↓dreduceIte,reduceCtorEq,Nat.reduceLeDiff,Nat.reduceLT,Nat.reduceSub,Int.reduceToNat,Int.reduceLE,Int.reduceLT, Int.reduceEq, Int.reduceBEq, setsL, SetsT, or_false, or_true, false_or, true_or, or_self, hus, one_imm', List.length_map, Int.reduceLT, Int.reduceNeg, Int.reduceLE, hd]
  refine VCall.of_contractN (refuses_c ⟨1, d, a, b, k, base, size, n⟩) ?_ fun r hr => ?_
  · exact ⟨_, _, rfl, Frz.pure rfl, rfl⟩
  subst hr
  simp only [go_sem,Nat.reduceEqDiff,Nat.reduceAdd,Nat.reduceMul,↓reduceIte,↓dreduceIte,reduceCtorEq,Nat.reduceLeDiff,Nat.reduceLT,Nat.reduceSub,Int.reduceToNat,Int.reduceLE,Int.reduceLT, Int.reduceEq, Int.reduceBEq, setsL, SetsT, or_false, or_true, false_or, true_or, or_self, hus, one_imm', List.length_map, Int.reduceLT, Int.reduceNeg, Int.reduceLE]
  refine VW_loop (fun i : Nat => ⟨[(1, I f), (2, I regs), (3, I words), (4, .ptr 0 0 0), (9, .ptr 1 1 0), (10, ints []), (11, I i)], [⟨0, 57, 1, tacL ⟨1, d, a, b, k, base, size, n⟩⟩, ⟨1, 57, 1, [I 1, I d, I 0, I 0, I 0, I 0, I 0, U32 0]⟩], 2⟩)
    (fun i => i ≤ 0 ∧ ∀ j < i, inB (([] : List Int).getD j default) regs = true) (fun i => 0 - i) 0 (Wk.mk (by simp [get_cons]) ⟨[], rfl⟩ (Nat.le_refl _)) ⟨by omega, by omega⟩ ?_
  rintro i ⟨hi, hin⟩
  obtain rfl : i = 0 := by omega
  simp only [go_sem,Nat.reduceEqDiff,Nat.reduceAdd,Nat.reduceMul,↓reduceIte,↓dreduceIte,reduceCtorEq,Nat.reduceLeDiff,Nat.reduceLT,Nat.reduceSub,Int.reduceToNat,Int.reduceLE,Int.reduceLT, Int.reduceEq, Int.reduceBEq, setsL, SetsT, or_false, or_true, false_or, true_or, or_self, hus, one_imm', List.length_map, Int.reduceLT, Int.reduceNeg, Int.reduceLE, Int.cast_ofNat_Int, Nat.cast_zero', Nat.cast_one']
  have hwr : 1 ≤ size → size ≤ 4096 → IntKind.i64.wrap (words - size) = words - size := fun h1 h2 => i64_in (by omega) (by omega)
  repeat' (first | (with_reducible apply And.intro) | (with_reducible intro _))
  all_goals
    refine ⟨_, Frz.pure rfl, ?_⟩
    try (rename_i h1 h2 h3 h4; rw [hwr (by omega) (by omega)] at h4)
    congr 2
    rw [Bool.eq_iff_iff, hX]
    simp only [Bool.and_eq_true, beq_iff_eq, true_and, and_true, Bool.false_eq_true, false_iff, not_and, and_imp]
    first | omega | (intros; omega)
theorem rfits_2 (d a b k base size n f regs words : Int) (hw : 0 ≤ words ∧ words ≤ 1048576) : Contract Try.prog 39 [tacA ⟨2, d, a, b, k, base, size, n⟩, I f, I regs, I words] (fun r => r = B (fitsT ⟨2, d, a, b, k, base, size, n⟩ f regs words)) := by
  refine Contract.of_call (VCall.of_body hmix f_scref24_fits (by simp) ?_)
  have hus : usesL ⟨2, d, a, b, k, base, size, n⟩ = [a] := by simp [usesL]
  obtain ⟨x, hx⟩ : ∃ x, fitsT ⟨2, d, a, b, k, base, size, n⟩ f regs words = x := ⟨_, rfl⟩
  rw [hx]
  have hX : (x = true ↔ FitsT ⟨2, d, a, b, k, base, size, n⟩ f regs words) := by rw [← hx]; exact decide_eq_true_iff
  simp only [FitsT, hus, restT, SetsT, Int.reduceEq, or_false, or_true, false_or, true_or, or_self, if_true, if_false, List.mem_cons, List.not_mem_nil, forall_eq_or_imp, forall_eq, false_implies, implies_true, true_and, and_true, Int.reduceLE, List.length_cons, List.length_nil, Nat.reduceAdd, Nat.reduceLeDiff, Nat.le_refl, forall_const, reduceCtorEq, Nat.zero_le] at hX
  cases hd : inB d regs
  · have hx0 : x = false := by
      cases x
      · rfl
      · have := hX.1 rfl; have h2 := of_decide_eq_false hd; omega
    subst hx0
    by_cases h0 : 0 ≤ d
    · simp only [go_sem,Nat.reduceEqDiff,Nat.reduceAdd,Nat.reduceMul,↓reduceIte,↓dreduceIte,reduceCtorEq,Nat.reduceLeDiff,Nat.reduceLT,Nat.reduceSub,Int.reduceToNat,Int.reduceLE,Int.reduceLT, c_scref24_fits, Int.reduceEq, Int.reduceBEq, setsL, SetsT, or_false, or_true, false_or, true_or, or_self, hus, one_imm', List.length_map, Int.reduceLT, Int.reduceNeg, Int.reduceLE]
      refine VCall.of_contract (refsets_c ⟨2, d, a, b, k, base, size, n⟩) (SleL.pure rfl) fun r hr => ?_
      subst hr
      simp only [go_sem,Nat.reduceEqDiff,Nat.reduceAdd,Nat.reduceMul,↓reduceIte,↓dreduceIte,reduceCtorEq,Nat.reduceLeDiff,Nat.reduceLT,Nat.reduceSub,Int.reduceToNat,Int.reduceLE,Int.reduceLT, Int.reduceEq, Int.reduceBEq, setsL, SetsT, or_false, or_true, false_or, true_or, or_self, hus, one_imm', List.length_map, Int.reduceLT, Int.reduceNeg, Int.reduceLE, eq_true h0]
      refine VCall.of_contract (rwithin_c _ _) (SleL.pure rfl) fun r hr => ?_
      subst hr
      simp only [go_sem,Nat.reduceEqDiff,Nat.reduceAdd,Nat.reduceMul,↓reduceIte,↓dreduceIte,reduceCtorEq,Nat.reduceLeDiff,Nat.reduceLT,Nat.reduceSub,Int.reduceToNat,Int.reduceLE,Int.reduceLT, hd]
      exact ⟨_, Frz.pure rfl, rfl⟩
    · simp only [go_sem,Nat.reduceEqDiff,Nat.reduceAdd,Nat.reduceMul,↓reduceIte,↓dreduceIte,reduceCtorEq,Nat.reduceLeDiff,Nat.reduceLT,Nat.reduceSub,Int.reduceToNat,Int.reduceLE,Int.reduceLT, c_scref24_fits, Int.reduceEq, Int.reduceBEq, setsL, SetsT, or_false, or_true, false_or, true_or, or_self, hus, one_imm', List.length_map, Int.reduceLT, Int.reduceNeg, Int.reduceLE]
      refine VCall.of_contract (refsets_c ⟨2, d, a, b, k, base, size, n⟩) (SleL.pure rfl) fun r hr => ?_
      subst hr
      simp only [go_sem,Nat.reduceEqDiff,Nat.reduceAdd,Nat.reduceMul,↓reduceIte,↓dreduceIte,reduceCtorEq,Nat.reduceLeDiff,Nat.reduceLT,Nat.reduceSub,Int.reduceToNat,Int.reduceLE,Int.reduceLT, Int.reduceEq, Int.reduceBEq, setsL, SetsT, or_false, or_true, false_or, true_or, or_self, hus, one_imm', List.length_map, Int.reduceLT, Int.reduceNeg, Int.reduceLE, eq_false h0]
      refine VCall.of_contract (rwithin_c _ _) (SleL.pure rfl) fun r hr => ?_
      subst hr
      simp only [go_sem,Nat.reduceEqDiff,Nat.reduceAdd,Nat.reduceMul,↓reduceIte,↓dreduceIte,reduceCtorEq,Nat.reduceLeDiff,Nat.reduceLT,Nat.reduceSub,Int.reduceToNat,Int.reduceLE,Int.reduceLT, hd]
      exact ⟨_, Frz.pure rfl, rfl⟩
  have h0 := (of_decide_eq_true hd).1
  have h0' := (of_decide_eq_true hd).2
  simp only [go_sem,Nat.reduceEqDiff,Nat.reduceAdd,Nat.reduceMul,↓reduceIte,↓dreduceIte,reduceCtorEq,Nat.reduceLeDiff,Nat.reduceLT,Nat.reduceSub,Int.reduceToNat,Int.reduceLE,Int.reduceLT, c_scref24_fits, Int.reduceEq, Int.reduceBEq, setsL, SetsT, or_false, or_true, false_or, true_or, or_self, hus, one_imm', List.length_map, Int.reduceLT, Int.reduceNeg, Int.reduceLE]
  refine VCall.of_contract (refsets_c ⟨2, d, a, b, k, base, size, n⟩) (SleL.pure rfl) fun r hr => ?_
  subst hr
  simp only [go_sem,Nat.reduceEqDiff,Nat.reduceAdd,Nat.reduceMul,↓reduceIte,↓dreduceIte,reduceCtorEq,Nat.reduceLeDiff,Nat.reduceLT,Nat.reduceSub,Int.reduceToNat,Int.reduceLE,Int.reduceLT, Int.reduceEq, Int.reduceBEq, setsL, SetsT, or_false, or_true, false_or, true_or, or_self, hus, one_imm', List.length_map, Int.reduceLT, Int.reduceNeg, Int.reduceLE, eq_true h0]
  refine VCall.of_contract (rwithin_c _ _) (SleL.pure rfl) fun r hr => ?_
  subst hr
  simp only [go_sem,Nat.reduceEqDiff,Nat.reduceAdd,Nat.reduceMul,↓reduceIte,↓dreduceIte,reduceCtorEq,Nat.reduceLeDiff,Nat.reduceLT,Nat.reduceSub,Int.reduceToNat,Int.reduceLE,Int.reduceLT, Int.reduceEq, Int.reduceBEq, setsL, SetsT, or_false, or_true, false_or, true_or, or_self, hus, one_imm', List.length_map, Int.reduceLT, Int.reduceNeg, Int.reduceLE, hd]
  refine VCall.of_contractN (refuses_c ⟨2, d, a, b, k, base, size, n⟩) ?_ fun r hr => ?_
  · exact ⟨_, _, rfl, Frz.pure rfl, rfl⟩
  subst hr
  simp only [go_sem,Nat.reduceEqDiff,Nat.reduceAdd,Nat.reduceMul,↓reduceIte,↓dreduceIte,reduceCtorEq,Nat.reduceLeDiff,Nat.reduceLT,Nat.reduceSub,Int.reduceToNat,Int.reduceLE,Int.reduceLT, Int.reduceEq, Int.reduceBEq, setsL, SetsT, or_false, or_true, false_or, true_or, or_self, hus, one_imm', List.length_map, Int.reduceLT, Int.reduceNeg, Int.reduceLE]
  refine VW_loop (fun i : Nat => ⟨[(1, I f), (2, I regs), (3, I words), (4, .ptr 0 0 0), (9, .ptr 1 1 0), (10, ints [a]), (11, I i)], [⟨0, 57, 1, tacL ⟨2, d, a, b, k, base, size, n⟩⟩, ⟨1, 57, 1, [I 2, I d, I 0, I 0, I 0, I 0, I 0, U32 0]⟩], 2⟩)
    (fun i => i ≤ 1 ∧ ∀ j < i, inB (([a] : List Int).getD j default) regs = true) (fun i => 1 - i) 0 (Wk.mk (by simp [get_cons]) ⟨[], rfl⟩ (Nat.le_refl _)) ⟨by omega, by omega⟩ ?_
  rintro i ⟨hi, hin⟩
  by_cases hi0 : i = 0
  · subst hi0
    simp only [go_sem,Nat.reduceEqDiff,Nat.reduceAdd,Nat.reduceMul,↓reduceIte,↓dreduceIte,reduceCtorEq,Nat.reduceLeDiff,Nat.reduceLT,Nat.reduceSub,Int.reduceToNat,Int.reduceLE,Int.reduceLT, Int.reduceEq, Int.reduceBEq, setsL, SetsT, or_false, or_true, false_or, true_or, or_self, hus, one_imm', List.length_map, Int.reduceLT, Int.reduceNeg, Int.reduceLE, Int.cast_ofNat_Int, Nat.cast_zero', Nat.cast_one']
    refine VCall.of_contract (rwithin_c _ _) (SleL.pure rfl) fun r hr => ?_
    subst hr
    cases hu : inB a regs
    · simp only [go_sem,Nat.reduceEqDiff,Nat.reduceAdd,Nat.reduceMul,↓reduceIte,↓dreduceIte,reduceCtorEq,Nat.reduceLeDiff,Nat.reduceLT,Nat.reduceSub,Int.reduceToNat,Int.reduceLE,Int.reduceLT, hu]
      refine ⟨_, Frz.pure rfl, ?_⟩
      have h2 := of_decide_eq_false hu
      cases x
      · rfl
      · have := hX.1 rfl; omega
    · simp only [go_sem,Nat.reduceEqDiff,Nat.reduceAdd,Nat.reduceMul,↓reduceIte,↓dreduceIte,reduceCtorEq,Nat.reduceLeDiff,Nat.reduceLT,Nat.reduceSub,Int.reduceToNat,Int.reduceLE,Int.reduceLT, hu, i64_lit1, i64_lit2]
      refine ⟨1, ⟨by omega, fun j hj => ?_⟩, by omega, Wk.mk (by simp [get_cons]) ⟨[], rfl⟩ (Nat.le_refl _)⟩
      by_cases e : j = 0
      · subst e; exact hu
      · exact hin j (by omega)
  obtain rfl : i = 1 := by omega
  have hu0 := of_decide_eq_true (hin 0 (by omega))
  simp only [List.getD_cons_zero, List.getD_cons_succ] at hu0
  simp only [go_sem,Nat.reduceEqDiff,Nat.reduceAdd,Nat.reduceMul,↓reduceIte,↓dreduceIte,reduceCtorEq,Nat.reduceLeDiff,Nat.reduceLT,Nat.reduceSub,Int.reduceToNat,Int.reduceLE,Int.reduceLT, Int.reduceEq, Int.reduceBEq, setsL, SetsT, or_false, or_true, false_or, true_or, or_self, hus, one_imm', List.length_map, Int.reduceLT, Int.reduceNeg, Int.reduceLE, Int.cast_ofNat_Int, Nat.cast_zero', Nat.cast_one']
  have hwr : 1 ≤ size → size ≤ 4096 → IntKind.i64.wrap (words - size) = words - size := fun h1 h2 => i64_in (by omega) (by omega)
  repeat' (first | (with_reducible apply And.intro) | (with_reducible intro _))
  all_goals
    refine ⟨_, Frz.pure rfl, ?_⟩
    try (rename_i h1 h2 h3 h4; rw [hwr (by omega) (by omega)] at h4)
    congr 2
    rw [Bool.eq_iff_iff, hX]
    simp only [Bool.and_eq_true, beq_iff_eq, true_and, and_true, Bool.false_eq_true, false_iff, not_and, and_imp]
    first | omega | (intros; omega)
theorem rfits_3 (d a b k base size n f regs words : Int) (hw : 0 ≤ words ∧ words ≤ 1048576) : Contract Try.prog 39 [tacA ⟨3, d, a, b, k, base, size, n⟩, I f, I regs, I words] (fun r => r = B (fitsT ⟨3, d, a, b, k, base, size, n⟩ f regs words)) := by
  refine Contract.of_call (VCall.of_body hmix f_scref24_fits (by simp) ?_)
  have hus : usesL ⟨3, d, a, b, k, base, size, n⟩ = [a, b] := by simp [usesL]
  obtain ⟨x, hx⟩ : ∃ x, fitsT ⟨3, d, a, b, k, base, size, n⟩ f regs words = x := ⟨_, rfl⟩
  rw [hx]
  have hX : (x = true ↔ FitsT ⟨3, d, a, b, k, base, size, n⟩ f regs words) := by rw [← hx]; exact decide_eq_true_iff
  simp only [FitsT, hus, restT, SetsT, Int.reduceEq, or_false, or_true, false_or, true_or, or_self, if_true, if_false, List.mem_cons, List.not_mem_nil, forall_eq_or_imp, forall_eq, false_implies, implies_true, true_and, and_true, Int.reduceLE, List.length_cons, List.length_nil, Nat.reduceAdd, Nat.reduceLeDiff, Nat.le_refl, forall_const, reduceCtorEq, Nat.zero_le] at hX
  cases hd : inB d regs
  · have hx0 : x = false := by
      cases x
      · rfl
      · have := hX.1 rfl; have h2 := of_decide_eq_false hd; omega
    subst hx0
    by_cases h0 : 0 ≤ d
    · simp only [go_sem,Nat.reduceEqDiff,Nat.reduceAdd,Nat.reduceMul,↓reduceIte,↓dreduceIte,reduceCtorEq,Nat.reduceLeDiff,Nat.reduceLT,Nat.reduceSub,Int.reduceToNat,Int.reduceLE,Int.reduceLT, c_scref24_fits, Int.reduceEq, Int.reduceBEq, setsL, SetsT, or_false, or_true, false_or, true_or, or_self, hus, one_imm', List.length_map, Int.reduceLT, Int.reduceNeg, Int.reduceLE]
      refine VCall.of_contract (refsets_c ⟨3, d, a, b, k, base, size, n⟩) (SleL.pure rfl) fun r hr => ?_
      subst hr
      simp only [go_sem,Nat.reduceEqDiff,Nat.reduceAdd,Nat.reduceMul,↓reduceIte,↓dreduceIte,reduceCtorEq,Nat.reduceLeDiff,Nat.reduceLT,Nat.reduceSub,Int.reduceToNat,Int.reduceLE,Int.reduceLT, Int.reduceEq, Int.reduceBEq, setsL, SetsT, or_false, or_true, false_or, true_or, or_self, hus, one_imm', List.length_map, Int.reduceLT, Int.reduceNeg, Int.reduceLE, eq_true h0]
      refine VCall.of_contract (rwithin_c _ _) (SleL.pure rfl) fun r hr => ?_
      subst hr
      simp only [go_sem,Nat.reduceEqDiff,Nat.reduceAdd,Nat.reduceMul,↓reduceIte,↓dreduceIte,reduceCtorEq,Nat.reduceLeDiff,Nat.reduceLT,Nat.reduceSub,Int.reduceToNat,Int.reduceLE,Int.reduceLT, hd]
      exact ⟨_, Frz.pure rfl, rfl⟩
    · simp only [go_sem,Nat.reduceEqDiff,Nat.reduceAdd,Nat.reduceMul,↓reduceIte,↓dreduceIte,reduceCtorEq,Nat.reduceLeDiff,Nat.reduceLT,Nat.reduceSub,Int.reduceToNat,Int.reduceLE,Int.reduceLT, c_scref24_fits, Int.reduceEq, Int.reduceBEq, setsL, SetsT, or_false, or_true, false_or, true_or, or_self, hus, one_imm', List.length_map, Int.reduceLT, Int.reduceNeg, Int.reduceLE]
      refine VCall.of_contract (refsets_c ⟨3, d, a, b, k, base, size, n⟩) (SleL.pure rfl) fun r hr => ?_
      subst hr
      simp only [go_sem,Nat.reduceEqDiff,Nat.reduceAdd,Nat.reduceMul,↓reduceIte,↓dreduceIte,reduceCtorEq,Nat.reduceLeDiff,Nat.reduceLT,Nat.reduceSub,Int.reduceToNat,Int.reduceLE,Int.reduceLT, Int.reduceEq, Int.reduceBEq, setsL, SetsT, or_false, or_true, false_or, true_or, or_self, hus, one_imm', List.length_map, Int.reduceLT, Int.reduceNeg, Int.reduceLE, eq_false h0]
      refine VCall.of_contract (rwithin_c _ _) (SleL.pure rfl) fun r hr => ?_
      subst hr
      simp only [go_sem,Nat.reduceEqDiff,Nat.reduceAdd,Nat.reduceMul,↓reduceIte,↓dreduceIte,reduceCtorEq,Nat.reduceLeDiff,Nat.reduceLT,Nat.reduceSub,Int.reduceToNat,Int.reduceLE,Int.reduceLT, hd]
      exact ⟨_, Frz.pure rfl, rfl⟩
  have h0 := (of_decide_eq_true hd).1
  have h0' := (of_decide_eq_true hd).2
  simp only [go_sem,Nat.reduceEqDiff,Nat.reduceAdd,Nat.reduceMul,↓reduceIte,↓dreduceIte,reduceCtorEq,Nat.reduceLeDiff,Nat.reduceLT,Nat.reduceSub,Int.reduceToNat,Int.reduceLE,Int.reduceLT, c_scref24_fits, Int.reduceEq, Int.reduceBEq, setsL, SetsT, or_false, or_true, false_or, true_or, or_self, hus, one_imm', List.length_map, Int.reduceLT, Int.reduceNeg, Int.reduceLE]
  refine VCall.of_contract (refsets_c ⟨3, d, a, b, k, base, size, n⟩) (SleL.pure rfl) fun r hr => ?_
  subst hr
  simp only [go_sem,Nat.reduceEqDiff,Nat.reduceAdd,Nat.reduceMul,↓reduceIte,↓dreduceIte,reduceCtorEq,Nat.reduceLeDiff,Nat.reduceLT,Nat.reduceSub,Int.reduceToNat,Int.reduceLE,Int.reduceLT, Int.reduceEq, Int.reduceBEq, setsL, SetsT, or_false, or_true, false_or, true_or, or_self, hus, one_imm', List.length_map, Int.reduceLT, Int.reduceNeg, Int.reduceLE, eq_true h0]
  refine VCall.of_contract (rwithin_c _ _) (SleL.pure rfl) fun r hr => ?_
  subst hr
  simp only [go_sem,Nat.reduceEqDiff,Nat.reduceAdd,Nat.reduceMul,↓reduceIte,↓dreduceIte,reduceCtorEq,Nat.reduceLeDiff,Nat.reduceLT,Nat.reduceSub,Int.reduceToNat,Int.reduceLE,Int.reduceLT, Int.reduceEq, Int.reduceBEq, setsL, SetsT, or_false, or_true, false_or, true_or, or_self, hus, one_imm', List.length_map, Int.reduceLT, Int.reduceNeg, Int.reduceLE, hd]
  refine VCall.of_contractN (refuses_c ⟨3, d, a, b, k, base, size, n⟩) ?_ fun r hr => ?_
  · exact ⟨_, _, rfl, Frz.pure rfl, rfl⟩
  subst hr
  simp only [go_sem,Nat.reduceEqDiff,Nat.reduceAdd,Nat.reduceMul,↓reduceIte,↓dreduceIte,reduceCtorEq,Nat.reduceLeDiff,Nat.reduceLT,Nat.reduceSub,Int.reduceToNat,Int.reduceLE,Int.reduceLT, Int.reduceEq, Int.reduceBEq, setsL, SetsT, or_false, or_true, false_or, true_or, or_self, hus, one_imm', List.length_map, Int.reduceLT, Int.reduceNeg, Int.reduceLE]
  refine VW_loop (fun i : Nat => ⟨[(1, I f), (2, I regs), (3, I words), (4, .ptr 0 0 0), (9, .ptr 1 1 0), (10, ints [a, b]), (11, I i)], [⟨0, 57, 1, tacL ⟨3, d, a, b, k, base, size, n⟩⟩, ⟨1, 57, 1, [I 3, I d, I 0, I 0, I 0, I 0, I 0, U32 0]⟩], 2⟩)
    (fun i => i ≤ 2 ∧ ∀ j < i, inB (([a, b] : List Int).getD j default) regs = true) (fun i => 2 - i) 0 (Wk.mk (by simp [get_cons]) ⟨[], rfl⟩ (Nat.le_refl _)) ⟨by omega, by omega⟩ ?_
  rintro i ⟨hi, hin⟩
  by_cases hi0 : i = 0
  · subst hi0
    simp only [go_sem,Nat.reduceEqDiff,Nat.reduceAdd,Nat.reduceMul,↓reduceIte,↓dreduceIte,reduceCtorEq,Nat.reduceLeDiff,Nat.reduceLT,Nat.reduceSub,Int.reduceToNat,Int.reduceLE,Int.reduceLT, Int.reduceEq, Int.reduceBEq, setsL, SetsT, or_false, or_true, false_or, true_or, or_self, hus, one_imm', List.length_map, Int.reduceLT, Int.reduceNeg, Int.reduceLE, Int.cast_ofNat_Int, Nat.cast_zero', Nat.cast_one']
    refine VCall.of_contract (rwithin_c _ _) (SleL.pure rfl) fun r hr => ?_
    subst hr
    cases hu : inB a regs
    · simp only [go_sem,Nat.reduceEqDiff,Nat.reduceAdd,Nat.reduceMul,↓reduceIte,↓dreduceIte,reduceCtorEq,Nat.reduceLeDiff,Nat.reduceLT,Nat.reduceSub,Int.reduceToNat,Int.reduceLE,Int.reduceLT, hu]
      refine ⟨_, Frz.pure rfl, ?_⟩
      have h2 := of_decide_eq_false hu
      cases x
      · rfl
      · have := hX.1 rfl; omega
    · simp only [go_sem,Nat.reduceEqDiff,Nat.reduceAdd,Nat.reduceMul,↓reduceIte,↓dreduceIte,reduceCtorEq,Nat.reduceLeDiff,Nat.reduceLT,Nat.reduceSub,Int.reduceToNat,Int.reduceLE,Int.reduceLT, hu, i64_lit1, i64_lit2]
      refine ⟨1, ⟨by omega, fun j hj => ?_⟩, by omega, Wk.mk (by simp [get_cons]) ⟨[], rfl⟩ (Nat.le_refl _)⟩
      by_cases e : j = 0
      · subst e; exact hu
      · exact hin j (by omega)
  by_cases hi1 : i = 1
  · subst hi1
    simp only [go_sem,Nat.reduceEqDiff,Nat.reduceAdd,Nat.reduceMul,↓reduceIte,↓dreduceIte,reduceCtorEq,Nat.reduceLeDiff,Nat.reduceLT,Nat.reduceSub,Int.reduceToNat,Int.reduceLE,Int.reduceLT, Int.reduceEq, Int.reduceBEq, setsL, SetsT, or_false, or_true, false_or, true_or, or_self, hus, one_imm', List.length_map, Int.reduceLT, Int.reduceNeg, Int.reduceLE, Int.cast_ofNat_Int, Nat.cast_zero', Nat.cast_one']
    refine VCall.of_contract (rwithin_c _ _) (SleL.pure rfl) fun r hr => ?_
    subst hr
    cases hu : inB b regs
    · simp only [go_sem,Nat.reduceEqDiff,Nat.reduceAdd,Nat.reduceMul,↓reduceIte,↓dreduceIte,reduceCtorEq,Nat.reduceLeDiff,Nat.reduceLT,Nat.reduceSub,Int.reduceToNat,Int.reduceLE,Int.reduceLT, hu]
      refine ⟨_, Frz.pure rfl, ?_⟩
      have h2 := of_decide_eq_false hu
      cases x
      · rfl
      · have := hX.1 rfl; omega
    · simp only [go_sem,Nat.reduceEqDiff,Nat.reduceAdd,Nat.reduceMul,↓reduceIte,↓dreduceIte,reduceCtorEq,Nat.reduceLeDiff,Nat.reduceLT,Nat.reduceSub,Int.reduceToNat,Int.reduceLE,Int.reduceLT, hu, i64_lit1, i64_lit2]
      refine ⟨2, ⟨by omega, fun j hj => ?_⟩, by omega, Wk.mk (by simp [get_cons]) ⟨[], rfl⟩ (Nat.le_refl _)⟩
      by_cases e : j = 1
      · subst e; exact hu
      · exact hin j (by omega)
  obtain rfl : i = 2 := by omega
  have hu0 := of_decide_eq_true (hin 0 (by omega))
  simp only [List.getD_cons_zero, List.getD_cons_succ] at hu0
  have hu1 := of_decide_eq_true (hin 1 (by omega))
  simp only [List.getD_cons_zero, List.getD_cons_succ] at hu1
  simp only [go_sem,Nat.reduceEqDiff,Nat.reduceAdd,Nat.reduceMul,↓reduceIte,↓dreduceIte,reduceCtorEq,Nat.reduceLeDiff,Nat.reduceLT,Nat.reduceSub,Int.reduceToNat,Int.reduceLE,Int.reduceLT, Int.reduceEq, Int.reduceBEq, setsL, SetsT, or_false, or_true, false_or, true_or, or_self, hus, one_imm', List.length_map, Int.reduceLT, Int.reduceNeg, Int.reduceLE, Int.cast_ofNat_Int, Nat.cast_zero', Nat.cast_one']
  have hwr : 1 ≤ size → size ≤ 4096 → IntKind.i64.wrap (words - size) = words - size := fun h1 h2 => i64_in (by omega) (by omega)
  repeat' (first | (with_reducible apply And.intro) | (with_reducible intro _))
  all_goals
    refine ⟨_, Frz.pure rfl, ?_⟩
    try (rename_i h1 h2 h3 h4; rw [hwr (by omega) (by omega)] at h4)
    congr 2
    rw [Bool.eq_iff_iff, hX]
    simp only [Bool.and_eq_true, beq_iff_eq, true_and, and_true, Bool.false_eq_true, false_iff, not_and, and_imp]
    first | omega | (intros; omega)
theorem rfits_4 (d a b k base size n f regs words : Int) (hw : 0 ≤ words ∧ words ≤ 1048576) : Contract Try.prog 39 [tacA ⟨4, d, a, b, k, base, size, n⟩, I f, I regs, I words] (fun r => r = B (fitsT ⟨4, d, a, b, k, base, size, n⟩ f regs words)) := by
  refine Contract.of_call (VCall.of_body hmix f_scref24_fits (by simp) ?_)
  have hus : usesL ⟨4, d, a, b, k, base, size, n⟩ = [] := by simp [usesL]
  obtain ⟨x, hx⟩ : ∃ x, fitsT ⟨4, d, a, b, k, base, size, n⟩ f regs words = x := ⟨_, rfl⟩
  rw [hx]
  have hX : (x = true ↔ FitsT ⟨4, d, a, b, k, base, size, n⟩ f regs words) := by rw [← hx]; exact decide_eq_true_iff
  simp only [FitsT, hus, restT, SetsT, Int.reduceEq, or_false, or_true, false_or, true_or, or_self, if_true, if_false, List.mem_cons, List.not_mem_nil, forall_eq_or_imp, forall_eq, false_implies, implies_true, true_and, and_true, Int.reduceLE, List.length_cons, List.length_nil, Nat.reduceAdd, Nat.reduceLeDiff, Nat.le_refl, forall_const, reduceCtorEq, Nat.zero_le] at hX
  cases hd : inB d regs
  · have hx0 : x = false := by
      cases x
      · rfl
      · have := hX.1 rfl; have h2 := of_decide_eq_false hd; omega
    subst hx0
    by_cases h0 : 0 ≤ d
    · simp only [go_sem,Nat.reduceEqDiff,Nat.reduceAdd,Nat.reduceMul,↓reduceIte,↓dreduceIte,reduceCtorEq,Nat.reduceLeDiff,Nat.reduceLT,Nat.reduceSub,Int.reduceToNat,Int.reduceLE,Int.reduceLT, c_scref24_fits, Int.reduceEq, Int.reduceBEq, setsL, SetsT, or_false, or_true, false_or, true_or, or_self, hus, one_imm', List.length_map, Int.reduceLT, Int.reduceNeg, Int.reduceLE]
      refine VCall.of_contract (refsets_c ⟨4, d, a, b, k, base, size, n⟩) (SleL.pure rfl) fun r hr => ?_
      subst hr
      simp only [go_sem,Nat.reduceEqDiff,Nat.reduceAdd,Nat.reduceMul,↓reduceIte,↓dreduceIte,reduceCtorEq,Nat.reduceLeDiff,Nat.reduceLT,Nat.reduceSub,Int.reduceToNat,Int.reduceLE,Int.reduceLT, Int.reduceEq, Int.reduceBEq, setsL, SetsT, or_false, or_true, false_or, true_or, or_self, hus, one_imm', List.length_map, Int.reduceLT, Int.reduceNeg, Int.reduceLE, eq_true h0]
      refine VCall.of_contract (rwithin_c _ _) (SleL.pure rfl) fun r hr => ?_
      subst hr
      simp only [go_sem,Nat.reduceEqDiff,Nat.reduceAdd,Nat.reduceMul,↓reduceIte,↓dreduceIte,reduceCtorEq,Nat.reduceLeDiff,Nat.reduceLT,Nat.reduceSub,Int.reduceToNat,Int.reduceLE,Int.reduceLT, hd]
      exact ⟨_, Frz.pure rfl, rfl⟩
    · simp only [go_sem,Nat.reduceEqDiff,Nat.reduceAdd,Nat.reduceMul,↓reduceIte,↓dreduceIte,reduceCtorEq,Nat.reduceLeDiff,Nat.reduceLT,Nat.reduceSub,Int.reduceToNat,Int.reduceLE,Int.reduceLT, c_scref24_fits, Int.reduceEq, Int.reduceBEq, setsL, SetsT, or_false, or_true, false_or, true_or, or_self, hus, one_imm', List.length_map, Int.reduceLT, Int.reduceNeg, Int.reduceLE]
      refine VCall.of_contract (refsets_c ⟨4, d, a, b, k, base, size, n⟩) (SleL.pure rfl) fun r hr => ?_
      subst hr
      simp only [go_sem,Nat.reduceEqDiff,Nat.reduceAdd,Nat.reduceMul,↓reduceIte,↓dreduceIte,reduceCtorEq,Nat.reduceLeDiff,Nat.reduceLT,Nat.reduceSub,Int.reduceToNat,Int.reduceLE,Int.reduceLT, Int.reduceEq, Int.reduceBEq, setsL, SetsT, or_false, or_true, false_or, true_or, or_self, hus, one_imm', List.length_map, Int.reduceLT, Int.reduceNeg, Int.reduceLE, eq_false h0]
      refine VCall.of_contract (rwithin_c _ _) (SleL.pure rfl) fun r hr => ?_
      subst hr
      simp only [go_sem,Nat.reduceEqDiff,Nat.reduceAdd,Nat.reduceMul,↓reduceIte,↓dreduceIte,reduceCtorEq,Nat.reduceLeDiff,Nat.reduceLT,Nat.reduceSub,Int.reduceToNat,Int.reduceLE,Int.reduceLT, hd]
      exact ⟨_, Frz.pure rfl, rfl⟩
  have h0 := (of_decide_eq_true hd).1
  have h0' := (of_decide_eq_true hd).2
  simp only [go_sem,Nat.reduceEqDiff,Nat.reduceAdd,Nat.reduceMul,↓reduceIte,↓dreduceIte,reduceCtorEq,Nat.reduceLeDiff,Nat.reduceLT,Nat.reduceSub,Int.reduceToNat,Int.reduceLE,Int.reduceLT, c_scref24_fits, Int.reduceEq, Int.reduceBEq, setsL, SetsT, or_false, or_true, false_or, true_or, or_self, hus, one_imm', List.length_map, Int.reduceLT, Int.reduceNeg, Int.reduceLE]
  refine VCall.of_contract (refsets_c ⟨4, d, a, b, k, base, size, n⟩) (SleL.pure rfl) fun r hr => ?_
  subst hr
  simp only [go_sem,Nat.reduceEqDiff,Nat.reduceAdd,Nat.reduceMul,↓reduceIte,↓dreduceIte,reduceCtorEq,Nat.reduceLeDiff,Nat.reduceLT,Nat.reduceSub,Int.reduceToNat,Int.reduceLE,Int.reduceLT, Int.reduceEq, Int.reduceBEq, setsL, SetsT, or_false, or_true, false_or, true_or, or_self, hus, one_imm', List.length_map, Int.reduceLT, Int.reduceNeg, Int.reduceLE, eq_true h0]
  refine VCall.of_contract (rwithin_c _ _) (SleL.pure rfl) fun r hr => ?_
  subst hr
  simp only [go_sem,Nat.reduceEqDiff,Nat.reduceAdd,Nat.reduceMul,↓reduceIte,↓dreduceIte,reduceCtorEq,Nat.reduceLeDiff,Nat.reduceLT,Nat.reduceSub,Int.reduceToNat,Int.reduceLE,Int.reduceLT, Int.reduceEq, Int.reduceBEq, setsL, SetsT, or_false, or_true, false_or, true_or, or_self, hus, one_imm', List.length_map, Int.reduceLT, Int.reduceNeg, Int.reduceLE, hd]
  refine VCall.of_contractN (refuses_c ⟨4, d, a, b, k, base, size, n⟩) ?_ fun r hr => ?_
  · exact ⟨_, _, rfl, Frz.pure rfl, rfl⟩
  subst hr
  simp only [go_sem,Nat.reduceEqDiff,Nat.reduceAdd,Nat.reduceMul,↓reduceIte,↓dreduceIte,reduceCtorEq,Nat.reduceLeDiff,Nat.reduceLT,Nat.reduceSub,Int.reduceToNat,Int.reduceLE,Int.reduceLT, Int.reduceEq, Int.reduceBEq, setsL, SetsT, or_false, or_true, false_or, true_or, or_self, hus, one_imm', List.length_map, Int.reduceLT, Int.reduceNeg, Int.reduceLE]
  refine VW_loop (fun i : Nat => ⟨[(1, I f), (2, I regs), (3, I words), (4, .ptr 0 0 0), (9, .ptr 1 1 0), (10, ints []), (11, I i)], [⟨0, 57, 1, tacL ⟨4, d, a, b, k, base, size, n⟩⟩, ⟨1, 57, 1, [I 4, I d, I 0, I 0, I 0, I 0, I 0, U32 0]⟩], 2⟩)
    (fun i => i ≤ 0 ∧ ∀ j < i, inB (([] : List Int).getD j default) regs = true) (fun i => 0 - i) 0 (Wk.mk (by simp [get_cons]) ⟨[], rfl⟩ (Nat.le_refl _)) ⟨by omega, by omega⟩ ?_
  rintro i ⟨hi, hin⟩
  obtain rfl : i = 0 := by omega
  simp only [go_sem,Nat.reduceEqDiff,Nat.reduceAdd,Nat.reduceMul,↓reduceIte,↓dreduceIte,reduceCtorEq,Nat.reduceLeDiff,Nat.reduceLT,Nat.reduceSub,Int.reduceToNat,Int.reduceLE,Int.reduceLT, Int.reduceEq, Int.reduceBEq, setsL, SetsT, or_false, or_true, false_or, true_or, or_self, hus, one_imm', List.length_map, Int.reduceLT, Int.reduceNeg, Int.reduceLE, Int.cast_ofNat_Int, Nat.cast_zero', Nat.cast_one']
  refine VCall.of_contract (rwithin_c _ _) (SleL.pure rfl) fun r hr => ?_
  subst hr
  cases hb : inB base words
  · have hb' := of_decide_eq_false hb
    simp only [go_sem,Nat.reduceEqDiff,Nat.reduceAdd,Nat.reduceMul,↓reduceIte,↓dreduceIte,reduceCtorEq,Nat.reduceLeDiff,Nat.reduceLT,Nat.reduceSub,Int.reduceToNat,Int.reduceLE,Int.reduceLT, hb]
    refine ⟨_, Frz.pure rfl, ?_⟩
    congr 2
    rw [Bool.eq_iff_iff, hX]
    simp only [Bool.and_eq_true, beq_iff_eq, true_and, and_true, Bool.false_eq_true, false_iff, not_and, and_imp]
    first | omega | (intros; omega)
  · have hb' := of_decide_eq_true hb
    simp only [go_sem,Nat.reduceEqDiff,Nat.reduceAdd,Nat.reduceMul,↓reduceIte,↓dreduceIte,reduceCtorEq,Nat.reduceLeDiff,Nat.reduceLT,Nat.reduceSub,Int.reduceToNat,Int.reduceLE,Int.reduceLT, hb]
    refine ⟨_, Frz.pure rfl, ?_⟩
    congr 2
    rw [Bool.eq_iff_iff, hX]
    simp only [Bool.and_eq_true, beq_iff_eq, true_and, and_true, Bool.false_eq_true, false_iff, not_and, and_imp]
    first | omega | (intros; omega)
theorem rfits_5 (d a b k base size n f regs words : Int) (hw : 0 ≤ words ∧ words ≤ 1048576) : Contract Try.prog 39 [tacA ⟨5, d, a, b, k, base, size, n⟩, I f, I regs, I words] (fun r => r = B (fitsT ⟨5, d, a, b, k, base, size, n⟩ f regs words)) := by
  refine Contract.of_call (VCall.of_body hmix f_scref24_fits (by simp) ?_)
  have hus : usesL ⟨5, d, a, b, k, base, size, n⟩ = [a] := by simp [usesL]
  obtain ⟨x, hx⟩ : ∃ x, fitsT ⟨5, d, a, b, k, base, size, n⟩ f regs words = x := ⟨_, rfl⟩
  rw [hx]
  have hX : (x = true ↔ FitsT ⟨5, d, a, b, k, base, size, n⟩ f regs words) := by rw [← hx]; exact decide_eq_true_iff
  simp only [FitsT, hus, restT, SetsT, Int.reduceEq, or_false, or_true, false_or, true_or, or_self, if_true, if_false, List.mem_cons, List.not_mem_nil, forall_eq_or_imp, forall_eq, false_implies, implies_true, true_and, and_true, Int.reduceLE, List.length_cons, List.length_nil, Nat.reduceAdd, Nat.reduceLeDiff, Nat.le_refl, forall_const, reduceCtorEq, Nat.zero_le] at hX
  simp only [go_sem,Nat.reduceEqDiff,Nat.reduceAdd,Nat.reduceMul,↓reduceIte,↓dreduceIte,reduceCtorEq,Nat.reduceLeDiff,Nat.reduceLT,Nat.reduceSub,Int.reduceToNat,Int.reduceLE,Int.reduceLT, c_scref24_fits, Int.reduceEq, Int.reduceBEq, setsL, SetsT, or_false, or_true, false_or, true_or, or_self, hus, one_imm', List.length_map, Int.reduceLT, Int.reduceNeg, Int.reduceLE]
  refine VCall.of_contract (refsets_c ⟨5, d, a, b, k, base, size, n⟩) (SleL.pure rfl) fun r hr => ?_
  subst hr
  simp only [go_sem,Nat.reduceEqDiff,Nat.reduceAdd,Nat.reduceMul,↓reduceIte,↓dreduceIte,reduceCtorEq,Nat.reduceLeDiff,Nat.reduceLT,Nat.reduceSub,Int.reduceToNat,Int.reduceLE,Int.reduceLT, Int.reduceEq, Int.reduceBEq, setsL, SetsT, or_false, or_true, false_or, true_or, or_self, hus, one_imm', List.length_map, Int.reduceLT, Int.reduceNeg, Int.reduceLE]
  refine VCall.of_contractN (refuses_c ⟨5, d, a, b, k, base, size, n⟩) ?_ fun r hr => ?_
  · exact ⟨_, _, rfl, Frz.pure rfl, rfl⟩
  subst hr
  simp only [go_sem,Nat.reduceEqDiff,Nat.reduceAdd,Nat.reduceMul,↓reduceIte,↓dreduceIte,reduceCtorEq,Nat.reduceLeDiff,Nat.reduceLT,Nat.reduceSub,Int.reduceToNat,Int.reduceLE,Int.reduceLT, Int.reduceEq, Int.reduceBEq, setsL, SetsT, or_false, or_true, false_or, true_or, or_self, hus, one_imm', List.length_map, Int.reduceLT, Int.reduceNeg, Int.reduceLE]
  refine VW_loop (fun i : Nat => ⟨[(1, I f), (2, I regs), (3, I words), (4, .ptr 0 0 0), (9, .ptr 1 1 0), (10, ints [a]), (11, I i)], [⟨0, 57, 1, tacL ⟨5, d, a, b, k, base, size, n⟩⟩, ⟨1, 57, 1, [I 5, I 0, I 0, I 0, I 0, I 0, I 0, U32 0]⟩], 2⟩)
    (fun i => i ≤ 1 ∧ ∀ j < i, inB (([a] : List Int).getD j default) regs = true) (fun i => 1 - i) 0 (Wk.mk (by simp [get_cons]) ⟨[], rfl⟩ (Nat.le_refl _)) ⟨by omega, by omega⟩ ?_
  rintro i ⟨hi, hin⟩
  by_cases hi0 : i = 0
  · subst hi0
    simp only [go_sem,Nat.reduceEqDiff,Nat.reduceAdd,Nat.reduceMul,↓reduceIte,↓dreduceIte,reduceCtorEq,Nat.reduceLeDiff,Nat.reduceLT,Nat.reduceSub,Int.reduceToNat,Int.reduceLE,Int.reduceLT, Int.reduceEq, Int.reduceBEq, setsL, SetsT, or_false, or_true, false_or, true_or, or_self, hus, one_imm', List.length_map, Int.reduceLT, Int.reduceNeg, Int.reduceLE, Int.cast_ofNat_Int, Nat.cast_zero', Nat.cast_one']
    refine VCall.of_contract (rwithin_c _ _) (SleL.pure rfl) fun r hr => ?_
    subst hr
    cases hu : inB a regs
    · simp only [go_sem,Nat.reduceEqDiff,Nat.reduceAdd,Nat.reduceMul,↓reduceIte,↓dreduceIte,reduceCtorEq,Nat.reduceLeDiff,Nat.reduceLT,Nat.reduceSub,Int.reduceToNat,Int.reduceLE,Int.reduceLT, hu]
      refine ⟨_, Frz.pure rfl, ?_⟩
      have h2 := of_decide_eq_false hu
      cases x
      · rfl
      · have := hX.1 rfl; omega
    · simp only [go_sem,Nat.reduceEqDiff,Nat.reduceAdd,Nat.reduceMul,↓reduceIte,↓dreduceIte,reduceCtorEq,Nat.reduceLeDiff,Nat.reduceLT,Nat.reduceSub,Int.reduceToNat,Int.reduceLE,Int.reduceLT, hu, i64_lit1, i64_lit2]
      refine ⟨1, ⟨by omega, fun j hj => ?_⟩, by omega, Wk.mk (by simp [get_cons]) ⟨[], rfl⟩ (Nat.le_refl _)⟩
      by_cases e : j = 0
      · subst e; exact hu
      · exact hin j (by omega)
  obtain rfl : i = 1 := by omega
  have hu0 := of_decide_eq_true (hin 0 (by omega))
  simp only [List.getD_cons_zero, List.getD_cons_succ] at hu0
  simp only [go_sem,Nat.reduceEqDiff,Nat.reduceAdd,Nat.reduceMul,↓reduceIte,↓dreduceIte,reduceCtorEq,Nat.reduceLeDiff,Nat.reduceLT,Nat.reduceSub,Int.reduceToNat,Int.reduceLE,Int.reduceLT, Int.reduceEq, Int.reduceBEq, setsL, SetsT, or_false, or_true, false_or, true_or, or_self, hus, one_imm', List.length_map, Int.reduceLT, Int.reduceNeg, Int.reduceLE, Int.cast_ofNat_Int, Nat.cast_zero', Nat.cast_one']
  refine VCall.of_contract (rwithin_c _ _) (SleL.pure rfl) fun r hr => ?_
  subst hr
  cases hb : inB base words
  · have hb' := of_decide_eq_false hb
    simp only [go_sem,Nat.reduceEqDiff,Nat.reduceAdd,Nat.reduceMul,↓reduceIte,↓dreduceIte,reduceCtorEq,Nat.reduceLeDiff,Nat.reduceLT,Nat.reduceSub,Int.reduceToNat,Int.reduceLE,Int.reduceLT, hb]
    refine ⟨_, Frz.pure rfl, ?_⟩
    congr 2
    rw [Bool.eq_iff_iff, hX]
    simp only [Bool.and_eq_true, beq_iff_eq, true_and, and_true, Bool.false_eq_true, false_iff, not_and, and_imp]
    first | omega | (intros; omega)
  · have hb' := of_decide_eq_true hb
    simp only [go_sem,Nat.reduceEqDiff,Nat.reduceAdd,Nat.reduceMul,↓reduceIte,↓dreduceIte,reduceCtorEq,Nat.reduceLeDiff,Nat.reduceLT,Nat.reduceSub,Int.reduceToNat,Int.reduceLE,Int.reduceLT, hb]
    refine ⟨_, Frz.pure rfl, ?_⟩
    congr 2
    rw [Bool.eq_iff_iff, hX]
    simp only [Bool.and_eq_true, beq_iff_eq, true_and, and_true, Bool.false_eq_true, false_iff, not_and, and_imp]
    first | omega | (intros; omega)
theorem rfits_6 (d a b k base size n f regs words : Int) (hw : 0 ≤ words ∧ words ≤ 1048576) : Contract Try.prog 39 [tacA ⟨6, d, a, b, k, base, size, n⟩, I f, I regs, I words] (fun r => r = B (fitsT ⟨6, d, a, b, k, base, size, n⟩ f regs words)) := by
  refine Contract.of_call (VCall.of_body hmix f_scref24_fits (by simp) ?_)
  have hus : usesL ⟨6, d, a, b, k, base, size, n⟩ = [a] := by simp [usesL]
  obtain ⟨x, hx⟩ : ∃ x, fitsT ⟨6, d, a, b, k, base, size, n⟩ f regs words = x := ⟨_, rfl⟩
  rw [hx]
  have hX : (x = true ↔ FitsT ⟨6, d, a, b, k, base, size, n⟩ f regs words) := by rw [← hx]; exact decide_eq_true_iff
  simp only [FitsT, hus, restT, SetsT, Int.reduceEq, or_false, or_true, false_or, true_or, or_self, if_true, if_false, List.mem_cons, List.not_mem_nil, forall_eq_or_imp, forall_eq, false_implies, implies_true, true_and, and_true, Int.reduceLE, List.length_cons, List.length_nil, Nat.reduceAdd, Nat.reduceLeDiff, Nat.le_refl, forall_const, reduceCtorEq, Nat.zero_le] at hX
  cases hd : inB d regs
  · have hx0 : x = false := by
      cases x
      · rfl
      · have := hX.1 rfl; have h2 := of_decide_eq_false hd; omega
    subst hx0
    by_cases h0 : 0 ≤ d
    · simp only [go_sem,Nat.reduceEqDiff,Nat.reduceAdd,Nat.reduceMul,↓reduceIte,↓dreduceIte,reduceCtorEq,Nat.reduceLeDiff,Nat.reduceLT,Nat.reduceSub,Int.reduceToNat,Int.reduceLE,Int.reduceLT, c_scref24_fits, Int.reduceEq, Int.reduceBEq, setsL, SetsT, or_false, or_true, false_or, true_or, or_self, hus, one_imm', List.length_map, Int.reduceLT, Int.reduceNeg, Int.reduceLE]
      refine VCall.of_contract (refsets_c ⟨6, d, a, b, k, base, size, n⟩) (SleL.pure rfl) fun r hr => ?_
      subst hr
      simp only [go_sem,Nat.reduceEqDiff,Nat.reduceAdd,Nat.reduceMul,↓reduceIte,↓dreduceIte,reduceCtorEq,Nat.reduceLeDiff,Nat.reduceLT,Nat.reduceSub,Int.reduceToNat,Int.reduceLE,Int.reduceLT, Int.reduceEq, Int.reduceBEq, setsL, SetsT, or_false, or_true, false_or, true_or, or_self, hus, one_imm', List.length_map, Int.reduceLT, Int.reduceNeg, Int.reduceLE, eq_true h0]
      refine VCall.of_contract (rwithin_c _ _) (SleL.pure rfl) fun r hr => ?_
      subst hr
      simp only [go_sem,Nat.reduceEqDiff,Nat.reduceAdd,Nat.reduceMul,↓reduceIte,↓dreduceIte,reduceCtorEq,Nat.reduceLeDiff,Nat.reduceLT,Nat.reduceSub,Int.reduceToNat,Int.reduceLE,Int.reduceLT, hd]
      exact ⟨_, Frz.pure rfl, rfl⟩
    · simp only [go_sem,Nat.reduceEqDiff,Nat.reduceAdd,Nat.reduceMul,↓reduceIte,↓dreduceIte,reduceCtorEq,Nat.reduceLeDiff,Nat.reduceLT,Nat.reduceSub,Int.reduceToNat,Int.reduceLE,Int.reduceLT, c_scref24_fits, Int.reduceEq, Int.reduceBEq, setsL, SetsT, or_false, or_true, false_or, true_or, or_self, hus, one_imm', List.length_map, Int.reduceLT, Int.reduceNeg, Int.reduceLE]
      refine VCall.of_contract (refsets_c ⟨6, d, a, b, k, base, size, n⟩) (SleL.pure rfl) fun r hr => ?_
      subst hr
      simp only [go_sem,Nat.reduceEqDiff,Nat.reduceAdd,Nat.reduceMul,↓reduceIte,↓dreduceIte,reduceCtorEq,Nat.reduceLeDiff,Nat.reduceLT,Nat.reduceSub,Int.reduceToNat,Int.reduceLE,Int.reduceLT, Int.reduceEq, Int.reduceBEq, setsL, SetsT, or_false, or_true, false_or, true_or, or_self, hus, one_imm', List.length_map, Int.reduceLT, Int.reduceNeg, Int.reduceLE, eq_false h0]
      refine VCall.of_contract (rwithin_c _ _) (SleL.pure rfl) fun r hr => ?_
      subst hr
      simp only [go_sem,Nat.reduceEqDiff,Nat.reduceAdd,Nat.reduceMul,↓reduceIte,↓dreduceIte,reduceCtorEq,Nat.reduceLeDiff,Nat.reduceLT,Nat.reduceSub,Int.reduceToNat,Int.reduceLE,Int.reduceLT, hd]
      exact ⟨_, Frz.pure rfl, rfl⟩
  have h0 := (of_decide_eq_true hd).1
  have h0' := (of_decide_eq_true hd).2
  simp only [go_sem,Nat.reduceEqDiff,Nat.reduceAdd,Nat.reduceMul,↓reduceIte,↓dreduceIte,reduceCtorEq,Nat.reduceLeDiff,Nat.reduceLT,Nat.reduceSub,Int.reduceToNat,Int.reduceLE,Int.reduceLT, c_scref24_fits, Int.reduceEq, Int.reduceBEq, setsL, SetsT, or_false, or_true, false_or, true_or, or_self, hus, one_imm', List.length_map, Int.reduceLT, Int.reduceNeg, Int.reduceLE]
  refine VCall.of_contract (refsets_c ⟨6, d, a, b, k, base, size, n⟩) (SleL.pure rfl) fun r hr => ?_
  subst hr
  simp only [go_sem,Nat.reduceEqDiff,Nat.reduceAdd,Nat.reduceMul,↓reduceIte,↓dreduceIte,reduceCtorEq,Nat.reduceLeDiff,Nat.reduceLT,Nat.reduceSub,Int.reduceToNat,Int.reduceLE,Int.reduceLT, Int.reduceEq, Int.reduceBEq, setsL, SetsT, or_false, or_true, false_or, true_or, or_self, hus, one_imm', List.length_map, Int.reduceLT, Int.reduceNeg, Int.reduceLE, eq_true h0]
  refine VCall.of_contract (rwithin_c _ _) (SleL.pure rfl) fun r hr => ?_
  subst hr
  simp only [go_sem,Nat.reduceEqDiff,Nat.reduceAdd,Nat.reduceMul,↓reduceIte,↓dreduceIte,reduceCtorEq,Nat.reduceLeDiff,Nat.reduceLT,Nat.reduceSub,Int.reduceToNat,Int.reduceLE,Int.reduceLT, Int.reduceEq, Int.reduceBEq, setsL, SetsT, or_false, or_true, false_or, true_or, or_self, hus, one_imm', List.length_map, Int.reduceLT, Int.reduceNeg, Int.reduceLE, hd]
  refine VCall.of_contractN (refuses_c ⟨6, d, a, b, k, base, size, n⟩) ?_ fun r hr => ?_
  · exact ⟨_, _, rfl, Frz.pure rfl, rfl⟩
  subst hr
  simp only [go_sem,Nat.reduceEqDiff,Nat.reduceAdd,Nat.reduceMul,↓reduceIte,↓dreduceIte,reduceCtorEq,Nat.reduceLeDiff,Nat.reduceLT,Nat.reduceSub,Int.reduceToNat,Int.reduceLE,Int.reduceLT, Int.reduceEq, Int.reduceBEq, setsL, SetsT, or_false, or_true, false_or, true_or, or_self, hus, one_imm', List.length_map, Int.reduceLT, Int.reduceNeg, Int.reduceLE]
  refine VW_loop (fun i : Nat => ⟨[(1, I f), (2, I regs), (3, I words), (4, .ptr 0 0 0), (9, .ptr 1 1 0), (10, ints [a]), (11, I i)], [⟨0, 57, 1, tacL ⟨6, d, a, b, k, base, size, n⟩⟩, ⟨1, 57, 1, [I 6, I d, I 0, I 0, I 0, I 0, I 0, U32 0]⟩], 2⟩)
    (fun i => i ≤ 1 ∧ ∀ j < i, inB (([a] : List Int).getD j default) regs = true) (fun i => 1 - i) 0 (Wk.mk (by simp [get_cons]) ⟨[], rfl⟩ (Nat.le_refl _)) ⟨by omega, by omega⟩ ?_
  rintro i ⟨hi, hin⟩
  by_cases hi0 : i = 0
  · subst hi0
    simp only [go_sem,Nat.reduceEqDiff,Nat.reduceAdd,Nat.reduceMul,↓reduceIte,↓dreduceIte,reduceCtorEq,Nat.reduceLeDiff,Nat.reduceLT,Nat.reduceSub,Int.reduceToNat,Int.reduceLE,Int.reduceLT, Int.reduceEq, Int.reduceBEq, setsL, SetsT, or_false, or_true, false_or, true_or, or_self, hus, one_imm', List.length_map, Int.reduceLT, Int.reduceNeg, Int.reduceLE, Int.cast_ofNat_Int, Nat.cast_zero', Nat.cast_one']
    refine VCall.of_contract (rwithin_c _ _) (SleL.pure rfl) fun r hr => ?_
    subst hr
    cases hu : inB a regs
    · simp only [go_sem,Nat.reduceEqDiff,Nat.reduceAdd,Nat.reduceMul,↓reduceIte,↓dreduceIte,reduceCtorEq,Nat.reduceLeDiff,Nat.reduceLT,Nat.reduceSub,Int.reduceToNat,Int.reduceLE,Int.reduceLT, hu]
      refine ⟨_, Frz.pure rfl, ?_⟩
      have h2 := of_decide_eq_false hu
      cases x
      · rfl
      · have := hX.1 rfl; omega
    · simp only [go_sem,Nat.reduceEqDiff,Nat.reduceAdd,Nat.reduceMul,↓reduceIte,↓dreduceIte,reduceCtorEq,Nat.reduceLeDiff,Nat.reduceLT,Nat.reduceSub,Int.reduceToNat,Int.reduceLE,Int.reduceLT, hu, i64_lit1, i64_lit2]
      refine ⟨1, ⟨by omega, fun j hj => ?_⟩, by omega, Wk.mk (by simp [get_cons]) ⟨[], rfl⟩ (Nat.le_refl _)⟩
      by_cases e : j = 0
      · subst e; exact hu
      · exact hin j (by omega)
  obtain rfl : i = 1 := by omega
  have hu0 := of_decide_eq_true (hin 0 (by omega))
  simp only [List.getD_cons_zero, List.getD_cons_succ] at hu0
  simp only [go_sem,Nat.reduceEqDiff,Nat.reduceAdd,Nat.reduceMul,↓reduceIte,↓dreduceIte,reduceCtorEq,Nat.reduceLeDiff,Nat.reduceLT,Nat.reduceSub,Int.reduceToNat,Int.reduceLE,Int.reduceLT, Int.reduceEq, Int.reduceBEq, setsL, SetsT, or_false, or_true, false_or, true_or, or_self, hus, one_imm', List.length_map, Int.reduceLT, Int.reduceNeg, Int.reduceLE, Int.cast_ofNat_Int, Nat.cast_zero', Nat.cast_one']
  have hwr : 1 ≤ size → size ≤ 4096 → IntKind.i64.wrap (words - size) = words - size := fun h1 h2 => i64_in (by omega) (by omega)
  repeat' (first | (with_reducible apply And.intro) | (with_reducible intro _))
  all_goals
    refine ⟨_, Frz.pure rfl, ?_⟩
    try (rename_i h1 h2 h3 h4; rw [hwr (by omega) (by omega)] at h4)
    congr 2
    rw [Bool.eq_iff_iff, hX]
    simp only [Bool.and_eq_true, beq_iff_eq, true_and, and_true, Bool.false_eq_true, false_iff, not_and, and_imp]
    first | omega | (intros; omega)
theorem rfits_7 (d a b k base size n f regs words : Int) (hw : 0 ≤ words ∧ words ≤ 1048576) : Contract Try.prog 39 [tacA ⟨7, d, a, b, k, base, size, n⟩, I f, I regs, I words] (fun r => r = B (fitsT ⟨7, d, a, b, k, base, size, n⟩ f regs words)) := by
  refine Contract.of_call (VCall.of_body hmix f_scref24_fits (by simp) ?_)
  have hus : usesL ⟨7, d, a, b, k, base, size, n⟩ = [a, b] := by simp [usesL]
  obtain ⟨x, hx⟩ : ∃ x, fitsT ⟨7, d, a, b, k, base, size, n⟩ f regs words = x := ⟨_, rfl⟩
  rw [hx]
  have hX : (x = true ↔ FitsT ⟨7, d, a, b, k, base, size, n⟩ f regs words) := by rw [← hx]; exact decide_eq_true_iff
  simp only [FitsT, hus, restT, SetsT, Int.reduceEq, or_false, or_true, false_or, true_or, or_self, if_true, if_false, List.mem_cons, List.not_mem_nil, forall_eq_or_imp, forall_eq, false_implies, implies_true, true_and, and_true, Int.reduceLE, List.length_cons, List.length_nil, Nat.reduceAdd, Nat.reduceLeDiff, Nat.le_refl, forall_const, reduceCtorEq, Nat.zero_le] at hX
  simp only [go_sem,Nat.reduceEqDiff,Nat.reduceAdd,Nat.reduceMul,↓reduceIte,↓dreduceIte,reduceCtorEq,Nat.reduceLeDiff,Nat.reduceLT,Nat.reduceSub,Int.reduceToNat,Int.reduceLE,Int.reduceLT, c_scref24_fits, Int.reduceEq, Int.reduceBEq, setsL, SetsT, or_false, or_true, false_or, true_or, or_self, hus, one_imm', List.length_map, Int.reduceLT, Int.reduceNeg, Int.reduceLE]
  refine VCall.of_contract (refsets_c ⟨7, d, a, b, k, base, size, n⟩) (SleL.pure rfl) fun r hr => ?_
  subst hr
  simp only [go_sem,Nat.reduceEqDiff,Nat.reduceAdd,Nat.reduceMul,↓reduceIte,↓dreduceIte,reduceCtorEq,Nat.reduceLeDiff,Nat.reduceLT,Nat.reduceSub,Int.reduceToNat,Int.reduceLE,Int.reduceLT, Int.reduceEq, Int.reduceBEq, setsL, SetsT, or_false, or_true, false_or, true_or, or_self, hus, one_imm', List.length_map, Int.reduceLT, Int.reduceNeg, Int.reduceLE]
  refine VCall.of_contractN (refuses_c ⟨7, d, a, b, k, base, size, n⟩) ?_ fun r hr => ?_
  · exact ⟨_, _, rfl, Frz.pure rfl, rfl⟩
  subst hr
  simp only [go_sem,Nat.reduceEqDiff,Nat.reduceAdd,Nat.reduceMul,↓reduceIte,↓dreduceIte,reduceCtorEq,Nat.reduceLeDiff,Nat.reduceLT,Nat.reduceSub,Int.reduceToNat,Int.reduceLE,Int.reduceLT, Int.reduceEq, Int.reduceBEq, setsL, SetsT, or_false, or_true, false_or, true_or, or_self, hus, one_imm', List.length_map, Int.reduceLT, Int.reduceNeg, Int.reduceLE]
  refine VW_loop (fun i : Nat => ⟨[(1, I f), (2, I regs), (3, I words), (4, .ptr 0 0 0), (9, .ptr 1 1 0), (10, ints [a, b]), (11, I i)], [⟨0, 57, 1, tacL ⟨7, d, a, b, k, base, size, n⟩⟩, ⟨1, 57, 1, [I 7, I 0, I 0, I 0, I 0, I 0, I 0, U32 0]⟩], 2⟩)
    (fun i => i ≤ 2 ∧ ∀ j < i, inB (([a, b] : List Int).getD j default) regs = true) (fun i => 2 - i) 0 (Wk.mk (by simp [get_cons]) ⟨[], rfl⟩ (Nat.le_refl _)) ⟨by omega, by omega⟩ ?_
  rintro i ⟨hi, hin⟩
  by_cases hi0 : i = 0
  · subst hi0
    simp only [go_sem,Nat.reduceEqDiff,Nat.reduceAdd,Nat.reduceMul,↓reduceIte,↓dreduceIte,reduceCtorEq,Nat.reduceLeDiff,Nat.reduceLT,Nat.reduceSub,Int.reduceToNat,Int.reduceLE,Int.reduceLT, Int.reduceEq, Int.reduceBEq, setsL, SetsT, or_false, or_true, false_or, true_or, or_self, hus, one_imm', List.length_map, Int.reduceLT, Int.reduceNeg, Int.reduceLE, Int.cast_ofNat_Int, Nat.cast_zero', Nat.cast_one']
    refine VCall.of_contract (rwithin_c _ _) (SleL.pure rfl) fun r hr => ?_
    subst hr
    cases hu : inB a regs
    · simp only [go_sem,Nat.reduceEqDiff,Nat.reduceAdd,Nat.reduceMul,↓reduceIte,↓dreduceIte,reduceCtorEq,Nat.reduceLeDiff,Nat.reduceLT,Nat.reduceSub,Int.reduceToNat,Int.reduceLE,Int.reduceLT, hu]
      refine ⟨_, Frz.pure rfl, ?_⟩
      have h2 := of_decide_eq_false hu
      cases x
      · rfl
      · have := hX.1 rfl; omega
    · simp only [go_sem,Nat.reduceEqDiff,Nat.reduceAdd,Nat.reduceMul,↓reduceIte,↓dreduceIte,reduceCtorEq,Nat.reduceLeDiff,Nat.reduceLT,Nat.reduceSub,Int.reduceToNat,Int.reduceLE,Int.reduceLT, hu, i64_lit1, i64_lit2]
      refine ⟨1, ⟨by omega, fun j hj => ?_⟩, by omega, Wk.mk (by simp [get_cons]) ⟨[], rfl⟩ (Nat.le_refl _)⟩
      by_cases e : j = 0
      · subst e; exact hu
      · exact hin j (by omega)
  by_cases hi1 : i = 1
  · subst hi1
    simp only [go_sem,Nat.reduceEqDiff,Nat.reduceAdd,Nat.reduceMul,↓reduceIte,↓dreduceIte,reduceCtorEq,Nat.reduceLeDiff,Nat.reduceLT,Nat.reduceSub,Int.reduceToNat,Int.reduceLE,Int.reduceLT, Int.reduceEq, Int.reduceBEq, setsL, SetsT, or_false, or_true, false_or, true_or, or_self, hus, one_imm', List.length_map, Int.reduceLT, Int.reduceNeg, Int.reduceLE, Int.cast_ofNat_Int, Nat.cast_zero', Nat.cast_one']
    refine VCall.of_contract (rwithin_c _ _) (SleL.pure rfl) fun r hr => ?_
    subst hr
    cases hu : inB b regs
    · simp only [go_sem,Nat.reduceEqDiff,Nat.reduceAdd,Nat.reduceMul,↓reduceIte,↓dreduceIte,reduceCtorEq,Nat.reduceLeDiff,Nat.reduceLT,Nat.reduceSub,Int.reduceToNat,Int.reduceLE,Int.reduceLT, hu]
      refine ⟨_, Frz.pure rfl, ?_⟩
      have h2 := of_decide_eq_false hu
      cases x
      · rfl
      · have := hX.1 rfl; omega
    · simp only [go_sem,Nat.reduceEqDiff,Nat.reduceAdd,Nat.reduceMul,↓reduceIte,↓dreduceIte,reduceCtorEq,Nat.reduceLeDiff,Nat.reduceLT,Nat.reduceSub,Int.reduceToNat,Int.reduceLE,Int.reduceLT, hu, i64_lit1, i64_lit2]
      refine ⟨2, ⟨by omega, fun j hj => ?_⟩, by omega, Wk.mk (by simp [get_cons]) ⟨[], rfl⟩ (Nat.le_refl _)⟩
      by_cases e : j = 1
      · subst e; exact hu
      · exact hin j (by omega)
  obtain rfl : i = 2 := by omega
  have hu0 := of_decide_eq_true (hin 0 (by omega))
  simp only [List.getD_cons_zero, List.getD_cons_succ] at hu0
  have hu1 := of_decide_eq_true (hin 1 (by omega))
  simp only [List.getD_cons_zero, List.getD_cons_succ] at hu1
  simp only [go_sem,Nat.reduceEqDiff,Nat.reduceAdd,Nat.reduceMul,↓reduceIte,↓dreduceIte,reduceCtorEq,Nat.reduceLeDiff,Nat.reduceLT,Nat.reduceSub,Int.reduceToNat,Int.reduceLE,Int.reduceLT, Int.reduceEq, Int.reduceBEq, setsL, SetsT, or_false, or_true, false_or, true_or, or_self, hus, one_imm', List.length_map, Int.reduceLT, Int.reduceNeg, Int.reduceLE, Int.cast_ofNat_Int, Nat.cast_zero', Nat.cast_one']
  have hwr : 1 ≤ size → size ≤ 4096 → IntKind.i64.wrap (words - size) = words - size := fun h1 h2 => i64_in (by omega) (by omega)
  repeat' (first | (with_reducible apply And.intro) | (with_reducible intro _))
  all_goals
    refine ⟨_, Frz.pure rfl, ?_⟩
    try (rename_i h1 h2 h3 h4; rw [hwr (by omega) (by omega)] at h4)
    congr 2
    rw [Bool.eq_iff_iff, hX]
    simp only [Bool.and_eq_true, beq_iff_eq, true_and, and_true, Bool.false_eq_true, false_iff, not_and, and_imp]
    first | omega | (intros; omega)
theorem rfits_8 (d a b k base size n f regs words : Int) (hw : 0 ≤ words ∧ words ≤ 1048576) : Contract Try.prog 39 [tacA ⟨8, d, a, b, k, base, size, n⟩, I f, I regs, I words] (fun r => r = B (fitsT ⟨8, d, a, b, k, base, size, n⟩ f regs words)) := by
  refine Contract.of_call (VCall.of_body hmix f_scref24_fits (by simp) ?_)
  have hus : usesL ⟨8, d, a, b, k, base, size, n⟩ = [] := by simp [usesL]
  obtain ⟨x, hx⟩ : ∃ x, fitsT ⟨8, d, a, b, k, base, size, n⟩ f regs words = x := ⟨_, rfl⟩
  rw [hx]
  have hX : (x = true ↔ FitsT ⟨8, d, a, b, k, base, size, n⟩ f regs words) := by rw [← hx]; exact decide_eq_true_iff
  simp only [FitsT, hus, restT, SetsT, Int.reduceEq, or_false, or_true, false_or, true_or, or_self, if_true, if_false, List.mem_cons, List.not_mem_nil, forall_eq_or_imp, forall_eq, false_implies, implies_true, true_and, and_true, Int.reduceLE, List.length_cons, List.length_nil, Nat.reduceAdd, Nat.reduceLeDiff, Nat.le_refl, forall_const, reduceCtorEq, Nat.zero_le] at hX
  cases hd : inB d regs
  · have hx0 : x = false := by
      cases x
      · rfl
      · have := hX.1 rfl; have h2 := of_decide_eq_false hd; omega
    subst hx0
    by_cases h0 : 0 ≤ d
    · simp only [go_sem,Nat.reduceEqDiff,Nat.reduceAdd,Nat.reduceMul,↓reduceIte,↓dreduceIte,reduceCtorEq,Nat.reduceLeDiff,Nat.reduceLT,Nat.reduceSub,Int.reduceToNat,Int.reduceLE,Int.reduceLT, c_scref24_fits, Int.reduceEq, Int.reduceBEq, setsL, SetsT, or_false, or_true, false_or, true_or, or_self, hus, one_imm', List.length_map, Int.reduceLT, Int.reduceNeg, Int.reduceLE]
      refine VCall.of_contract (refsets_c ⟨8, d, a, b, k, base, size, n⟩) (SleL.pure rfl) fun r hr => ?_
      subst hr
      simp only [go_sem,Nat.reduceEqDiff,Nat.reduceAdd,Nat.reduceMul,↓reduceIte,↓dreduceIte,reduceCtorEq,Nat.reduceLeDiff,Nat.reduceLT,Nat.reduceSub,Int.reduceToNat,Int.reduceLE,Int.reduceLT, Int.reduceEq, Int.reduceBEq, setsL, SetsT, or_false, or_true, false_or, true_or, or_self, hus, one_imm', List.length_map, Int.reduceLT, Int.reduceNeg, Int.reduceLE, eq_true h0]
      refine VCall.of_contract (rwithin_c _ _) (SleL.pure rfl) fun r hr => ?_
      subst hr
      simp only [go_sem,Nat.reduceEqDiff,Nat.reduceAdd,Nat.reduceMul,↓reduceIte,↓dreduceIte,reduceCtorEq,Nat.reduceLeDiff,Nat.reduceLT,Nat.reduceSub,Int.reduceToNat,Int.reduceLE,Int.reduceLT, hd]
      exact ⟨_, Frz.pure rfl, rfl⟩
    · simp only [go_sem,Nat.reduceEqDiff,Nat.reduceAdd,Nat.reduceMul,↓reduceIte,↓dreduceIte,reduceCtorEq,Nat.reduceLeDiff,Nat.reduceLT,Nat.reduceSub,Int.reduceToNat,Int.reduceLE,Int.reduceLT, c_scref24_fits, Int.reduceEq, Int.reduceBEq, setsL, SetsT, or_false, or_true, false_or, true_or, or_self, hus, one_imm', List.length_map, Int.reduceLT, Int.reduceNeg, Int.reduceLE]
      refine VCall.of_contract (refsets_c ⟨8, d, a, b, k, base, size, n⟩) (SleL.pure rfl) fun r hr => ?_
      subst hr
      simp only [go_sem,Nat.reduceEqDiff,Nat.reduceAdd,Nat.reduceMul,↓reduceIte,↓dreduceIte,reduceCtorEq,Nat.reduceLeDiff,Nat.reduceLT,Nat.reduceSub,Int.reduceToNat,Int.reduceLE,Int.reduceLT, Int.reduceEq, Int.reduceBEq, setsL, SetsT, or_false, or_true, false_or, true_or, or_self, hus, one_imm', List.length_map, Int.reduceLT, Int.reduceNeg, Int.reduceLE, eq_false h0]
      refine VCall.of_contract (rwithin_c _ _) (SleL.pure rfl) fun r hr => ?_
      subst hr
      simp only [go_sem,Nat.reduceEqDiff,Nat.reduceAdd,Nat.reduceMul,↓reduceIte,↓dreduceIte,reduceCtorEq,Nat.reduceLeDiff,Nat.reduceLT,Nat.reduceSub,Int.reduceToNat,Int.reduceLE,Int.reduceLT, hd]
      exact ⟨_, Frz.pure rfl, rfl⟩
  have h0 := (of_decide_eq_true hd).1
  have h0' := (of_decide_eq_true hd).2
  simp only [go_sem,Nat.reduceEqDiff,Nat.reduceAdd,Nat.reduceMul,↓reduceIte,↓dreduceIte,reduceCtorEq,Nat.reduceLeDiff,Nat.reduceLT,Nat.reduceSub,Int.reduceToNat,Int.reduceLE,Int.reduceLT, c_scref24_fits, Int.reduceEq, Int.reduceBEq, setsL, SetsT, or_false, or_true, false_or, true_or, or_self, hus, one_imm', List.length_map, Int.reduceLT, Int.reduceNeg, Int.reduceLE]
  refine VCall.of_contract (refsets_c ⟨8, d, a, b, k, base, size, n⟩) (SleL.pure rfl) fun r hr => ?_
  subst hr
  simp only [go_sem,Nat.reduceEqDiff,Nat.reduceAdd,Nat.reduceMul,↓reduceIte,↓dreduceIte,reduceCtorEq,Nat.reduceLeDiff,Nat.reduceLT,Nat.reduceSub,Int.reduceToNat,Int.reduceLE,Int.reduceLT, Int.reduceEq, Int.reduceBEq, setsL, SetsT, or_false, or_true, false_or, true_or, or_self, hus, one_imm', List.length_map, Int.reduceLT, Int.reduceNeg, Int.reduceLE, eq_true h0]
  refine VCall.of_contract (rwithin_c _ _) (SleL.pure rfl) fun r hr => ?_
  subst hr
  simp only [go_sem,Nat.reduceEqDiff,Nat.reduceAdd,Nat.reduceMul,↓reduceIte,↓dreduceIte,reduceCtorEq,Nat.reduceLeDiff,Nat.reduceLT,Nat.reduceSub,Int.reduceToNat,Int.reduceLE,Int.reduceLT, Int.reduceEq, Int.reduceBEq, setsL, SetsT, or_false, or_true, false_or, true_or, or_self, hus, one_imm', List.length_map, Int.reduceLT, Int.reduceNeg, Int.reduceLE, hd]
  refine VCall.of_contractN (refuses_c ⟨8, d, a, b, k, base, size, n⟩) ?_ fun r hr => ?_
  · exact ⟨_, _, rfl, Frz.pure rfl, rfl⟩
  subst hr
  simp only [go_sem,Nat.reduceEqDiff,Nat.reduceAdd,Nat.reduceMul,↓reduceIte,↓dreduceIte,reduceCtorEq,Nat.reduceLeDiff,Nat.reduceLT,Nat.reduceSub,Int.reduceToNat,Int.reduceLE,Int.reduceLT, Int.reduceEq, Int.reduceBEq, setsL, SetsT, or_false, or_true, false_or, true_or, or_self, hus, one_imm', List.length_map, Int.reduceLT, Int.reduceNeg, Int.reduceLE]
  refine VW_loop (fun i : Nat => ⟨[(1, I f), (2, I regs), (3, I words), (4, .ptr 0 0 0), (9, .ptr 1 1 0), (10, ints []), (11, I i)], [⟨0, 57, 1, tacL ⟨8, d, a, b, k, base, size, n⟩⟩, ⟨1, 57, 1, [I 8, I d, I 0, I 0, I 0, I 0, I 0, U32 0]⟩], 2⟩)
    (fun i => i ≤ 0 ∧ ∀ j < i, inB (([] : List Int).getD j default) regs = true) (fun i => 0 - i) 0 (Wk.mk (by simp [get_cons]) ⟨[], rfl⟩ (Nat.le_refl _)) ⟨by omega, by omega⟩ ?_
  rintro i ⟨hi, hin⟩
  obtain rfl : i = 0 := by omega
  simp only [go_sem,Nat.reduceEqDiff,Nat.reduceAdd,Nat.reduceMul,↓reduceIte,↓dreduceIte,reduceCtorEq,Nat.reduceLeDiff,Nat.reduceLT,Nat.reduceSub,Int.reduceToNat,Int.reduceLE,Int.reduceLT, Int.reduceEq, Int.reduceBEq, setsL, SetsT, or_false, or_true, false_or, true_or, or_self, hus, one_imm', List.length_map, Int.reduceLT, Int.reduceNeg, Int.reduceLE, Int.cast_ofNat_Int, Nat.cast_zero', Nat.cast_one']
  have hwr : 1 ≤ size → size ≤ 4096 → IntKind.i64.wrap (words - size) = words - size := fun h1 h2 => i64_in (by omega) (by omega)
  repeat' (first | (with_reducible apply And.intro) | (with_reducible intro _))
  all_goals
    refine ⟨_, Frz.pure rfl, ?_⟩
    try (rename_i h1 h2 h3 h4; rw [hwr (by omega) (by omega)] at h4)
    congr 2
    rw [Bool.eq_iff_iff, hX]
    simp only [Bool.and_eq_true, beq_iff_eq, true_and, and_true, Bool.false_eq_true, false_iff, not_and, and_imp]
    first | omega | (intros; omega)
theorem rfits_9 (d a b k base size n f regs words : Int) (hw : 0 ≤ words ∧ words ≤ 1048576) : Contract Try.prog 39 [tacA ⟨9, d, a, b, k, base, size, n⟩, I f, I regs, I words] (fun r => r = B (fitsT ⟨9, d, a, b, k, base, size, n⟩ f regs words)) := by
  refine Contract.of_call (VCall.of_body hmix f_scref24_fits (by simp) ?_)
  have hus : usesL ⟨9, d, a, b, k, base, size, n⟩ = [a] := by simp [usesL]
  obtain ⟨x, hx⟩ : ∃ x, fitsT ⟨9, d, a, b, k, base, size, n⟩ f regs words = x := ⟨_, rfl⟩
  rw [hx]
  have hX : (x = true ↔ FitsT ⟨9, d, a, b, k, base, size, n⟩ f regs words) := by rw [← hx]; exact decide_eq_true_iff
  simp only [FitsT, hus, restT, SetsT, Int.reduceEq, or_false, or_true, false_or, true_or, or_self, if_true, if_false, List.mem_cons, List.not_mem_nil, forall_eq_or_imp, forall_eq, false_implies, implies_true, true_and, and_true, Int.reduceLE, List.length_cons, List.length_nil, Nat.reduceAdd, Nat.reduceLeDiff, Nat.le_refl, forall_const, reduceCtorEq, Nat.zero_le] at hX
  simp only [go_sem,Nat.reduceEqDiff,Nat.reduceAdd,Nat.reduceMul,↓reduceIte,↓dreduceIte,reduceCtorEq,Nat.reduceLeDiff,Nat.reduceLT,Nat.reduceSub,Int.reduceToNat,Int.reduceLE,Int.reduceLT, c_scref24_fits, Int.reduceEq, Int.reduceBEq, setsL, SetsT, or_false, or_true, false_or, true_or, or_self, hus, one_imm', List.length_map, Int.reduceLT, Int.reduceNeg, Int.reduceLE]
  refine VCall.of_contract (refsets_c ⟨9, d, a, b, k, base, size, n⟩) (SleL.pure rfl) fun r hr => ?_
  subst hr
  simp only [go_sem,Nat.reduceEqDiff,Nat.reduceAdd,Nat.reduceMul,↓reduceIte,↓dreduceIte,reduceCtorEq,Nat.reduceLeDiff,Nat.reduceLT,Nat.reduceSub,Int.reduceToNat,Int.reduceLE,Int.reduceLT, Int.reduceEq, Int.reduceBEq, setsL, SetsT, or_false, or_true, false_or, true_or, or_self, hus, one_imm', List.length_map, Int.reduceLT, Int.reduceNeg, Int.reduceLE]
  refine VCall.of_contractN (refuses_c ⟨9, d, a, b, k, base, size, n⟩) ?_ fun r hr => ?_
  · exact ⟨_, _, rfl, Frz.pure rfl, rfl⟩
  subst hr
  simp only [go_sem,Nat.reduceEqDiff,Nat.reduceAdd,Nat.reduceMul,↓reduceIte,↓dreduceIte,reduceCtorEq,Nat.reduceLeDiff,Nat.reduceLT,Nat.reduceSub,Int.reduceToNat,Int.reduceLE,Int.reduceLT, Int.reduceEq, Int.reduceBEq, setsL, SetsT, or_false, or_true, false_or, true_or, or_self, hus, one_imm', List.length_map, Int.reduceLT, Int.reduceNeg, Int.reduceLE]
  refine VW_loop (fun i : Nat => ⟨[(1, I f), (2, I regs), (3, I words), (4, .ptr 0 0 0), (9, .ptr 1 1 0), (10, ints [a]), (11, I i)], [⟨0, 57, 1, tacL ⟨9, d, a, b, k, base, size, n⟩⟩, ⟨1, 57, 1, [I 9, I 0, I 0, I 0, I 0, I 0, I 0, U32 0]⟩], 2⟩)
    (fun i => i ≤ 1 ∧ ∀ j < i, inB (([a] : List Int).getD j default) regs = true) (fun i => 1 - i) 0 (Wk.mk (by simp [get_cons]) ⟨[], rfl⟩ (Nat.le_refl _)) ⟨by omega, by omega⟩ ?_
  rintro i ⟨hi, hin⟩
  by_cases hi0 : i = 0
  · subst hi0
    simp only [go_sem,Nat.reduceEqDiff,Nat.reduceAdd,Nat.reduceMul,↓reduceIte,↓dreduceIte,reduceCtorEq,Nat.reduceLeDiff,Nat.reduceLT,Nat.reduceSub,Int.reduceToNat,Int.reduceLE,Int.reduceLT, Int.reduceEq, Int.reduceBEq, setsL, SetsT, or_false, or_true, false_or, true_or, or_self, hus, one_imm', List.length_map, Int.reduceLT, Int.reduceNeg, Int.reduceLE, Int.cast_ofNat_Int, Nat.cast_zero', Nat.cast_one']
    refine VCall.of_contract (rwithin_c _ _) (SleL.pure rfl) fun r hr => ?_
    subst hr
    cases hu : inB a regs
    · simp only [go_sem,Nat.reduceEqDiff,Nat.reduceAdd,Nat.reduceMul,↓reduceIte,↓dreduceIte,reduceCtorEq,Nat.reduceLeDiff,Nat.reduceLT,Nat.reduceSub,Int.reduceToNat,Int.reduceLE,Int.reduceLT, hu]
      refine ⟨_, Frz.pure rfl, ?_⟩
      have h2 := of_decide_eq_false hu
      cases x
      · rfl
      · have := hX.1 rfl; omega
    · simp only [go_sem,Nat.reduceEqDiff,Nat.reduceAdd,Nat.reduceMul,↓reduceIte,↓dreduceIte,reduceCtorEq,Nat.reduceLeDiff,Nat.reduceLT,Nat.reduceSub,Int.reduceToNat,Int.reduceLE,Int.reduceLT, hu, i64_lit1, i64_lit2]
      refine ⟨1, ⟨by omega, fun j hj => ?_⟩, by omega, Wk.mk (by simp [get_cons]) ⟨[], rfl⟩ (Nat.le_refl _)⟩
      by_cases e : j = 0
      · subst e; exact hu
      · exact hin j (by omega)
  obtain rfl : i = 1 := by omega
  have hu0 := of_decide_eq_true (hin 0 (by omega))
  simp only [List.getD_cons_zero, List.getD_cons_succ] at hu0
  simp only [go_sem,Nat.reduceEqDiff,Nat.reduceAdd,Nat.reduceMul,↓reduceIte,↓dreduceIte,reduceCtorEq,Nat.reduceLeDiff,Nat.reduceLT,Nat.reduceSub,Int.reduceToNat,Int.reduceLE,Int.reduceLT, Int.reduceEq, Int.reduceBEq, setsL, SetsT, or_false, or_true, false_or, true_or, or_self, hus, one_imm', List.length_map, Int.reduceLT, Int.reduceNeg, Int.reduceLE, Int.cast_ofNat_Int, Nat.cast_zero', Nat.cast_one']
  have hwr : 1 ≤ size → size ≤ 4096 → IntKind.i64.wrap (words - size) = words - size := fun h1 h2 => i64_in (by omega) (by omega)
  repeat' (first | (with_reducible apply And.intro) | (with_reducible intro _))
  all_goals
    refine ⟨_, Frz.pure rfl, ?_⟩
    try (rename_i h1 h2 h3 h4; rw [hwr (by omega) (by omega)] at h4)
    congr 2
    rw [Bool.eq_iff_iff, hX]
    simp only [Bool.and_eq_true, beq_iff_eq, true_and, and_true, Bool.false_eq_true, false_iff, not_and, and_imp]
    first | omega | (intros; omega)
theorem rfits_10 (d a b k base size n f regs words : Int) (hw : 0 ≤ words ∧ words ≤ 1048576) : Contract Try.prog 39 [tacA ⟨10, d, a, b, k, base, size, n⟩, I f, I regs, I words] (fun r => r = B (fitsT ⟨10, d, a, b, k, base, size, n⟩ f regs words)) := by
  refine Contract.of_call (VCall.of_body hmix f_scref24_fits (by simp) ?_)
  have hus : usesL ⟨10, d, a, b, k, base, size, n⟩ = [] := by simp [usesL]
  obtain ⟨x, hx⟩ : ∃ x, fitsT ⟨10, d, a, b, k, base, size, n⟩ f regs words = x := ⟨_, rfl⟩
  rw [hx]
  have hX : (x = true ↔ FitsT ⟨10, d, a, b, k, base, size, n⟩ f regs words) := by rw [← hx]; exact decide_eq_true_iff
  simp only [FitsT, hus, restT, SetsT, Int.reduceEq, or_false, or_true, false_or, true_or, or_self, if_true, if_false, List.mem_cons, List.not_mem_nil, forall_eq_or_imp, forall_eq, false_implies, implies_true, true_and, and_true, Int.reduceLE, List.length_cons, List.length_nil, Nat.reduceAdd, Nat.reduceLeDiff, Nat.le_refl, forall_const, reduceCtorEq, Nat.zero_le] at hX
  simp only [go_sem,Nat.reduceEqDiff,Nat.reduceAdd,Nat.reduceMul,↓reduceIte,↓dreduceIte,reduceCtorEq,Nat.reduceLeDiff,Nat.reduceLT,Nat.reduceSub,Int.reduceToNat,Int.reduceLE,Int.reduceLT, c_scref24_fits, Int.reduceEq, Int.reduceBEq, setsL, SetsT, or_false, or_true, false_or, true_or, or_self, hus, one_imm', List.length_map, Int.reduceLT, Int.reduceNeg, Int.reduceLE]
  refine VCall.of_contract (refsets_c ⟨10, d, a, b, k, base, size, n⟩) (SleL.pure rfl) fun r hr => ?_
  subst hr
  simp only [go_sem,Nat.reduceEqDiff,Nat.reduceAdd,Nat.reduceMul,↓reduceIte,↓dreduceIte,reduceCtorEq,Nat.reduceLeDiff,Nat.reduceLT,Nat.reduceSub,Int.reduceToNat,Int.reduceLE,Int.reduceLT, Int.reduceEq, Int.reduceBEq, setsL, SetsT, or_false, or_true, false_or, true_or, or_self, hus, one_imm', List.length_map, Int.reduceLT, Int.reduceNeg, Int.reduceLE]
  refine VCall.of_contractN (refuses_c ⟨10, d, a, b, k, base, size, n⟩) ?_ fun r hr => ?_
  · exact ⟨_, _, rfl, Frz.pure rfl, rfl⟩
  subst hr
  simp only [go_sem,Nat.reduceEqDiff,Nat.reduceAdd,Nat.reduceMul,↓reduceIte,↓dreduceIte,reduceCtorEq,Nat.reduceLeDiff,Nat.reduceLT,Nat.reduceSub,Int.reduceToNat,Int.reduceLE,Int.reduceLT, Int.reduceEq, Int.reduceBEq, setsL, SetsT, or_false, or_true, false_or, true_or, or_self, hus, one_imm', List.length_map, Int.reduceLT, Int.reduceNeg, Int.reduceLE]
  refine VW_loop (fun i : Nat => ⟨[(1, I f), (2, I regs), (3, I words), (4, .ptr 0 0 0), (9, .ptr 1 1 0), (10, ints []), (11, I i)], [⟨0, 57, 1, tacL ⟨10, d, a, b, k, base, size, n⟩⟩, ⟨1, 57, 1, [I 10, I 0, I 0, I 0, I 0, I 0, I 0, U32 0]⟩], 2⟩)
    (fun i => i ≤ 0 ∧ ∀ j < i, inB (([] : List Int).getD j default) regs = true) (fun i => 0 - i) 0 (Wk.mk (by simp [get_cons]) ⟨[], rfl⟩ (Nat.le_refl _)) ⟨by omega, by omega⟩ ?_
  rintro i ⟨hi, hin⟩
  obtain rfl : i = 0 := by omega
  simp only [go_sem,Nat.reduceEqDiff,Nat.reduceAdd,Nat.reduceMul,↓reduceIte,↓dreduceIte,reduceCtorEq,Nat.reduceLeDiff,Nat.reduceLT,Nat.reduceSub,Int.reduceToNat,Int.reduceLE,Int.reduceLT, Int.reduceEq, Int.reduceBEq, setsL, SetsT, or_false, or_true, false_or, true_or, or_self, hus, one_imm', List.length_map, Int.reduceLT, Int.reduceNeg, Int.reduceLE, Int.cast_ofNat_Int, Nat.cast_zero', Nat.cast_one']
  refine VCall.of_contract (rwithin_c _ _) (SleL.pure rfl) fun r hr => ?_
  subst hr
  cases hb : inB base f
  · have hb' := of_decide_eq_false hb
    simp only [go_sem,Nat.reduceEqDiff,Nat.reduceAdd,Nat.reduceMul,↓reduceIte,↓dreduceIte,reduceCtorEq,Nat.reduceLeDiff,Nat.reduceLT,Nat.reduceSub,Int.reduceToNat,Int.reduceLE,Int.reduceLT, hb]
    refine ⟨_, Frz.pure rfl, ?_⟩
    congr 2
    rw [Bool.eq_iff_iff, hX]
    simp only [Bool.and_eq_true, beq_iff_eq, true_and, and_true, Bool.false_eq_true, false_iff, not_and, and_imp]
    first | omega | (intros; omega)
  · have hb' := of_decide_eq_true hb
    simp only [go_sem,Nat.reduceEqDiff,Nat.reduceAdd,Nat.reduceMul,↓reduceIte,↓dreduceIte,reduceCtorEq,Nat.reduceLeDiff,Nat.reduceLT,Nat.reduceSub,Int.reduceToNat,Int.reduceLE,Int.reduceLT, hb]
    refine ⟨_, Frz.pure rfl, ?_⟩
    congr 2
    rw [Bool.eq_iff_iff, hX]
    simp only [Bool.and_eq_true, beq_iff_eq, true_and, and_true, Bool.false_eq_true, false_iff, not_and, and_imp]
    first | omega | (intros; omega)
theorem rfits_c (t : Tac) (f regs words : Int) (hw : 0 ≤ words ∧ words ≤ 1048576) : Contract Try.prog 39 [tacA t, I f, I regs, I words] (fun r => r = B (fitsT t f regs words)) := by
  obtain ⟨op, d, a, b, k, base, size, n⟩ := t
  by_cases ho : op < 1 ∨ op > 10
  · refine Contract.of_call (VCall.of_body hmix f_scref24_fits (by simp) ?_)
    have e : fitsT ⟨op, d, a, b, k, base, size, n⟩ f regs words = false := decide_eq_false (by unfold FitsT; simp only; omega)
    rw [e]
    rcases ho with h | h
    · simp only [go_sem,Nat.reduceEqDiff,Nat.reduceAdd,Nat.reduceMul,↓reduceIte,↓dreduceIte,reduceCtorEq,Nat.reduceLeDiff,Nat.reduceLT,Nat.reduceSub,Int.reduceToNat,Int.reduceLE,Int.reduceLT, c_scref24_fits, eq_true h]
      exact ⟨_, Frz.pure rfl, rfl⟩
    · simp only [go_sem,Nat.reduceEqDiff,Nat.reduceAdd,Nat.reduceMul,↓reduceIte,↓dreduceIte,reduceCtorEq,Nat.reduceLeDiff,Nat.reduceLT,Nat.reduceSub,Int.reduceToNat,Int.reduceLE,Int.reduceLT, c_scref24_fits, eq_false (show ¬ op < 1 by omega), eq_true (show 10 < op by omega)]
      exact ⟨_, Frz.pure rfl, rfl⟩
  have hop : op = 1 ∨ op = 2 ∨ op = 3 ∨ op = 4 ∨ op = 5 ∨ op = 6 ∨ op = 7 ∨ op = 8 ∨ op = 9 ∨ op = 10 := by omega
  rcases hop with rfl | rfl | rfl | rfl | rfl | rfl | rfl | rfl | rfl | rfl
  · exact rfits_1 d a b k base size n f regs words hw
  · exact rfits_2 d a b k base size n f regs words hw
  · exact rfits_3 d a b k base size n f regs words hw
  · exact rfits_4 d a b k base size n f regs words hw
  · exact rfits_5 d a b k base size n f regs words hw
  · exact rfits_6 d a b k base size n f regs words hw
  · exact rfits_7 d a b k base size n f regs words hw
  · exact rfits_8 d a b k base size n f regs words hw
  · exact rfits_9 d a b k base size n f regs words hw
  · exact rfits_10 d a b k base size n f regs words hw
-- END-OF-FITS
end Go.Proofs.Ytncjbipnkdlkoaa
namespace Go.Proofs.Ytncjbipnkdlkoaa
set_option linter.unusedSimpArgs false
set_option linter.unusedVariables false
open Go.V
theorem one_imm {sz : Nat} {xs : List AV} : (AV.imm sz xs).one = true := rfl
theorem one_ref {id s off len : Nat} : (AV.ref id s off len).one = true := rfl
theorem cellT_U32 {xs : List Int} {off : Nat} {C : AV → Prop} : cellT (xs.map U32) off false 1 C .mk = (off < xs.length ∧ C (U32 (xs.getD off default))) := cellT_map fun _ => rfl
abbrev w32 (n : Int) : Int := IntKind.u32.wrap n
def andW (a b : Int) : Int := w32 (BitVec.ofInt IntKind.u32.bits a &&& BitVec.ofInt IntKind.u32.bits b).toNat
def orW (a b : Int) : Int := w32 (BitVec.ofInt IntKind.u32.bits a ||| BitVec.ofInt IntKind.u32.bits b).toNat
def xorW (a b : Int) : Int := w32 (BitVec.ofInt IntKind.u32.bits a ^^^ BitVec.ofInt IntKind.u32.bits b).toNat
def shlW (a b : Int) : Int := w32 (a * 2 ^ (min b.toNat IntKind.u32.bits))
def shrW (a b : Int) : Int := a.fdiv (2 ^ (min b.toNat IntKind.u32.bits))
def applyW (op a b : Int) : Int × Int :=
  if op = 4 then (w32 (a + b), 0) else if op = 5 then (w32 (a - b), 0) else if op = 6 then (w32 (a * b), 0)
  else if op = 7 then (if b = 0 then (0, 14) else (w32 (a.tdiv b), 0))
  else if op = 8 then (if b = 0 then (0, 14) else (a.tmod b, 0))
  else if op = 9 then (andW a b, 0) else if op = 10 then (orW a b, 0) else if op = 11 then (xorW a b, 0)
  else if op = 12 then (if 31 < b then 0 else shlW a b, 0)
  else if op = 13 then (if 31 < b then 0 else shrW a b, 0)
  else if op = 14 then (if a < b then 1 else 0, 0)
  else if op = 15 then (if a = b then 1 else 0, 0)
  else (0, 1)
abbrev tup2 (p : Int × Int) : AV := .tup [U32 p.1, I p.2]
end Go.Proofs.Ytncjbipnkdlkoaa
namespace Go.Proofs.Ytncjbipnkdlkoaa
set_option linter.unusedSimpArgs false
set_option linter.unusedVariables false
set_option maxRecDepth 10000
open Go.V
theorem cells_B (l : List Bool) : allCells (l.map B) = l.map B := allCells_map1 (fun _ => rfl) l
theorem laid_B (l : List Bool) : ∀ y ∈ l.map B, y.laid = true := fun y hy => by
  obtain ⟨x, _, rfl⟩ := List.mem_map.1 hy; rfl
theorem set_B (l : List Bool) (i : Nat) (x : Bool) : (l.map B).set i (.val (.bool x)) = (l.set i x).map B := set_map B l i x
def withinB (a b : List Bool) : Bool := decide (∀ i < a.length, gB a i = true → gB b i = true)
theorem gB_getD (l : List Bool) (i : Nat) : l.getD i default = gB l i := rfl
theorem rwithin27_c (a b : List Bool) (h : a.length ≤ b.length) (ha : a.length ≤ 140737488355328) : Contract Try.prog 50 [bools a, bools b] (fun r => r = B (withinB a b)) := by
  refine Contract.of_call (VCall.of_body hmix f_scref27_within (by simp) ?_)
  simp only [go_sem,Nat.reduceEqDiff,Nat.reduceAdd,Nat.reduceMul,↓reduceIte,↓dreduceIte,reduceCtorEq,Nat.reduceLeDiff,Nat.reduceLT,Nat.reduceSub,Int.reduceToNat,Int.reduceLE,Int.reduceLT, c_scref27_within]
  refine VW_loop (fun k : Nat => ⟨[(0, bools a), (1, bools b), (5, I k)], [], 0⟩) (fun k => k ≤ a.length ∧ ∀ i < k, gB a i = true → gB b i = true) (fun k => a.length - k) 0 (Wk.mk (by simp [get_cons]) ⟨[], rfl⟩ (Nat.le_refl _)) ⟨by omega, by omega⟩ ?_
  rintro k ⟨hk, hp⟩
  by_cases h1 : k < a.length
  · have hx : ∀ k', ((k' : Nat) : Int) = k → k' = k := fun k' e => by omega
    cases h2 : gB a k
    · simp only [go_sem,Nat.reduceEqDiff,Nat.reduceAdd,Nat.reduceMul,↓reduceIte,↓dreduceIte,reduceCtorEq,Nat.reduceLeDiff,Nat.reduceLT,Nat.reduceSub,Int.reduceToNat,Int.reduceLE,Int.reduceLT, eq_true (show (k : Int) < a.length by omega), gB_getD, h2]
      rw [i64_in (by omega) (by omega)]
      refine ⟨by omega, k + 1, ⟨by omega, fun i hi e => ?_⟩, by omega, Wk.mk (by simp [get_cons]) ⟨[], rfl⟩ (Nat.le_refl _)⟩
      by_cases e2 : i = k
      · rw [e2, h2] at e; cases e
      · exact hp i (by omega) e
    · cases h3 : gB b k
      · simp only [go_sem,Nat.reduceEqDiff,Nat.reduceAdd,Nat.reduceMul,↓reduceIte,↓dreduceIte,reduceCtorEq,Nat.reduceLeDiff,Nat.reduceLT,Nat.reduceSub,Int.reduceToNat,Int.reduceLE,Int.reduceLT, eq_true (show (k : Int) < a.length by omega), gB_getD, h2, h3]
        refine ⟨by omega, by omega, _, Frz.pure rfl, ?_⟩
        rw [show withinB a b = false from decide_eq_false fun e => by have := e k h1 h2; rw [h3] at this; cases this]
      · simp only [go_sem,Nat.reduceEqDiff,Nat.reduceAdd,Nat.reduceMul,↓reduceIte,↓dreduceIte,reduceCtorEq,Nat.reduceLeDiff,Nat.reduceLT,Nat.reduceSub,Int.reduceToNat,Int.reduceLE,Int.reduceLT, eq_true (show (k : Int) < a.length by omega), gB_getD, h2, h3]
        rw [i64_in (by omega) (by omega)]
        refine ⟨by omega, by omega, k + 1, ⟨by omega, fun i hi e => ?_⟩, by omega, Wk.mk (by simp [get_cons]) ⟨[], rfl⟩ (Nat.le_refl _)⟩
        by_cases e2 : i = k
        · rw [e2]; exact h3
        · exact hp i (by omega) e
  · simp only [go_sem,Nat.reduceEqDiff,Nat.reduceAdd,Nat.reduceMul,↓reduceIte,↓dreduceIte,reduceCtorEq,Nat.reduceLeDiff,Nat.reduceLT,Nat.reduceSub,Int.reduceToNat,Int.reduceLE,Int.reduceLT, eq_false (show ¬ (k : Int) < a.length by omega)]
    refine ⟨_, Frz.pure rfl, ?_⟩
    rw [show withinB a b = true from decide_eq_true fun i hi => hp i (by omega)]
theorem rlast_c (b : Bk) (l : List Bool) (hl : l.length ≤ 100000) (hv : b.e = 2 → 0 ≤ b.v ∧ b.v < l.length) : ContractN Try.prog 40 [bkA b, bools l] (fun r => r = bools (lastL b l)) := by
  refine ContractN.of_call (VCall.of_body hmix f_scref27_last (by simp) ?_)
  have hmx : (200000 : Nat) ≤ maxLen := by decide
  by_cases h : b.e = 2
  · obtain ⟨v0, v1⟩ := hv h
    simp only [go_sem,Nat.reduceEqDiff,Nat.reduceAdd,Nat.reduceMul,↓reduceIte,↓dreduceIte,reduceCtorEq,Nat.reduceLeDiff,Nat.reduceLT,Nat.reduceSub,Int.reduceToNat,Int.reduceLE,Int.reduceLT, c_scref27_last, cells_B, set_B, eq_true h, one_imm, one_ref, List.length_map]
    repeat ((with_reducible refine And.intro ?_ ?_); · first | exact laid_B l | omega | exact Nat.le_trans hl (by decide))
    exact ⟨_, frzN_bools rfl (by simp), by rw [lastL, if_pos h]⟩
  · simp only [go_sem,Nat.reduceEqDiff,Nat.reduceAdd,Nat.reduceMul,↓reduceIte,↓dreduceIte,reduceCtorEq,Nat.reduceLeDiff,Nat.reduceLT,Nat.reduceSub,Int.reduceToNat,Int.reduceLE,Int.reduceLT, c_scref27_last, cells_B, set_B, eq_false h, one_imm, one_ref, List.length_map]
    repeat ((with_reducible refine And.intro ?_ ?_); · first | exact laid_B l | omega | exact Nat.le_trans hl (by decide))
    exact ⟨_, frzN_bools rfl (by simp), by rw [lastL, if_neg h]⟩
theorem useL_take (l : List Bool) (us : List Int) {k : Nat} (hk : k < us.length) : useL l (us.take (k + 1)) = (useL l (us.take k)).set (us.getD k default).toNat true := by
  have e : us.take (k + 1) = us.take k ++ [us.getD k default] := by rw [List.take_add_one]; simp [List.getD, List.getElem?_eq_getElem hk]
  rw [e]; simp [useL]
theorem rback_c (t : Tac) (l : List Bool) (hl : l.length ≤ 100000) (hr : RegT t l.length) : ContractN Try.prog 41 [tacA t, bools l] (fun r => r = bools (backL t l)) := by
  refine ContractN.of_call (VCall.of_body hmix f_scref27_back (by simp) ?_)
  have hmx : (200000 : Nat) ≤ maxLen := by decide
  have hu2 := usesL_len t
  have done_ : ∀ (env : List (Nat × AV)) (H : List VObj), True := fun _ _ => trivial
  have hcl : (clearL t l).length = l.length := clearL_len t l
  have hloop : ∀ (x : Nat) (us : List Int), useL (clearL t l) (us.take 0) = clearL t l := fun _ _ => rfl
  by_cases h : 0 ≤ setsL t
  all_goals
    have hs1 : 0 ≤ setsL t → setsL t < l.length := fun h => by rcases hr.sets with e | e <;> omega
    have hce : 0 ≤ setsL t → l.set (setsL t).toNat false = clearL t l := fun h => (if_pos h).symm
    have hce' : ¬ 0 ≤ setsL t → l = clearL t l := fun h => (if_neg h).symm
    simp only [go_sem,Nat.reduceEqDiff,Nat.reduceAdd,Nat.reduceMul,↓reduceIte,↓dreduceIte,reduceCtorEq,Nat.reduceLeDiff,Nat.reduceLT,Nat.reduceSub,Int.reduceToNat,Int.reduceLE,Int.reduceLT, c_scref27_back, cells_B, one_imm, one_ref, List.length_map]
    repeat ((with_reducible refine And.intro ?_ ?_); · first | exact laid_B l | omega | exact Nat.le_trans hl (by decide))
    refine VCall.of_contract (refsets_c t) (SleL.pure rfl) fun r hr' => ?_
    subst hr'
    first
    | simp only [go_sem,Nat.reduceEqDiff,Nat.reduceAdd,Nat.reduceMul,↓reduceIte,↓dreduceIte,reduceCtorEq,Nat.reduceLeDiff,Nat.reduceLT,Nat.reduceSub,Int.reduceToNat,Int.reduceLE,Int.reduceLT, cells_B, one_imm, one_ref, List.length_map, eq_true h, set_B, hce h]
    | simp only [go_sem,Nat.reduceEqDiff,Nat.reduceAdd,Nat.reduceMul,↓reduceIte,↓dreduceIte,reduceCtorEq,Nat.reduceLeDiff,Nat.reduceLT,Nat.reduceSub,Int.reduceToNat,Int.reduceLE,Int.reduceLT, cells_B, one_imm, one_ref, List.length_map, eq_false h, ← hce' h]
    repeat ((with_reducible refine And.intro ?_ ?_); · first | exact h | exact hs1 h | (have := hs1 h; omega) | omega)
    refine VCall.of_contractN (refuses_c t) ?_ fun r hr' => ?_
    · exact ⟨_, _, rfl, Frz.pure rfl, rfl⟩
    subst hr'
    simp only [go_sem,Nat.reduceEqDiff,Nat.reduceAdd,Nat.reduceMul,↓reduceIte,↓dreduceIte,reduceCtorEq,Nat.reduceLeDiff,Nat.reduceLT,Nat.reduceSub,Int.reduceToNat,Int.reduceLE,Int.reduceLT, one_imm, one_ref, List.length_map]
    refine VW_loop (fun k : Nat => ⟨[(5, .ref 1 2 0 l.length), (7, ints (usesL t)), (8, I k)], [⟨0, 57, 1, tacL t⟩, ⟨2, 4, 1, (useL (clearL t l) ((usesL t).take k)).map B⟩], 3⟩)
      (fun k => k ≤ (usesL t).length) (fun k => (usesL t).length - k) 0 (Wk.mk (by simp [get_cons]) ⟨[], by first | rfl | (simp [useL, ← hce' h])⟩ (Nat.le_refl _)) (by omega) ?_
    intro k hk
    by_cases hlt : k < (usesL t).length
    · have hu := hr.1 _ (mem_getD hlt)
      simp only [go_sem,Nat.reduceEqDiff,Nat.reduceAdd,Nat.reduceMul,↓reduceIte,↓dreduceIte,reduceCtorEq,Nat.reduceLeDiff,Nat.reduceLT,Nat.reduceSub,Int.reduceToNat,Int.reduceLE,Int.reduceLT, one_imm, one_ref, List.length_map, eq_true (show (k : Int) < (usesL t).length by omega), set_B, ← useL_take _ _ hlt, useL_len, hcl]
      repeat ((with_reducible refine And.intro ?_ ?_); · omega)
      rw [i64_in (by omega) (by omega)]
      exact ⟨k + 1, by omega, by omega, Wk.mk (by simp [get_cons]) ⟨[], rfl⟩ (Nat.le_refl _)⟩
    · simp only [go_sem,Nat.reduceEqDiff,Nat.reduceAdd,Nat.reduceMul,↓reduceIte,↓dreduceIte,reduceCtorEq,Nat.reduceLeDiff,Nat.reduceLT,Nat.reduceSub,Int.reduceToNat,Int.reduceLE,Int.reduceLT, one_imm, one_ref, List.length_map, eq_false (show ¬ (k : Int) < (usesL t).length by omega)]
      refine ⟨_, frzN_bools rfl (by simp [useL_len, hcl]), ?_⟩
      rw [List.take_of_length_le (by omega)]; rfl
theorem drop_back (ins : List Tac) (l : List Bool) {k : Nat} (hk : k < ins.length) : thruL (ins.drop k) l = backL (ins.getD k default) (thruL (ins.drop (k + 1)) l) := by
  have e : ins.getD k default = ins[k] := by simp [List.getD, List.getElem?_eq_getElem hk]
  rw [e]
  conv => lhs; rw [List.drop_eq_getElem_cons hk]
  rfl
theorem rahead_v (b : Bk) (l : List Bool) (x : AV) (H : List VObj) (nx : Nat) (hl : l.length ≤ 100000) (hn : b.ins.length ≤ 1000000) (hv : b.e = 2 → 0 ≤ b.v ∧ b.v < l.length) (hr : ∀ t ∈ b.ins, RegT t l.length)
    (hx : ∀ R nx', Frz 0 (H ++ R) nx' x (bools l)) (C : AV → List VObj → Nat → Prop) (hC : ∀ R nx', C (bools (aheadL b l)) (H ++ R) nx') : VCall Try.prog 24 [bkA b, x] H nx C := by
  refine VCall.of_body hmix f_scref27_ahead (by simp) ?_
  have hg : ∀ (o : VObj), (H ++ [o])[H.length]? = some o := fun o => by simp
  simp only [go_sem,Nat.reduceEqDiff,Nat.reduceAdd,Nat.reduceMul,↓reduceIte,↓dreduceIte,reduceCtorEq,Nat.reduceLeDiff,Nat.reduceLT,Nat.reduceSub,Int.reduceToNat,Int.reduceLE,Int.reduceLT, c_scref27_ahead, one_imm, one_ref, hg]
  refine VCall.of_contractN (rlast_c b l hl hv) ?_ fun r hr' => ?_
  · exact ⟨_, _, rfl, Frz.pure rfl, _, _, rfl, hx _ _, rfl⟩
  subst hr'
  simp only [go_sem,Nat.reduceEqDiff,Nat.reduceAdd,Nat.reduceMul,↓reduceIte,↓dreduceIte,reduceCtorEq,Nat.reduceLeDiff,Nat.reduceLT,Nat.reduceSub,Int.reduceToNat,Int.reduceLE,Int.reduceLT, one_imm, one_ref, hg, List.length_map]
  rw [i64_in (by omega) (by omega)]
  refine VW_loop (fun k : Nat => ⟨[(2, .ptr H.length nx 0), (5, bools (thruL (b.ins.drop (b.ins.length - k)) (lastL b l))), (6, I ((b.ins.length : Int) - 1 - k))], H ++ [⟨nx, 60, 1, bkL b⟩], nx + 1⟩)
    (fun k => k ≤ b.ins.length) (fun k => b.ins.length - k) 0 (Wk.mk (by simp [get_cons, thruL]) ⟨[], by simp⟩ (Nat.le_refl _)) (by omega) ?_
  intro k hk
  by_cases hlt : k < b.ins.length
  · simp only [go_sem,Nat.reduceEqDiff,Nat.reduceAdd,Nat.reduceMul,↓reduceIte,↓dreduceIte,reduceCtorEq,Nat.reduceLeDiff,Nat.reduceLT,Nat.reduceSub,Int.reduceToNat,Int.reduceLE,Int.reduceLT, one_imm, one_ref, hg, List.length_map, eq_true (show (0 : Int) ≤ (b.ins.length : Int) - 1 - k by omega)]
    refine ⟨by omega, ?_⟩
    have e1 : ((b.ins.length : Int) - 1 - k).toNat = b.ins.length - k - 1 := by omega
    rw [e1]
    refine VCall.of_contractN (rback_c (b.ins.getD (b.ins.length - k - 1) default) (thruL (b.ins.drop (b.ins.length - k)) (lastL b l)) (by rw [thruL_len, lastL_len]; exact hl) (by rw [thruL_len, lastL_len]; exact hr _ (mem_getD (show b.ins.length - k - 1 < b.ins.length by omega)))) ?_ fun r hr' => ?_
    · exact ⟨_, _, rfl, Frz.pure rfl, _, _, rfl, Frz.pure rfl, rfl⟩
    subst hr'
    simp only [go_sem,Nat.reduceEqDiff,Nat.reduceAdd,Nat.reduceMul,↓reduceIte,↓dreduceIte,reduceCtorEq,Nat.reduceLeDiff,Nat.reduceLT,Nat.reduceSub,Int.reduceToNat,Int.reduceLE,Int.reduceLT, one_imm, one_ref, hg, List.length_map]
    rw [i64_in (by omega) (by omega)]
    have e3 : backL (b.ins.getD (b.ins.length - k - 1) default) (thruL (b.ins.drop (b.ins.length - k)) (lastL b l)) = thruL (b.ins.drop (b.ins.length - (k + 1))) (lastL b l) := by
      rw [show b.ins.length - (k + 1) = b.ins.length - k - 1 by omega, drop_back _ _ (show b.ins.length - k - 1 < b.ins.length by omega), show b.ins.length - k - 1 + 1 = b.ins.length - k by omega]
    rw [e3, show (b.ins.length : Int) - 1 - k - 1 = (b.ins.length : Int) - 1 - ((k + 1 : Nat) : Int) by omega]
    exact ⟨k + 1, by omega, by omega, Wk.mk (by simp [get_cons]) ⟨[], by simp⟩ (Nat.le_refl _)⟩
  · simp only [go_sem,Nat.reduceEqDiff,Nat.reduceAdd,Nat.reduceMul,↓reduceIte,↓dreduceIte,reduceCtorEq,Nat.reduceLeDiff,Nat.reduceLT,Nat.reduceSub,Int.reduceToNat,Int.reduceLE,Int.reduceLT, one_imm, one_ref, hg, List.length_map, eq_false (show ¬ (0 : Int) ≤ (b.ins.length : Int) - 1 - k by omega)]
    have := hC [⟨nx, 60, 1, bkL b⟩] (nx + 1)
    rw [show b.ins.length - k = 0 by omega, List.drop_zero]
    exact this
theorem rahead_c (b : Bk) (l : List Bool) (hl : l.length ≤ 100000) (hn : b.ins.length ≤ 1000000) (hv : b.e = 2 → 0 ≤ b.v ∧ b.v < l.length) (hr : ∀ t ∈ b.ins, RegT t l.length) :
    Contract Try.prog 24 [bkA b, bools l] (fun r => r = bools (aheadL b l)) :=
  Contract.of_call (rahead_v b l (bools l) [] 0 hl hn hv hr (fun _ _ => Frz.pure rfl) _ fun R nx' => ⟨_, Frz.pure rfl, rfl⟩)
theorem rsized_c (m : List (List Bool)) (n r : Int) (hm : m.length ≤ 140737488355328) : Contract Try.prog 62 [rowsA m, I n, I r] (fun x => x = B (sizedL m n r)) := by
  refine Contract.of_call (VCall.of_body hmix f_scref27_sized (by simp) ?_)
  by_cases h : (m.length : Int) = n
  · subst h
    simp only [go_sem,Nat.reduceEqDiff,Nat.reduceAdd,Nat.reduceMul,↓reduceIte,↓dreduceIte,reduceCtorEq,Nat.reduceLeDiff,Nat.reduceLT,Nat.reduceSub,Int.reduceToNat,Int.reduceLE,Int.reduceLT, c_scref27_sized, one_imm, List.length_map]
    refine VW_loop (fun k : Nat => ⟨[(0, rowsA m), (1, I m.length), (2, I r), (7, I k)], [], 0⟩) (fun k => k ≤ m.length ∧ (m.take k).all (fun l => decide ((l.length : Int) = r)) = true) (fun k => m.length - k) 0 (Wk.mk (by simp [get_cons]) ⟨[], rfl⟩ (Nat.le_refl _)) ⟨by omega, rfl⟩ ?_
    rintro k ⟨hk, hp⟩
    by_cases h1 : k < m.length
    · by_cases h2 : ((m.getD k default).length : Int) = r
      · simp only [go_sem,Nat.reduceEqDiff,Nat.reduceAdd,Nat.reduceMul,↓reduceIte,↓dreduceIte,reduceCtorEq,Nat.reduceLeDiff,Nat.reduceLT,Nat.reduceSub,Int.reduceToNat,Int.reduceLE,Int.reduceLT, one_imm, List.length_map, eq_true (show (k : Int) < m.length by omega), eq_true h2]
        rw [i64_in (by omega) (by omega)]
        exact ⟨by omega, k + 1, ⟨by omega, all_step h1 hp (decide_eq_true h2)⟩, by omega, Wk.mk (by simp [get_cons]) ⟨[], rfl⟩ (Nat.le_refl _)⟩
      · simp only [go_sem,Nat.reduceEqDiff,Nat.reduceAdd,Nat.reduceMul,↓reduceIte,↓dreduceIte,reduceCtorEq,Nat.reduceLeDiff,Nat.reduceLT,Nat.reduceSub,Int.reduceToNat,Int.reduceLE,Int.reduceLT, one_imm, List.length_map, eq_true (show (k : Int) < m.length by omega), eq_false h2]
        refine ⟨by omega, _, Frz.pure rfl, ?_⟩
        unfold sizedL
        rw [all_stop h1 (decide_eq_false h2)]; simp
    · simp only [go_sem,Nat.reduceEqDiff,Nat.reduceAdd,Nat.reduceMul,↓reduceIte,↓dreduceIte,reduceCtorEq,Nat.reduceLeDiff,Nat.reduceLT,Nat.reduceSub,Int.reduceToNat,Int.reduceLE,Int.reduceLT, one_imm, List.length_map, eq_false (show ¬ (k : Int) < m.length by omega)]
      refine ⟨_, Frz.pure rfl, ?_⟩
      unfold sizedL
      rw [all_end (by omega) hp]; simp
  · simp only [go_sem,Nat.reduceEqDiff,Nat.reduceAdd,Nat.reduceMul,↓reduceIte,↓dreduceIte,reduceCtorEq,Nat.reduceLeDiff,Nat.reduceLT,Nat.reduceSub,Int.reduceToNat,Int.reduceLE,Int.reduceLT, c_scref27_sized, one_imm, List.length_map, eq_false h]
    refine ⟨_, Frz.pure rfl, ?_⟩
    unfold sizedL
    rw [decide_eq_false h]; rfl
theorem rSized_c (f : BF) (L : LD) (h1 : L.inn.length ≤ 140737488355328) (h2 : L.out.length ≤ 140737488355328) : Contract Try.prog 49 [bfA f, liveA L] (fun x => x = B (sizedB f L)) := by
  refine Contract.of_call (VCall.of_body hmix f_scref27_Sized (by simp) ?_)
  simp only [go_sem,Nat.reduceEqDiff,Nat.reduceAdd,Nat.reduceMul,↓reduceIte,↓dreduceIte,reduceCtorEq,Nat.reduceLeDiff,Nat.reduceLT,Nat.reduceSub,Int.reduceToNat,Int.reduceLE,Int.reduceLT, c_scref27_Sized, one_imm, List.length_map]
  refine VCall.of_contract (rsized_c L.inn f.bks.length f.regs h1) (SleL.pure rfl) fun x hx => ?_
  subst hx
  cases h : sizedL L.inn f.bks.length f.regs
  · simp only [go_sem,Nat.reduceEqDiff,Nat.reduceAdd,Nat.reduceMul,↓reduceIte,↓dreduceIte,reduceCtorEq,Nat.reduceLeDiff,Nat.reduceLT,Nat.reduceSub,Int.reduceToNat,Int.reduceLE,Int.reduceLT, one_imm, List.length_map]
    exact ⟨_, Frz.pure rfl, by simp [sizedB, h]⟩
  · simp only [go_sem,Nat.reduceEqDiff,Nat.reduceAdd,Nat.reduceMul,↓reduceIte,↓dreduceIte,reduceCtorEq,Nat.reduceLeDiff,Nat.reduceLT,Nat.reduceSub,Int.reduceToNat,Int.reduceLE,Int.reduceLT, one_imm, List.length_map]
    refine VCall.of_contract (rsized_c L.out f.bks.length f.regs h2) (SleL.pure rfl) fun x hx => ?_
    subst hx
    simp only [go_sem,Nat.reduceEqDiff,Nat.reduceAdd,Nat.reduceMul,↓reduceIte,↓dreduceIte,reduceCtorEq,Nat.reduceLeDiff,Nat.reduceLT,Nat.reduceSub,Int.reduceToNat,Int.reduceLE,Int.reduceLT, one_imm, List.length_map]
    exact ⟨_, Frz.pure rfl, by simp [sizedB, h]⟩
end Go.Proofs.Ytncjbipnkdlkoaa
namespace Go.Proofs.Ytncjbipnkdlkoaa
set_option linter.unusedSimpArgs false
set_option linter.unusedVariables false
open Go.V
def nxtv (b : Bk) : AV := if b.e = 1 then ints [b.to] else if b.e = 2 then ints [b.to, b.el] else nilv
theorem nxtv_one (b : Bk) : (nxtv b).one = true := by unfold nxtv; (split; rfl; split <;> rfl)
theorem nxtv_frz (n : Nat) (H : List VObj) (nx : Nat) (b : Bk) : Frz n H nx (nxtv b) (ints (nxt b)) := by
  unfold nxtv nxt
  split
  · exact Frz.pure rfl
  · split
    · exact Frz.pure rfl
    · exact Frz.nil 1
theorem next_c (f : BF) (hb : f.bks.length ≤ 500) : Contract Try.prog 52 [bfA f] (fun x => x = .imm 1 (f.bks.map fun b => ints (nxt b))) := by
  obtain ⟨r, bs⟩ := f
  simp only at hb ⊢
  refine Contract.of_call (VCall.of_body hmix f_flow_Next (by simp) ?_)
  simp only [go_sem,Nat.reduceEqDiff,Nat.reduceAdd,Nat.reduceMul,↓reduceIte,↓dreduceIte,reduceCtorEq,Nat.reduceLeDiff,Nat.reduceLT,Nat.reduceSub,Int.reduceToNat,Int.reduceLE,Int.reduceLT, c_flow_Next]
  repeat (refine And.intro (by omega) ?_)
  refine VW_loop (fun q : Nat × Nat => ⟨[(1, .ptr 0 0 0), (3, .ref 1 1 0 bs.length), (11, .imm 5 (bs.map bkA)), (12, I bs.length), (13, I q.1)],
    [⟨0, 24, 1, [I r, .imm 5 (bs.map bkA)]⟩, ⟨1, 31, 1, filled nxtv nilv bs q.1⟩], q.2⟩) (fun q => q.1 ≤ bs.length ∧ 2 ≤ q.2) (fun q => bs.length - q.1) (0, 2)
    (Wk.mk (by simp [get_cons]) ⟨[], by simp [flat_rep, filled_zero]⟩ (Nat.le_refl _)) ⟨by omega, by omega⟩ ?_
  rintro ⟨k, nx⟩ ⟨hk, hnx⟩
  simp only [go_sem,Nat.reduceEqDiff,Nat.reduceAdd,Nat.reduceMul,↓reduceIte,↓dreduceIte,reduceCtorEq,Nat.reduceLeDiff,Nat.reduceLT,Nat.reduceSub,Int.reduceToNat,Int.reduceLE,Int.reduceLT]
  refine ⟨fun h => ?_, fun h => ?_⟩
  · have hl := filled_length nxtv nilv bs (show k ≤ bs.length by omega)
    rw [i64_in (by omega) (by omega)]
    have hs := filled_set nxtv nilv bs (show k < bs.length by omega)
    have hsk := filled_skip nxtv nilv bs (show k < bs.length by omega)
    generalize hx : bs.getD k default = b at *
    refine ⟨by omega, fun h1 => ?_, fun h1 => ⟨fun h2 => ?_, fun h2 => ?_⟩⟩
    · repeat (refine And.intro (by omega) ?_)
      refine ⟨(k + 1, nx + 1 + 1), ⟨by simp; omega, by simp⟩, by simp; omega, Wk.give (by simp [get_cons]) ?_ (Nat.le_refl _)⟩
      simp only [OW, CW.refl, Nat.reduceEqDiff, false_implies, true_and, and_true]
      rw [← hs, show nxtv b = ints [b.to] by simp [nxtv, h1]]
      exact CW.set (frz_ints (by simp) rfl rfl)
    · have h1 : b.e ≠ 1 := by simpa using h1
      repeat (refine And.intro (by omega) ?_)
      refine ⟨(k + 1, nx + 1 + 1), ⟨by simp; omega, by simp⟩, by simp; omega, Wk.give (by simp [get_cons]) ?_ (Nat.le_refl _)⟩
      simp only [OW, CW.refl, Nat.reduceEqDiff, false_implies, true_and, and_true]
      rw [← hs, show nxtv b = ints [b.to, b.el] by simp [nxtv, h2]]
      exact CW.set (frz_ints (by simp) rfl rfl)
    · refine ⟨(k + 1, nx + 1), ⟨by simp; omega, by simp; omega⟩, by simp; omega, Wk.give (by simp [get_cons]) ?_ (Nat.le_refl _)⟩
      simp only [OW, CW.refl, Nat.reduceEqDiff, false_implies, true_and, and_true]
      rw [← hsk (by (try simp at h1 h2); simp [nxtv, h1, h2])]
      exact CW.refl _
  · refine ⟨_, ?_, rfl⟩
    rw [filled_all nxtv nilv bs (by omega)]
    exact frz_map (by omega) rfl rfl nxtv_one (fun b _ => nxtv_frz _ _ _ b)
theorem refnext_c (f : BF) (hb : f.bks.length ≤ 500) : Contract Try.prog 23 [bfA f] (fun x => x = .imm 1 (f.bks.map fun b => ints (nxt b))) := by
  obtain ⟨r, bs⟩ := f
  simp only at hb ⊢
  refine Contract.of_call (VCall.of_body hmix f_scref26_Next (by simp) ?_)
  simp only [go_sem,Nat.reduceEqDiff,Nat.reduceAdd,Nat.reduceMul,↓reduceIte,↓dreduceIte,reduceCtorEq,Nat.reduceLeDiff,Nat.reduceLT,Nat.reduceSub,Int.reduceToNat,Int.reduceLE,Int.reduceLT, c_scref26_Next]
  repeat (refine And.intro (by omega) ?_)
  refine VW_loop (fun q : Nat × Nat => ⟨[(1, .ptr 0 0 0), (3, .ref 1 1 0 bs.length), (4, I q.1)],
    [⟨0, 24, 1, [I r, .imm 5 (bs.map bkA)]⟩, ⟨1, 31, 1, filled nxtv nilv bs q.1⟩], q.2⟩) (fun q => q.1 ≤ bs.length ∧ 2 ≤ q.2) (fun q => bs.length - q.1) (0, 2)
    (Wk.mk (by simp [get_cons]) ⟨[], by simp [flat_rep, filled_zero]⟩ (Nat.le_refl _)) ⟨by omega, by omega⟩ ?_
  rintro ⟨k, nx⟩ ⟨hk, hnx⟩
  simp only [go_sem,Nat.reduceEqDiff,Nat.reduceAdd,Nat.reduceMul,↓reduceIte,↓dreduceIte,reduceCtorEq,Nat.reduceLeDiff,Nat.reduceLT,Nat.reduceSub,Int.reduceToNat,Int.reduceLE,Int.reduceLT]
  refine ⟨fun h => ?_, fun h => ?_⟩
  · have hl := filled_length nxtv nilv bs (show k ≤ bs.length by omega)
    rw [i64_in (by omega) (by omega)]
    have hs := filled_set nxtv nilv bs (show k < bs.length by omega)
    have hsk := filled_skip nxtv nilv bs (show k < bs.length by omega)
    generalize hx : bs.getD k default = b at *
    refine ⟨by omega, fun h1 => ?_, fun h1 => ⟨fun h2 => ?_, fun h2 => ?_⟩⟩
    · repeat (refine And.intro (by omega) ?_)
      intro _
      refine ⟨(k + 1, nx + 1 + 1), ⟨by simp; omega, by simp⟩, by simp; omega, Wk.give (by simp [get_cons]) ?_ (Nat.le_refl _)⟩
      simp only [OW, CW.refl, Nat.reduceEqDiff, false_implies, true_and, and_true]
      rw [← hs, show nxtv b = ints [b.to] by simp [nxtv, h1]]
      exact CW.set (frz_ints (by simp) rfl rfl)
    · have h1 : b.e ≠ 1 := by simpa using h1
      repeat (refine And.intro (by omega) ?_)
      refine ⟨(k + 1, nx + 1 + 1), ⟨by simp; omega, by simp⟩, by simp; omega, Wk.give (by simp [get_cons]) ?_ (Nat.le_refl _)⟩
      simp only [OW, CW.refl, Nat.reduceEqDiff, false_implies, true_and, and_true]
      rw [← hs, show nxtv b = ints [b.to, b.el] by simp [nxtv, h2]]
      exact CW.set (frz_ints (by simp) rfl rfl)
    · refine ⟨(k + 1, nx + 1), ⟨by simp; omega, by simp; omega⟩, by simp; omega, Wk.give (by simp [get_cons]) ?_ (Nat.le_refl _)⟩
      simp only [OW, CW.refl, Nat.reduceEqDiff, false_implies, true_and, and_true]
      rw [← hsk (by (try simp at h1 h2); simp [nxtv, h1, h2])]
      exact CW.refl _
  · refine ⟨_, ?_, rfl⟩
    rw [filled_all nxtv nilv bs (by omega)]
    exact frz_map (by omega) rfl rfl nxtv_one (fun b _ => nxtv_frz _ _ _ b)
end Go.Proofs.Ytncjbipnkdlkoaa
namespace Go.Proofs.Ytncjbipnkdlkoaa
set_option linter.unusedSimpArgs false
set_option linter.unusedVariables false
set_option maxRecDepth 10000
open Go.V
theorem within_c (a b : List Bool) (h : a.length ≤ b.length) (ha : a.length ≤ 140737488355328) : Contract Try.prog 53 [bools a, bools b] (fun r => r = B (withinB a b)) := by
  refine Contract.of_call (VCall.of_body hmix f_live_within (by simp) ?_)
  simp only [go_sem,Nat.reduceEqDiff,Nat.reduceAdd,Nat.reduceMul,↓reduceIte,↓dreduceIte,reduceCtorEq,Nat.reduceLeDiff,Nat.reduceLT,Nat.reduceSub,Int.reduceToNat,Int.reduceLE,Int.reduceLT, c_live_within]
  refine VW_loop (fun k : Nat => ⟨[(0, bools a), (1, bools b), (7, bools a), (8, I a.length), (9, I k)], [], 0⟩) (fun k => k ≤ a.length ∧ ∀ i < k, gB a i = true → gB b i = true) (fun k => a.length - k) 0 (Wk.mk (by simp [get_cons]) ⟨[], rfl⟩ (Nat.le_refl _)) ⟨by omega, by omega⟩ ?_
  rintro k ⟨hk, hp⟩
  by_cases h1 : k < a.length
  · cases h2 : gB a k
    · simp only [go_sem,Nat.reduceEqDiff,Nat.reduceAdd,Nat.reduceMul,↓reduceIte,↓dreduceIte,reduceCtorEq,Nat.reduceLeDiff,Nat.reduceLT,Nat.reduceSub,Int.reduceToNat,Int.reduceLE,Int.reduceLT, eq_true (show (k : Int) < a.length by omega), gB_getD, h2]
      rw [i64_in (by omega) (by omega)]
      refine ⟨by omega, k + 1, ⟨by omega, fun i hi e => ?_⟩, by omega, Wk.mk (by simp [get_cons]) ⟨[], rfl⟩ (Nat.le_refl _)⟩
      by_cases e2 : i = k
      · rw [e2, h2] at e; cases e
      · exact hp i (by omega) e
    · cases h3 : gB b k
      · simp only [go_sem,Nat.reduceEqDiff,Nat.reduceAdd,Nat.reduceMul,↓reduceIte,↓dreduceIte,reduceCtorEq,Nat.reduceLeDiff,Nat.reduceLT,Nat.reduceSub,Int.reduceToNat,Int.reduceLE,Int.reduceLT, eq_true (show (k : Int) < a.length by omega), gB_getD, h2, h3]
        refine ⟨by omega, by omega, _, Frz.pure rfl, ?_⟩
        rw [show withinB a b = false from decide_eq_false fun e => by have := e k h1 h2; rw [h3] at this; cases this]
      · simp only [go_sem,Nat.reduceEqDiff,Nat.reduceAdd,Nat.reduceMul,↓reduceIte,↓dreduceIte,reduceCtorEq,Nat.reduceLeDiff,Nat.reduceLT,Nat.reduceSub,Int.reduceToNat,Int.reduceLE,Int.reduceLT, eq_true (show (k : Int) < a.length by omega), gB_getD, h2, h3]
        rw [i64_in (by omega) (by omega)]
        refine ⟨by omega, by omega, k + 1, ⟨by omega, fun i hi e => ?_⟩, by omega, Wk.mk (by simp [get_cons]) ⟨[], rfl⟩ (Nat.le_refl _)⟩
        by_cases e2 : i = k
        · rw [e2]; exact h3
        · exact hp i (by omega) e
  · simp only [go_sem,Nat.reduceEqDiff,Nat.reduceAdd,Nat.reduceMul,↓reduceIte,↓dreduceIte,reduceCtorEq,Nat.reduceLeDiff,Nat.reduceLT,Nat.reduceSub,Int.reduceToNat,Int.reduceLE,Int.reduceLT, eq_false (show ¬ (k : Int) < a.length by omega)]
    refine ⟨_, Frz.pure rfl, ?_⟩
    rw [show withinB a b = true from decide_eq_true fun i hi => hp i (by omega)]
theorem fits_c (f : BF) (m : List (List Bool)) (hm : m.length ≤ 140737488355328) : Contract Try.prog 51 [bfA f, rowsA m] (fun x => x = B (sizedL m f.bks.length f.regs)) := by
  refine Contract.of_call (VCall.of_body hmix f_live_fits (by simp) ?_)
  by_cases h : (m.length : Int) = f.bks.length
  · simp only [go_sem,Nat.reduceEqDiff,Nat.reduceAdd,Nat.reduceMul,↓reduceIte,↓dreduceIte,reduceCtorEq,Nat.reduceLeDiff,Nat.reduceLT,Nat.reduceSub,Int.reduceToNat,Int.reduceLE,Int.reduceLT, c_live_fits, one_imm, List.length_map, eq_true h]
    refine VW_loop (fun k : Nat => ⟨[(2, .ptr 0 0 0), (13, rowsA m), (14, I m.length), (15, I k)], [⟨0, 24, 1, [I f.regs, bksA f.bks]⟩], 1⟩) (fun k => k ≤ m.length ∧ (m.take k).all (fun l => decide ((l.length : Int) = f.regs)) = true) (fun k => m.length - k) 0 (Wk.mk (by simp [get_cons]) ⟨[], rfl⟩ (Nat.le_refl _)) ⟨by omega, rfl⟩ ?_
    rintro k ⟨hk, hp⟩
    by_cases h1 : k < m.length
    · by_cases h2 : ((m.getD k default).length : Int) = f.regs
      · simp only [go_sem,Nat.reduceEqDiff,Nat.reduceAdd,Nat.reduceMul,↓reduceIte,↓dreduceIte,reduceCtorEq,Nat.reduceLeDiff,Nat.reduceLT,Nat.reduceSub,Int.reduceToNat,Int.reduceLE,Int.reduceLT, one_imm, List.length_map, eq_true (show (k : Int) < m.length by omega), eq_true h2]
        rw [i64_in (by omega) (by omega)]
        exact ⟨by omega, k + 1, ⟨by omega, all_step h1 hp (decide_eq_true h2)⟩, by omega, Wk.mk (by simp [get_cons]) ⟨[], rfl⟩ (Nat.le_refl _)⟩
      · simp only [go_sem,Nat.reduceEqDiff,Nat.reduceAdd,Nat.reduceMul,↓reduceIte,↓dreduceIte,reduceCtorEq,Nat.reduceLeDiff,Nat.reduceLT,Nat.reduceSub,Int.reduceToNat,Int.reduceLE,Int.reduceLT, one_imm, List.length_map, eq_true (show (k : Int) < m.length by omega), eq_false h2]
        refine ⟨by omega, _, Frz.pure rfl, ?_⟩
        unfold sizedL
        rw [all_stop h1 (decide_eq_false h2)]; simp
    · simp only [go_sem,Nat.reduceEqDiff,Nat.reduceAdd,Nat.reduceMul,↓reduceIte,↓dreduceIte,reduceCtorEq,Nat.reduceLeDiff,Nat.reduceLT,Nat.reduceSub,Int.reduceToNat,Int.reduceLE,Int.reduceLT, one_imm, List.length_map, eq_false (show ¬ (k : Int) < m.length by omega)]
      refine ⟨_, Frz.pure rfl, ?_⟩
      unfold sizedL
      rw [all_end (by omega) hp]; simp [h]
  · simp only [go_sem,Nat.reduceEqDiff,Nat.reduceAdd,Nat.reduceMul,↓reduceIte,↓dreduceIte,reduceCtorEq,Nat.reduceLeDiff,Nat.reduceLT,Nat.reduceSub,Int.reduceToNat,Int.reduceLE,Int.reduceLT, c_live_fits, one_imm, List.length_map, eq_false h]
    refine ⟨_, Frz.pure rfl, ?_⟩
    unfold sizedL
    rw [decide_eq_false h]; rfl
end Go.Proofs.Ytncjbipnkdlkoaa
namespace Go.Proofs.Ytncjbipnkdlkoaa
set_option linter.unusedSimpArgs false
set_option linter.unusedVariables false
set_option maxRecDepth 10000
open Go.V
theorem down_v (n idY sy idN sN : Nat) (Inv : Nat → List VObj → Nat → Prop) (H0 : List VObj) (nx0 : Nat) (C : AV → List VObj → Nat → Prop) (hn : n ≤ 1000000)
    (hbox : ∀ k H nx, Inv k H nx → H[idN]? = some ⟨sN, 3, 1, [I n]⟩)
    (hy : ∀ k H nx (C' : AV → List VObj → Nat → Prop), k < n → Inv k H nx → (∀ H' nx', Inv (k + 1) H' nx' → C' (B true) H' nx') → YCall Try.prog idY sy [I ((n : Int) - 1 - k)] H nx C')
    (h0 : Inv 0 H0 nx0) (hC : ∀ r H nx, Inv n H nx → C r H nx) : VCall Try.prog 65 [.yld idY sy, .ptr idN sN 0] H0 nx0 C := by
  refine VCall.of_bodyB hmix f_live_down_1 (by simp) ?_
  simp only [go_sem,Nat.reduceEqDiff,Nat.reduceAdd,Nat.reduceMul,↓reduceIte,↓dreduceIte,reduceCtorEq,Nat.reduceLeDiff,Nat.reduceLT,Nat.reduceSub,Int.reduceToNat,Int.reduceLE,Int.reduceLT, c_live_down_1, hbox _ _ _ h0]
  rw [i64_in (by omega) (by omega)]
  refine VW_loop (fun q : Nat × List VObj × Nat => ⟨[(0, .yld idY sy), (1, .ptr idN sN 0), (3, I ((n : Int) - 1 - q.1))], q.2.1, q.2.2⟩) (fun q => q.1 ≤ n ∧ Inv q.1 q.2.1 q.2.2) (fun q => n - q.1) (0, H0, nx0)
    (Wk.mk (by simp [get_cons]) ⟨[], by simp⟩ (Nat.le_refl _)) ⟨by omega, h0⟩ ?_
  rintro ⟨k, H, nx⟩ ⟨hk, hI⟩
  simp only at hk hI
  by_cases h1 : k < n
  · simp only [go_sem,Nat.reduceEqDiff,Nat.reduceAdd,Nat.reduceMul,↓reduceIte,↓dreduceIte,reduceCtorEq,Nat.reduceLeDiff,Nat.reduceLT,Nat.reduceSub,Int.reduceToNat,Int.reduceLE,Int.reduceLT, eq_true (show (0 : Int) ≤ (n : Int) - 1 - k by omega)]
    refine hy k H nx _ h1 hI fun H' nx' hI' => ?_
    simp only [go_sem,Nat.reduceEqDiff,Nat.reduceAdd,Nat.reduceMul,↓reduceIte,↓dreduceIte,reduceCtorEq,Nat.reduceLeDiff,Nat.reduceLT,Nat.reduceSub,Int.reduceToNat,Int.reduceLE,Int.reduceLT]
    rw [i64_in (by omega) (by omega)]
    exact ⟨(k + 1, H', nx'), ⟨by simp; omega, hI'⟩, by simp; omega, Wk.mk (by simp [get_cons]; omega) ⟨[], by simp⟩ (Nat.le_refl _)⟩
  · simp only [go_sem,Nat.reduceEqDiff,Nat.reduceAdd,Nat.reduceMul,↓reduceIte,↓dreduceIte,reduceCtorEq,Nat.reduceLeDiff,Nat.reduceLT,Nat.reduceSub,Int.reduceToNat,Int.reduceLE,Int.reduceLT, eq_false (show ¬ (0 : Int) ≤ (n : Int) - 1 - k by omega)]
    obtain rfl : k = n := by omega
    exact hC _ _ _ hI
theorem cpy_B (l : List Bool) : (List.take (min l.length l.length) (List.map B l) ++ List.drop (min l.length l.length) (List.map B (List.replicate l.length false))) = l.map B := by
  rw [List.take_of_length_le (by simp), List.drop_of_length_le (by simp), List.append_nil]
theorem rep_B (n : Nat) : (List.replicate n [AV.val (.bool false)]).flatten = (List.replicate n false).map B := by rw [flat_rep]; simp
theorem clear_pos {t : Tac} {l : List Bool} (h : 0 ≤ setsL t) : l.set (setsL t).toNat false = clearL t l := (if_pos h).symm
theorem clear_neg {t : Tac} {l : List Bool} (h : ¬ 0 ≤ setsL t) : clearL t l = l := if_neg h
theorem last_pos {b : Bk} {l : List Bool} (h : b.e = 2) : l.set b.v.toNat true = lastL b l := (if_pos h).symm
theorem last_neg {b : Bk} {l : List Bool} (h : ¬ b.e = 2) : lastL b l = l := if_neg h
abbrev atL (b : Bk) (l : List Bool) (k : Nat) : List Bool := thruL (b.ins.drop (b.ins.length - k)) (lastL b l)
theorem atL_len (b : Bk) (l : List Bool) (k : Nat) : (atL b l k).length = l.length := by rw [atL, thruL_len, lastL_len]
theorem atL_step (b : Bk) (l : List Bool) {k : Nat} (h : k < b.ins.length) : backL (b.ins.getD (b.ins.length - k - 1) default) (atL b l k) = atL b l (k + 1) := by
  unfold atL
  rw [show b.ins.length - (k + 1) = b.ins.length - k - 1 by omega, drop_back _ _ (show b.ins.length - k - 1 < b.ins.length by omega), show b.ins.length - k - 1 + 1 = b.ins.length - k by omega]
theorem atL_zero (b : Bk) (l : List Bool) : atL b l 0 = lastL b l := by simp [atL, thruL]
theorem atL_all (b : Bk) (l : List Bool) : atL b l b.ins.length = aheadL b l := by simp [atL, aheadL]
abbrev thH (b : Bk) (n : Nat) (l : List Bool) (R : VObj) : List VObj := [⟨0, 60, 1, bkL b⟩, ⟨1, 106, 1, [.val .nilFunc]⟩, ⟨2, 4, 1, l.map B⟩, ⟨3, 64, 1, [.ref 2 2 0 n]⟩, ⟨4, 3, 1, [I b.ins.length]⟩, R]
theorem through_c (b : Bk) (l : List Bool) (hl : l.length ≤ 100000) (hn : b.ins.length ≤ 1000000) (hv : b.e = 2 → 0 ≤ b.v ∧ b.v < l.length) (hr : ∀ t ∈ b.ins, RegT t l.length) :
    Contract Try.prog 54 [bkA b, bools l, .val .nilFunc] (fun r => r = bools (aheadL b l)) := by
  refine Contract.of_call (VCall.of_bodyB hmix f_live_through (by simp) ?_)
  have hmx : (200000 : Nat) ≤ maxLen := by decide
  by_cases h : b.e = 2
  all_goals
    have hv1 := hv
    first
    | simp only [go_sem,Nat.reduceEqDiff,Nat.reduceAdd,Nat.reduceMul,↓reduceIte,↓dreduceIte,reduceCtorEq,Nat.reduceLeDiff,Nat.reduceLT,Nat.reduceSub,Int.reduceToNat,Int.reduceLE,Int.reduceLT, c_live_through, one_imm, one_ref, List.length_map, cells_B, rep_B, cpy_B, eq_true h, set_B, last_pos h]
    | simp only [go_sem,Nat.reduceEqDiff,Nat.reduceAdd,Nat.reduceMul,↓reduceIte,↓dreduceIte,reduceCtorEq,Nat.reduceLeDiff,Nat.reduceLT,Nat.reduceSub,Int.reduceToNat,Int.reduceLE,Int.reduceLT, c_live_through, one_imm, one_ref, List.length_map, cells_B, rep_B, cpy_B, eq_false h]
    repeat ((with_reducible refine And.intro ?_ ?_); · first | exact laid_B l | omega | exact Nat.le_trans hl (by decide))
    refine VCall.of_body hmix f_live_down (by simp) ?_
    simp only [go_sem,Nat.reduceEqDiff,Nat.reduceAdd,Nat.reduceMul,↓reduceIte,↓dreduceIte,reduceCtorEq,Nat.reduceLeDiff,Nat.reduceLT,Nat.reduceSub,Int.reduceToNat,Int.reduceLE,Int.reduceLT, c_live_down, one_imm, one_ref, List.length_map]
    intro R Bo E hz hY
    refine down_v b.ins.length 5 5 4 4 (fun k H nx => H = thH b l.length (atL b l k) R ∧ nx = 6) _ _ _ hn (fun k H nx hI => by rw [hI.1]; rfl) (fun k H nx C' hk hI hC' => ?_) ⟨by simp only [atL_zero, thH]; first | rfl | (rw [last_neg h]; rfl), rfl⟩ fun r H nx hI => ?_
    · obtain ⟨rfl, rfl⟩ := hI
      refine hY _ _ _ _ rfl rfl ?_
      have e1 : ((b.ins.length : Int) - 1 - k).toNat = b.ins.length - k - 1 := by omega
      have hrt := hr _ (mem_getD (show b.ins.length - k - 1 < b.ins.length by omega))
      simp only [go_sem,Nat.reduceEqDiff,Nat.reduceAdd,Nat.reduceMul,↓reduceIte,↓dreduceIte,reduceCtorEq,Nat.reduceLeDiff,Nat.reduceLT,Nat.reduceSub,Int.reduceToNat,Int.reduceLE,Int.reduceLT, one_imm, one_ref, List.length_map, e1, List.zip_cons_cons, List.zip_nil_left]
      repeat ((with_reducible refine And.intro ?_ ?_); · omega)
      refine VCall.of_contract (bSets_c _) (SleL.pure rfl) fun r hr' => ?_
      subst hr'
      have hst := atL_step b l hk
      have hlk := atL_len b l k
      generalize hgt : b.ins.getD (b.ins.length - k - 1) default = t at hrt hst ⊢
      generalize hgx : atL b l k = x at hst hlk ⊢
      have hcl : (clearL t x).length = l.length := by rw [clearL_len, hlk]
      by_cases h0 : 0 ≤ setsL t
      all_goals
        have hs1 : 0 ≤ setsL t → setsL t < l.length := fun h => by rcases hrt.sets with e | e <;> omega
        first
        | simp only [go_sem,Nat.reduceEqDiff,Nat.reduceAdd,Nat.reduceMul,↓reduceIte,↓dreduceIte,reduceCtorEq,Nat.reduceLeDiff,Nat.reduceLT,Nat.reduceSub,Int.reduceToNat,Int.reduceLE,Int.reduceLT, one_imm, one_ref, List.length_map, e1, eq_true h0, set_B, clear_pos h0, hgt]
        | simp only [go_sem,Nat.reduceEqDiff,Nat.reduceAdd,Nat.reduceMul,↓reduceIte,↓dreduceIte,reduceCtorEq,Nat.reduceLeDiff,Nat.reduceLT,Nat.reduceSub,Int.reduceToNat,Int.reduceLE,Int.reduceLT, one_imm, one_ref, List.length_map, e1, eq_false h0, hgt]
        repeat ((with_reducible refine And.intro ?_ ?_); · first | omega | (have := hs1 h0; omega))
        refine VCall.of_contractN (bUses_c t) ?_ fun r hr' => ?_
        · exact ⟨_, _, rfl, Frz.pure rfl, rfl⟩
        subst hr'
        simp only [go_sem,Nat.reduceEqDiff,Nat.reduceAdd,Nat.reduceMul,↓reduceIte,↓dreduceIte,reduceCtorEq,Nat.reduceLeDiff,Nat.reduceLT,Nat.reduceSub,Int.reduceToNat,Int.reduceLE,Int.reduceLT, one_imm, one_ref, List.length_map]
        refine VW_loop (fun j : Nat => ⟨[(3, .ptr 0 0 0), (7, .ptr 3 3 0), (52, ints (usesL t)), (53, I (usesL t).length), (54, I j)], thH b l.length (useL (clearL t x) ((usesL t).take j)) Bo, 6⟩)
          (fun j => j ≤ (usesL t).length) (fun j => (usesL t).length - j) 0 (Wk.mk (by simp [get_cons]) ⟨[], by first | rfl | (rw [clear_neg h0]; rfl)⟩ (Nat.le_refl _)) (by omega) ?_
        intro j hj
        have hu2 := usesL_len t
        by_cases hlt : j < (usesL t).length
        · have hu := hrt.1 _ (mem_getD hlt)
          simp only [go_sem,Nat.reduceEqDiff,Nat.reduceAdd,Nat.reduceMul,↓reduceIte,↓dreduceIte,reduceCtorEq,Nat.reduceLeDiff,Nat.reduceLT,Nat.reduceSub,Int.reduceToNat,Int.reduceLE,Int.reduceLT, one_imm, one_ref, List.length_map, eq_true (show (j : Int) < (usesL t).length by omega), set_B, ← useL_take _ _ hlt, useL_len, hcl]
          repeat ((with_reducible refine And.intro ?_ ?_); · omega)
          rw [i64_in (by omega) (by omega)]
          exact ⟨j + 1, by omega, by omega, Wk.mk (by simp [get_cons]) ⟨[], rfl⟩ (Nat.le_refl _)⟩
        · simp only [go_sem,Nat.reduceEqDiff,Nat.reduceAdd,Nat.reduceMul,↓reduceIte,↓dreduceIte,reduceCtorEq,Nat.reduceLeDiff,Nat.reduceLT,Nat.reduceSub,Int.reduceToNat,Int.reduceLE,Int.reduceLT, one_imm, one_ref, List.length_map, eq_false (show ¬ (j : Int) < (usesL t).length by omega)]
          refine hC' _ _ ⟨?_, rfl⟩
          rw [List.take_of_length_le (by omega), ← hst]
          rfl
    · obtain ⟨rfl, rfl⟩ := hI
      refine ⟨rfl, ?_⟩
      clear hY
      rw [atL_all]
      simp only [go_sem,Nat.reduceEqDiff,Nat.reduceAdd,Nat.reduceMul,↓reduceIte,↓dreduceIte,reduceCtorEq,Nat.reduceLeDiff,Nat.reduceLT,Nat.reduceSub,Int.reduceToNat,Int.reduceLE,Int.reduceLT, one_imm, one_ref, List.length_map]
      exact ⟨_, frz_bools (Nat.zero_le _) rfl (by rw [aheadL_len]), rfl⟩
end Go.Proofs.Ytncjbipnkdlkoaa
namespace Go.Proofs.Ytncjbipnkdlkoaa
set_option linter.unusedSimpArgs false
set_option linter.unusedVariables false
set_option maxRecDepth 10000
open Go.V
def EndsP (b : Bk) (blocks regs : Int) : Prop :=
  if b.e = 1 then 0 ≤ b.to ∧ b.to < blocks ∧ b.v = 0 ∧ b.el = 0
  else if b.e = 2 then 0 ≤ b.to ∧ b.to < blocks ∧ 0 ≤ b.el ∧ b.el < blocks ∧ 0 ≤ b.v ∧ b.v < regs
  else b.e = 3 ∧ b.v = 0 ∧ b.to = 0 ∧ b.el = 0
instance (b : Bk) (n r : Int) : Decidable (EndsP b n r) := by unfold EndsP; exact inferInstance
def endsB (b : Bk) (n r : Int) : Bool := decide (EndsP b n r)
theorem rends_c (b : Bk) (n r : Int) : Contract Try.prog 38 [bkA b, I n, I r] (fun x => x = B (endsB b n r)) := by
  refine Contract.of_call (VCall.of_body hmix f_scref24_ends (by simp) ?_)
  obtain ⟨ins, e, v, to, el⟩ := b
  obtain ⟨x, hx⟩ : ∃ x, endsB ⟨ins, e, v, to, el⟩ n r = x := ⟨_, rfl⟩
  rw [hx]
  have hX : (x = true ↔ EndsP ⟨ins, e, v, to, el⟩ n r) := by rw [← hx]; exact decide_eq_true_iff
  have he : e = 1 ∨ e = 2 ∨ e = 3 ∨ (e ≠ 1 ∧ e ≠ 2 ∧ e ≠ 3) := by omega
  rcases he with rfl | rfl | rfl | ⟨h1, h2, h3⟩
  · simp only [EndsP, if_true] at hX
    simp only [go_sem,Nat.reduceEqDiff,Nat.reduceAdd,Nat.reduceMul,↓reduceIte,↓dreduceIte,reduceCtorEq,Nat.reduceLeDiff,Nat.reduceLT,Nat.reduceSub,Int.reduceToNat,Int.reduceLE,Int.reduceLT, c_scref24_ends, one_imm', Int.reduceEq, Int.reduceBEq]
    refine VCall.of_contract (rwithin_c _ _) (SleL.pure rfl) fun y hy => ?_
    subst hy
    cases hb : inB to n
    · have hb' := of_decide_eq_false hb
      simp only [go_sem,Nat.reduceEqDiff,Nat.reduceAdd,Nat.reduceMul,↓reduceIte,↓dreduceIte,reduceCtorEq,Nat.reduceLeDiff,Nat.reduceLT,Nat.reduceSub,Int.reduceToNat,Int.reduceLE,Int.reduceLT, hb]
      refine ⟨_, Frz.pure rfl, ?_⟩
      congr 2
      rw [Bool.eq_iff_iff, hX]
      simp only [Bool.false_eq_true, false_iff, not_and, and_imp]
      intros; omega
    · have hb' := of_decide_eq_true hb
      simp only [go_sem,Nat.reduceEqDiff,Nat.reduceAdd,Nat.reduceMul,↓reduceIte,↓dreduceIte,reduceCtorEq,Nat.reduceLeDiff,Nat.reduceLT,Nat.reduceSub,Int.reduceToNat,Int.reduceLE,Int.reduceLT, hb]
      repeat' (first | (with_reducible apply And.intro) | (with_reducible intro _))
      all_goals
        refine ⟨_, Frz.pure rfl, ?_⟩
        congr 2
        rw [Bool.eq_iff_iff, hX]
        simp only [Bool.and_eq_true, beq_iff_eq, true_and, and_true, Bool.false_eq_true, false_iff, not_and, and_imp]
        first | omega | (intros; omega)
  · simp only [EndsP, if_true, Int.reduceEq, if_false] at hX
    simp only [go_sem,Nat.reduceEqDiff,Nat.reduceAdd,Nat.reduceMul,↓reduceIte,↓dreduceIte,reduceCtorEq,Nat.reduceLeDiff,Nat.reduceLT,Nat.reduceSub,Int.reduceToNat,Int.reduceLE,Int.reduceLT, c_scref24_ends, one_imm', Int.reduceEq, Int.reduceBEq]
    refine VCall.of_contract (rwithin_c _ _) (SleL.pure rfl) fun y hy => ?_
    subst hy
    cases hb : inB to n
    · have hb' := of_decide_eq_false hb
      simp only [go_sem,Nat.reduceEqDiff,Nat.reduceAdd,Nat.reduceMul,↓reduceIte,↓dreduceIte,reduceCtorEq,Nat.reduceLeDiff,Nat.reduceLT,Nat.reduceSub,Int.reduceToNat,Int.reduceLE,Int.reduceLT, hb]
      refine ⟨_, Frz.pure rfl, ?_⟩
      congr 2
      rw [Bool.eq_iff_iff, hX]
      simp only [Bool.false_eq_true, false_iff, not_and, and_imp]
      intros; omega
    · have hb' := of_decide_eq_true hb
      simp only [go_sem,Nat.reduceEqDiff,Nat.reduceAdd,Nat.reduceMul,↓reduceIte,↓dreduceIte,reduceCtorEq,Nat.reduceLeDiff,Nat.reduceLT,Nat.reduceSub,Int.reduceToNat,Int.reduceLE,Int.reduceLT, hb]
      refine VCall.of_contract (rwithin_c _ _) (SleL.pure rfl) fun y hy => ?_
      subst hy
      cases hc : inB el n
      · have hc' := of_decide_eq_false hc
        simp only [go_sem,Nat.reduceEqDiff,Nat.reduceAdd,Nat.reduceMul,↓reduceIte,↓dreduceIte,reduceCtorEq,Nat.reduceLeDiff,Nat.reduceLT,Nat.reduceSub,Int.reduceToNat,Int.reduceLE,Int.reduceLT, hc]
        refine ⟨_, Frz.pure rfl, ?_⟩
        congr 2
        rw [Bool.eq_iff_iff, hX]
        simp only [Bool.false_eq_true, false_iff, not_and, and_imp]
        intros; omega
      · have hc' := of_decide_eq_true hc
        simp only [go_sem,Nat.reduceEqDiff,Nat.reduceAdd,Nat.reduceMul,↓reduceIte,↓dreduceIte,reduceCtorEq,Nat.reduceLeDiff,Nat.reduceLT,Nat.reduceSub,Int.reduceToNat,Int.reduceLE,Int.reduceLT, hc]
        refine VCall.of_contract (rwithin_c _ _) (SleL.pure rfl) fun y hy => ?_
        subst hy
        simp only [go_sem,Nat.reduceEqDiff,Nat.reduceAdd,Nat.reduceMul,↓reduceIte,↓dreduceIte,reduceCtorEq,Nat.reduceLeDiff,Nat.reduceLT,Nat.reduceSub,Int.reduceToNat,Int.reduceLE,Int.reduceLT]
        refine ⟨_, Frz.pure rfl, ?_⟩
        congr 2
        rw [Bool.eq_iff_iff, hX]
        unfold inB
        rw [decide_eq_true_iff]
        omega
  · simp only [EndsP, if_true, Int.reduceEq, if_false] at hX
    simp only [go_sem,Nat.reduceEqDiff,Nat.reduceAdd,Nat.reduceMul,↓reduceIte,↓dreduceIte,reduceCtorEq,Nat.reduceLeDiff,Nat.reduceLT,Nat.reduceSub,Int.reduceToNat,Int.reduceLE,Int.reduceLT, c_scref24_ends, one_imm', Int.reduceEq, Int.reduceBEq]
    repeat' (first | (with_reducible apply And.intro) | (with_reducible intro _))
    all_goals
      refine ⟨_, Frz.pure rfl, ?_⟩
      congr 2
      rw [Bool.eq_iff_iff, hX]
      simp only [Bool.and_eq_true, beq_iff_eq, true_and, and_true, Bool.false_eq_true, false_iff, not_and, and_imp]
      first | omega | (intros; omega)
  · simp only [EndsP, if_neg h1, if_neg h2] at hX
    simp only [go_sem,Nat.reduceEqDiff,Nat.reduceAdd,Nat.reduceMul,↓reduceIte,↓dreduceIte,reduceCtorEq,Nat.reduceLeDiff,Nat.reduceLT,Nat.reduceSub,Int.reduceToNat,Int.reduceLE,Int.reduceLT, c_scref24_ends, one_imm', eq_false h1, eq_false h2, eq_false h3, beq_false_of_ne h1, beq_false_of_ne h2, beq_false_of_ne h3]
    refine ⟨_, Frz.pure rfl, ?_⟩
    congr 2
    rw [Bool.eq_iff_iff, hX]
    simp only [Bool.false_eq_true, false_iff, not_and, and_imp]
    intros; omega
def insB (l : List Tac) (number regs words : Int) : Bool := l.all fun t => fitsT t number regs words
def blkB (n regs number words : Int) (b : Bk) : Bool := endsB b n regs && insB b.ins number regs words
def oneB (f : BF) (number words : Int) : Bool := decide (0 ≤ f.regs ∧ f.regs ≤ 4000 ∧ f.bks ≠ []) && f.bks.all (blkB f.bks.length f.regs number words)
theorem rone_c (f : BF) (number words : Int) (hw : 0 ≤ words ∧ words ≤ 1048576) (hb : f.bks.length ≤ 140737488355328) (hi : ∀ b ∈ f.bks, b.ins.length ≤ 140737488355328) :
    Contract Try.prog 20 [bfA f, I number, I words] (fun x => x = B (oneB f number words)) := by
  refine Contract.of_call (VCall.of_body hmix f_scref24_One (by simp) ?_)
  by_cases h : 0 ≤ f.regs ∧ f.regs ≤ 4000 ∧ f.bks ≠ []
  · obtain ⟨h1, h2, h3⟩ := h
    have h4 : (f.bks.length : Int) ≠ 0 := by intro e; exact h3 (List.eq_nil_of_length_eq_zero (by omega))
    simp only [go_sem,Nat.reduceEqDiff,Nat.reduceAdd,Nat.reduceMul,↓reduceIte,↓dreduceIte,reduceCtorEq,Nat.reduceLeDiff,Nat.reduceLT,Nat.reduceSub,Int.reduceToNat,Int.reduceLE,Int.reduceLT, c_scref24_One, one_imm', List.length_map, eq_false (show ¬ f.regs < 0 by omega), eq_false (show ¬ 4000 < f.regs by omega), eq_false h4, beq_false_of_ne h4]
    refine VW_loop (fun k : Nat => ⟨[(1, I number), (2, I words), (3, .ptr 0 0 0), (7, I k)], [⟨0, 24, 1, [I f.regs, bksA f.bks]⟩], 1⟩) (fun k => k ≤ f.bks.length ∧ (f.bks.take k).all (blkB f.bks.length f.regs number words) = true) (fun k => f.bks.length - k) 0
      (Wk.mk (by simp [get_cons]) ⟨[], rfl⟩ (Nat.le_refl _)) ⟨by omega, rfl⟩ ?_
    rintro k ⟨hk, hp⟩
    by_cases hlt : k < f.bks.length
    · have hbi := hi _ (mem_getD hlt)
      have hstop : blkB f.bks.length f.regs number words (f.bks.getD k default) = false → oneB f number words = false := fun e => by unfold oneB; rw [all_stop hlt e]; simp
      have hstep : blkB f.bks.length f.regs number words (f.bks.getD k default) = true → (f.bks.take (k + 1)).all (blkB f.bks.length f.regs number words) = true := fun e => all_step hlt hp e
      simp only [go_sem,Nat.reduceEqDiff,Nat.reduceAdd,Nat.reduceMul,↓reduceIte,↓dreduceIte,reduceCtorEq,Nat.reduceLeDiff,Nat.reduceLT,Nat.reduceSub,Int.reduceToNat,Int.reduceLE,Int.reduceLT, one_imm', List.length_map, eq_true (show (k : Int) < f.bks.length by omega)]
      generalize hbk : f.bks.getD k default = b at hbi hstop hstep ⊢
      repeat (with_reducible refine And.intro (by omega) ?_)
      refine VCall.of_contract (rends_c b _ _) (SleL.pure rfl) fun y hy => ?_
      subst hy
      cases he : endsB b f.bks.length f.regs
      · simp only [go_sem,Nat.reduceEqDiff,Nat.reduceAdd,Nat.reduceMul,↓reduceIte,↓dreduceIte,reduceCtorEq,Nat.reduceLeDiff,Nat.reduceLT,Nat.reduceSub,Int.reduceToNat,Int.reduceLE,Int.reduceLT, he]
        refine ⟨_, Frz.pure rfl, ?_⟩
        rw [hstop (by unfold blkB; rw [he]; rfl)]
      · simp only [go_sem,Nat.reduceEqDiff,Nat.reduceAdd,Nat.reduceMul,↓reduceIte,↓dreduceIte,reduceCtorEq,Nat.reduceLeDiff,Nat.reduceLT,Nat.reduceSub,Int.reduceToNat,Int.reduceLE,Int.reduceLT, he]
        refine VW_loop (fun j : Nat => ⟨[(1, I number), (2, I words), (3, .ptr 0 0 0), (7, I k), (8, I j)], [⟨0, 24, 1, [I f.regs, bksA f.bks]⟩], 1⟩) (fun j => j ≤ b.ins.length ∧ (b.ins.take j).all (fun t => fitsT t number f.regs words) = true) (fun j => b.ins.length - j) 0
          (Wk.mk (by simp [get_cons]) ⟨[], rfl⟩ (Nat.le_refl _)) ⟨by omega, rfl⟩ ?_
        rintro j ⟨hj, hq⟩
        by_cases hl2 : j < b.ins.length
        · simp only [go_sem,Nat.reduceEqDiff,Nat.reduceAdd,Nat.reduceMul,↓reduceIte,↓dreduceIte,reduceCtorEq,Nat.reduceLeDiff,Nat.reduceLT,Nat.reduceSub,Int.reduceToNat,Int.reduceLE,Int.reduceLT, one_imm', List.length_map, hbk, eq_true (show (j : Int) < b.ins.length by omega)]
          repeat (with_reducible refine And.intro (by omega) ?_)
          refine VCall.of_contract (rfits_c _ number f.regs words hw) (SleL.pure rfl) fun y hy => ?_
          subst hy
          cases hf : fitsT (b.ins.getD j default) number f.regs words
          · simp only [go_sem,Nat.reduceEqDiff,Nat.reduceAdd,Nat.reduceMul,↓reduceIte,↓dreduceIte,reduceCtorEq,Nat.reduceLeDiff,Nat.reduceLT,Nat.reduceSub,Int.reduceToNat,Int.reduceLE,Int.reduceLT, hf]
            refine ⟨_, Frz.pure rfl, ?_⟩
            rw [hstop (by unfold blkB insB; rw [all_stop hl2 hf]; simp)]
          · simp only [go_sem,Nat.reduceEqDiff,Nat.reduceAdd,Nat.reduceMul,↓reduceIte,↓dreduceIte,reduceCtorEq,Nat.reduceLeDiff,Nat.reduceLT,Nat.reduceSub,Int.reduceToNat,Int.reduceLE,Int.reduceLT, hf]
            rw [i64_in (by omega) (by omega)]
            exact ⟨j + 1, ⟨by omega, all_step hl2 hq hf⟩, by omega, Wk.mk (by simp [get_cons]) ⟨[], rfl⟩ (Nat.le_refl _)⟩
        · simp only [go_sem,Nat.reduceEqDiff,Nat.reduceAdd,Nat.reduceMul,↓reduceIte,↓dreduceIte,reduceCtorEq,Nat.reduceLeDiff,Nat.reduceLT,Nat.reduceSub,Int.reduceToNat,Int.reduceLE,Int.reduceLT, one_imm', List.length_map, hbk, eq_false (show ¬ (j : Int) < b.ins.length by omega)]
          repeat (with_reducible refine And.intro (by omega) ?_)
          rw [i64_in (by omega) (by omega)]
          exact ⟨k + 1, ⟨by omega, hstep (by unfold blkB insB; rw [he, all_end (by omega) hq]; rfl)⟩, by omega, Wk.mk (by simp [get_cons]) ⟨[], rfl⟩ (Nat.le_refl _)⟩
    · simp only [go_sem,Nat.reduceEqDiff,Nat.reduceAdd,Nat.reduceMul,↓reduceIte,↓dreduceIte,reduceCtorEq,Nat.reduceLeDiff,Nat.reduceLT,Nat.reduceSub,Int.reduceToNat,Int.reduceLE,Int.reduceLT, one_imm', List.length_map, eq_false (show ¬ (k : Int) < f.bks.length by omega)]
      refine ⟨_, Frz.pure rfl, ?_⟩
      unfold oneB
      rw [all_end (by omega) hp, decide_eq_true ⟨h1, h2, h3⟩]; rfl
  · have e : oneB f number words = false := by unfold oneB; rw [decide_eq_false h]; rfl
    rw [e]
    by_cases h1 : f.regs < 0
    · simp only [go_sem,Nat.reduceEqDiff,Nat.reduceAdd,Nat.reduceMul,↓reduceIte,↓dreduceIte,reduceCtorEq,Nat.reduceLeDiff,Nat.reduceLT,Nat.reduceSub,Int.reduceToNat,Int.reduceLE,Int.reduceLT, c_scref24_One, one_imm', List.length_map, eq_true h1]
      exact ⟨_, Frz.pure rfl, rfl⟩
    · by_cases h2 : 4000 < f.regs
      · simp only [go_sem,Nat.reduceEqDiff,Nat.reduceAdd,Nat.reduceMul,↓reduceIte,↓dreduceIte,reduceCtorEq,Nat.reduceLeDiff,Nat.reduceLT,Nat.reduceSub,Int.reduceToNat,Int.reduceLE,Int.reduceLT, c_scref24_One, one_imm', List.length_map, eq_false h1, eq_true h2]
        exact ⟨_, Frz.pure rfl, rfl⟩
      · have h3 : f.bks = [] := Classical.byContradiction fun e => h ⟨by omega, by omega, e⟩
        simp only [go_sem,Nat.reduceEqDiff,Nat.reduceAdd,Nat.reduceMul,↓reduceIte,↓dreduceIte,reduceCtorEq,Nat.reduceLeDiff,Nat.reduceLT,Nat.reduceSub,Int.reduceToNat,Int.reduceLE,Int.reduceLT, c_scref24_One, one_imm', List.length_map, eq_false h1, eq_false h2, h3, List.map_nil, List.length_nil, Nat.cast_zero', Int.reduceEq]
        exact ⟨_, Frz.pure rfl, rfl⟩
theorem one_fine {f : BF} {number words : Int} (h : oneB f number words = true) (hb : f.bks.length ≤ 500) (hi : ∀ b ∈ f.bks, b.ins.length ≤ 1000) : Fine f := by
  unfold oneB at h
  simp only [Bool.and_eq_true, decide_eq_true_eq, List.all_eq_true] at h
  obtain ⟨⟨h1, h2, h3⟩, h4⟩ := h
  have he : ∀ b ∈ f.bks, EndsP b f.bks.length f.regs := fun b hbm => by
    have := h4 b hbm
    unfold blkB endsB at this
    simp only [Bool.and_eq_true, decide_eq_true_eq] at this
    exact this.1
  have ht : ∀ b ∈ f.bks, ∀ t ∈ b.ins, FitsT t number f.regs words := fun b hbm t htm => by
    have := h4 b hbm
    unfold blkB insB at this
    simp only [Bool.and_eq_true, List.all_eq_true] at this
    exact of_decide_eq_true (this.2 t htm)
  refine ⟨h1, h2, h3, hb, fun b hbm t htm => ?_, hi, fun b hbm h => ?_, fun b hbm k hk => ?_⟩
  · obtain ⟨_, _, g1, g2, _⟩ := ht b hbm t htm
    exact ⟨g2, fun hs => by rw [if_pos hs] at g1; exact g1⟩
  · have := he b hbm
    unfold EndsP at this
    rw [h, if_neg (by decide), if_pos rfl] at this
    exact ⟨this.2.2.2.2.1, this.2.2.2.2.2⟩
  · have := he b hbm
    unfold EndsP at this
    unfold nxt at hk
    split at hk
    · rename_i h1; rw [if_pos h1] at this; simp at hk; subst hk; exact ⟨this.1, this.2.1⟩
    · rename_i h1
      split at hk
      · rename_i h2; rw [if_neg h1, if_pos h2] at this; simp at hk
        rcases hk with rfl | rfl
        · exact ⟨this.1, this.2.1⟩
        · exact ⟨this.2.2.1, this.2.2.2.1⟩
      · simp at hk
structure BP where
  words : Int
  funcs : List BF
deriving Inhabited, DecidableEq
abbrev bfL (f : BF) : List AV := [I f.regs, bksA f.bks]
abbrev bpA (b : BP) : AV := .agg [I b.words, .imm 2 (b.funcs.map bfA)]
def rightB (b : BP) : Bool := decide (0 ≤ b.words ∧ b.words ≤ 1048576 ∧ b.funcs ≠ []) && (List.range b.funcs.length).all fun i => oneB (b.funcs.getD i default) i b.words
theorem rright_c (b : BP) (hn : b.funcs.length ≤ 140737488355328) (hb : ∀ f ∈ b.funcs, f.bks.length ≤ 140737488355328) (hi : ∀ f ∈ b.funcs, ∀ b ∈ f.bks, b.ins.length ≤ 140737488355328) :
    Contract Try.prog 16 [bpA b] (fun x => x = B (rightB b)) := by
  refine Contract.of_call (VCall.of_body hmix f_scref24_Right (by simp) ?_)
  by_cases h : 0 ≤ b.words ∧ b.words ≤ 1048576 ∧ b.funcs ≠ []
  · obtain ⟨h1, h2, h3⟩ := h
    have h4 : (b.funcs.length : Int) ≠ 0 := by intro e; exact h3 (List.eq_nil_of_length_eq_zero (by omega))
    simp only [go_sem,Nat.reduceEqDiff,Nat.reduceAdd,Nat.reduceMul,↓reduceIte,↓dreduceIte,reduceCtorEq,Nat.reduceLeDiff,Nat.reduceLT,Nat.reduceSub,Int.reduceToNat,Int.reduceLE,Int.reduceLT, c_scref24_Right, one_imm', List.length_map, eq_false (show ¬ b.words < 0 by omega), eq_false (show ¬ 1048576 < b.words by omega), eq_false h4, beq_false_of_ne h4]
    refine VW_loop (fun k : Nat => ⟨[(1, .ptr 0 0 0), (3, I k)], [⟨0, 44, 1, [I b.words, .imm 2 (b.funcs.map bfA)]⟩], 1⟩) (fun k => k ≤ b.funcs.length ∧ ∀ i < k, oneB (b.funcs.getD i default) i b.words = true) (fun k => b.funcs.length - k) 0
      (Wk.mk (by simp [get_cons]) ⟨[], rfl⟩ (Nat.le_refl _)) ⟨by omega, by omega⟩ ?_
    rintro k ⟨hk, hp⟩
    by_cases hlt : k < b.funcs.length
    · simp only [go_sem,Nat.reduceEqDiff,Nat.reduceAdd,Nat.reduceMul,↓reduceIte,↓dreduceIte,reduceCtorEq,Nat.reduceLeDiff,Nat.reduceLT,Nat.reduceSub,Int.reduceToNat,Int.reduceLE,Int.reduceLT, one_imm', List.length_map, eq_true (show (k : Int) < b.funcs.length by omega)]
      repeat (with_reducible refine And.intro (by omega) ?_)
      refine VCall.of_contract (rone_c (b.funcs.getD k default) k b.words ⟨h1, h2⟩ (hb _ (mem_getD hlt)) (hi _ (mem_getD hlt))) (SleL.pure rfl) fun y hy => ?_
      subst hy
      cases ho : oneB (b.funcs.getD k default) k b.words
      · simp only [go_sem,Nat.reduceEqDiff,Nat.reduceAdd,Nat.reduceMul,↓reduceIte,↓dreduceIte,reduceCtorEq,Nat.reduceLeDiff,Nat.reduceLT,Nat.reduceSub,Int.reduceToNat,Int.reduceLE,Int.reduceLT, ho]
        refine ⟨_, Frz.pure rfl, ?_⟩
        rw [show rightB b = false from ?_]
        unfold rightB
        rw [show (List.range b.funcs.length).all (fun i => oneB (b.funcs.getD i default) i b.words) = false from List.all_eq_false.2 ⟨k, List.mem_range.2 hlt, by rw [ho]; decide⟩]
        simp
      · simp only [go_sem,Nat.reduceEqDiff,Nat.reduceAdd,Nat.reduceMul,↓reduceIte,↓dreduceIte,reduceCtorEq,Nat.reduceLeDiff,Nat.reduceLT,Nat.reduceSub,Int.reduceToNat,Int.reduceLE,Int.reduceLT, ho]
        rw [i64_in (by omega) (by omega)]
        refine ⟨k + 1, ⟨by omega, fun i hi => ?_⟩, by omega, Wk.mk (by simp [get_cons]) ⟨[], rfl⟩ (Nat.le_refl _)⟩
        by_cases e : i = k
        · rw [e]; exact ho
        · exact hp i (by omega)
    · simp only [go_sem,Nat.reduceEqDiff,Nat.reduceAdd,Nat.reduceMul,↓reduceIte,↓dreduceIte,reduceCtorEq,Nat.reduceLeDiff,Nat.reduceLT,Nat.reduceSub,Int.reduceToNat,Int.reduceLE,Int.reduceLT, one_imm', List.length_map, eq_false (show ¬ (k : Int) < b.funcs.length by omega)]
      refine ⟨_, Frz.pure rfl, ?_⟩
      rw [show rightB b = true from ?_]
      unfold rightB
      rw [decide_eq_true ⟨h1, h2, h3⟩, Bool.true_and, List.all_eq_true]
      exact fun i hi => hp i (by have := List.mem_range.1 hi; omega)
  · have e : rightB b = false := by unfold rightB; rw [decide_eq_false h]; rfl
    rw [e]
    by_cases h1 : b.words < 0
    · simp only [go_sem,Nat.reduceEqDiff,Nat.reduceAdd,Nat.reduceMul,↓reduceIte,↓dreduceIte,reduceCtorEq,Nat.reduceLeDiff,Nat.reduceLT,Nat.reduceSub,Int.reduceToNat,Int.reduceLE,Int.reduceLT, c_scref24_Right, one_imm', List.length_map, eq_true h1]
      exact ⟨_, Frz.pure rfl, rfl⟩
    · by_cases h2 : 1048576 < b.words
      · simp only [go_sem,Nat.reduceEqDiff,Nat.reduceAdd,Nat.reduceMul,↓reduceIte,↓dreduceIte,reduceCtorEq,Nat.reduceLeDiff,Nat.reduceLT,Nat.reduceSub,Int.reduceToNat,Int.reduceLE,Int.reduceLT, c_scref24_Right, one_imm', List.length_map, eq_false h1, eq_true h2]
        exact ⟨_, Frz.pure rfl, rfl⟩
      · have h3 : b.funcs = [] := Classical.byContradiction fun e => h ⟨by omega, by omega, e⟩
        simp only [go_sem,Nat.reduceEqDiff,Nat.reduceAdd,Nat.reduceMul,↓reduceIte,↓dreduceIte,reduceCtorEq,Nat.reduceLeDiff,Nat.reduceLT,Nat.reduceSub,Int.reduceToNat,Int.reduceLE,Int.reduceLT, c_scref24_Right, one_imm', List.length_map, eq_false h1, eq_false h2, h3, List.map_nil, List.length_nil, Nat.cast_zero', Int.reduceEq]
        exact ⟨_, Frz.pure rfl, rfl⟩
end Go.Proofs.Ytncjbipnkdlkoaa
namespace Go.Proofs.Ytncjbipnkdlkoaa
set_option linter.unusedSimpArgs false
set_option linter.unusedVariables false
set_option maxRecDepth 10000
open Go.V Go.ChangeShapes Go.WideShapes Go.ChangeAt Go.RowKit
theorem Try.own : ownKnob Try.prog.godebug = none := by kernel_rfl
theorem Try.laidOut : laidOutB Try.prog = true := by kernel_rfl
def W32 (n : Int) : Prop := 0 ≤ n ∧ n < 4294967296
abbrev tacSh : Sh := .agg [.int .i64, .int .i64, .int .i64, .int .i64, .int .i64, .int .i64, .int .i64, .int .u32]
abbrev bkSh : Sh := .agg [.sl 8 64 tacSh, .int .i64, .int .i64, .int .i64, .int .i64]
abbrev bfSh : Sh := .agg [.int .i64, .sl 5 56 bkSh]
abbrev rowSh : Sh := .sl 1 1 .bool
abbrev rowsSh : Sh := .sl 1 24 rowSh
theorem fit_w {x : AV} (h : Sh.fit (.int .u32) x) : ∃ n : Int, x = U32 n ∧ W32 n := by
  simp only [Sh.fit] at h
  obtain ⟨n, rfl, h⟩ := h
  simp [Lit.wf, IntKind.min, IntKind.max, IntKind.bits, IntKind.signed] at h
  exact ⟨n, rfl, by unfold W32; omega⟩
abbrev Y8 (n : Int) : AV := .val (.int .u8 n)
theorem fit_y {x : AV} (h : Sh.fit (.int .u8) x) : ∃ n : Int, x = Y8 n ∧ 0 ≤ n ∧ n ≤ 255 := by
  simp only [Sh.fit] at h
  obtain ⟨n, rfl, h⟩ := h
  simp [Lit.wf, IntKind.min, IntKind.max, IntKind.bits, IntKind.signed] at h
  exact ⟨n, rfl, by omega⟩
theorem fit_b {x : AV} (h : Sh.fit .bool x) : ∃ b : Bool, x = B b := by
  simp only [Sh.fit] at h; exact h
structure TacOk (t : Tac) : Prop where
  op : Int64 t.op
  d : Int64 t.d
  a : Int64 t.a
  b : Int64 t.b
  k : Int64 t.k
  base : Int64 t.base
  size : Int64 t.size
  n : W32 t.n
theorem tac_of {x : AV} (h : Sh.fit tacSh x) : ∃ t : Tac, x = tacA t ∧ TacOk t := by
  simp only [tacSh, Sh.fit.eq_5, Sh.fitL] at h
  obtain ⟨ys, rfl, a, _, rfl, ha, b, _, rfl, hb, c, _, rfl, hc, d, _, rfl, hd, e, _, rfl, he, f, _, rfl, hf, g, _, rfl, hg, i, _, rfl, hi, rfl⟩ := h
  obtain ⟨_, rfl, k1⟩ := fit_int ha
  obtain ⟨_, rfl, k2⟩ := fit_int hb
  obtain ⟨_, rfl, k3⟩ := fit_int hc
  obtain ⟨_, rfl, k4⟩ := fit_int hd
  obtain ⟨_, rfl, k5⟩ := fit_int he
  obtain ⟨_, rfl, k6⟩ := fit_int hf
  obtain ⟨_, rfl, k7⟩ := fit_int hg
  obtain ⟨_, rfl, k8⟩ := fit_w hi
  exact ⟨⟨_, _, _, _, _, _, _, _⟩, rfl, k1, k2, k3, k4, k5, k6, k7, k8⟩
structure BkOk (b : Bk) : Prop where
  len : b.ins.length ≤ 140737488355328
  ins : ∀ t ∈ b.ins, TacOk t
  e : Int64 b.e
  v : Int64 b.v
  to : Int64 b.to
  el : Int64 b.el
theorem bk_of {x : AV} (h : Sh.fit bkSh x) : ∃ b : Bk, x = bkA b ∧ BkOk b := by
  simp only [bkSh, Sh.fit.eq_5, Sh.fitL] at h
  obtain ⟨ys, rfl, a, _, rfl, ha, b, _, rfl, hb, c, _, rfl, hc, d, _, rfl, hd, e, _, rfl, he, rfl⟩ := h
  obtain ⟨_, rfl, k2⟩ := fit_int hb
  obtain ⟨_, rfl, k3⟩ := fit_int hc
  obtain ⟨_, rfl, k4⟩ := fit_int hd
  obtain ⟨_, rfl, k5⟩ := fit_int he
  simp only [Sh.fit.eq_4] at ha
  obtain ⟨xs, rfl, _, h1, h2⟩ := ha
  obtain ⟨l, rfl, h3⟩ := maps_of (f := tacA) (p := TacOk) (fun y hy => tac_of hy) xs h2
  exact ⟨⟨l, _, _, _, _⟩, rfl, by simp [reachBytes] at h1 ⊢; omega, h3, k2, k3, k4, k5⟩
structure BfOk (f : BF) : Prop where
  r : Int64 f.regs
  len : f.bks.length ≤ 140737488355328
  bk : ∀ b ∈ f.bks, BkOk b
theorem bf_of {x : AV} (h : Sh.fit bfSh x) : ∃ f : BF, x = bfA f ∧ BfOk f := by
  simp only [bfSh, Sh.fit.eq_5, Sh.fitL] at h
  obtain ⟨ys, rfl, a, _, rfl, ha, e, _, rfl, he, rfl⟩ := h
  obtain ⟨r, rfl, k1⟩ := fit_int ha
  simp only [Sh.fit.eq_4] at he
  obtain ⟨xs, rfl, _, h1, h2⟩ := he
  obtain ⟨l, rfl, h3⟩ := maps_of (f := bkA) (p := BkOk) (fun y hy => bk_of hy) xs h2
  exact ⟨⟨r, l⟩, rfl, k1, by simp [reachBytes] at h1 ⊢; omega, h3⟩
theorem row_of {x : AV} (h : Sh.fit rowSh x) : ∃ l : List Bool, x = bools l ∧ l.length ≤ 140737488355328 := by
  simp only [rowSh, Sh.fit.eq_4] at h
  obtain ⟨xs, rfl, _, h1, h2⟩ := h
  obtain ⟨l, rfl, _⟩ := maps_of (f := B) (p := fun _ => True) (fun y hy => by obtain ⟨b, rfl⟩ := fit_b hy; exact ⟨b, rfl, trivial⟩) xs h2
  exact ⟨l, rfl, by simp [reachBytes] at h1 ⊢; omega⟩
theorem rows_of {x : AV} (h : Sh.fit rowsSh x) : ∃ m : List (List Bool), x = rowsA m ∧ m.length ≤ 140737488355328 ∧ ∀ l ∈ m, l.length ≤ 140737488355328 := by
  simp only [rowsSh, Sh.fit.eq_4] at h
  obtain ⟨xs, rfl, _, h1, h2⟩ := h
  obtain ⟨m, rfl, h3⟩ := maps_of (f := bools) (p := fun l => l.length ≤ 140737488355328) (fun y hy => row_of hy) xs h2
  exact ⟨m, rfl, by simp [reachBytes] at h1 ⊢; omega, h3⟩
structure LOK (L : LD) : Prop where
  i : L.inn.length ≤ 140737488355328
  o : L.out.length ≤ 140737488355328
  ir : ∀ l ∈ L.inn, l.length ≤ 140737488355328
  or : ∀ l ∈ L.out, l.length ≤ 140737488355328
theorem fitS_cons {s : Sh} {ss : List Sh} {ys : List AV} (h : Sh.fitL (s :: ss) ys) : ∃ y ys', ys = y :: ys' ∧ s.fit y ∧ Sh.fitL ss ys' := by
  simp only [Sh.fitL] at h; exact h
end Go.Proofs.Ytncjbipnkdlkoaa
namespace Go.Proofs.Ytncjbipnkdlkoaa
set_option linter.unusedSimpArgs false
set_option linter.unusedVariables false
set_option maxRecDepth 10000
open Go.V
def blkC (f : BF) (L : LD) (b : Nat) : Bool := (nxt (f.bk b)).all (fun k => withinB (L.inn.getD k.toNat default) (L.out.getD b default)) && withinB (aheadL (f.bk b) (L.out.getD b default)) (L.inn.getD b default)
def checkB (f : BF) (L : LD) : Bool := sizedB f L && (List.range f.n).all (blkC f L)
theorem checkB_iff {f : BF} (hf : Fine f) (L : LD) : checkB f L = true ↔ ClosedP f L := by
  unfold checkB
  rw [Bool.and_eq_true, sizedB_iff hf.r0, List.all_eq_true]
  have hrow : ∀ (m : List (List Bool)) b, m.getD b default = m.getD b [] := fun _ _ => rfl
  refine ⟨fun ⟨hs, h⟩ => ⟨hs, ⟨fun b hb k hk v hv h1 => ?_, fun b hb v hv h1 => ?_⟩⟩, fun h => ⟨h.sz, fun b hb => ?_⟩⟩
  · have := h b (List.mem_range.2 hb)
    unfold blkC at this
    rw [Bool.and_eq_true, List.all_eq_true] at this
    have hk' := hf.to _ (BF.mem hb) k hk
    exact of_decide_eq_true (this.1 k hk) v (by rw [hrow, hs.il (show k.toNat < f.n by unfold BF.n; omega)]; exact hv) h1
  · have := h b (List.mem_range.2 hb)
    unfold blkC at this
    rw [Bool.and_eq_true, List.all_eq_true] at this
    refine of_decide_eq_true this.2 v (by rw [aheadL_len, hrow, hs.ol hb]; exact hv) ?_
    rw [hrow, gB_ahead hf hb _ (hs.ol hb) hv]
    exact h1
  · have hb := List.mem_range.1 hb
    unfold blkC
    rw [Bool.and_eq_true, List.all_eq_true]
    refine ⟨fun k hk => ?_, ?_⟩
    · have hk' := hf.to _ (BF.mem hb) k hk
      refine decide_eq_true fun v hv h1 => h.cl.way b hb k hk v ?_ h1
      rw [hrow, h.sz.il (show k.toNat < f.n by unfold BF.n; omega)] at hv
      exact hv
    · refine decide_eq_true fun v hv h1 => h.cl.ahead b hb v ?_ ?_
      · rw [aheadL_len, hrow, h.sz.ol hb] at hv; exact hv
      · rw [aheadL_len, hrow, h.sz.ol hb] at hv
        have := gB_ahead hf hb _ (h.sz.ol hb) hv
        rw [hrow] at h1
        rw [h1] at this
        exact this.symm
theorem Fine.regs {f : BF} (hf : Fine f) {b : Nat} (hb : b < f.n) {l : List Bool} (hl : l.length = f.r) : (∀ t ∈ (f.bk b).ins, RegT t l.length) ∧ ((f.bk b).e = 2 → 0 ≤ (f.bk b).v ∧ (f.bk b).v < l.length) := by
  have h0 := hf.r0
  have e : (l.length : Int) = f.regs := by rw [hl]; unfold BF.r; omega
  rw [e]
  exact ⟨hf.ins _ (BF.mem hb), hf.v _ (BF.mem hb)⟩
theorem rcheck_c (f : BF) (L : LD) (hf : Fine f) (hL : LOK L) : Contract Try.prog 28 [bfA f, liveA L] (fun x => x = B (checkB f L)) := by
  refine Contract.of_call (VCall.of_body hmix f_scref27_Check (by simp) ?_)
  have hn : f.bks.length = f.n := rfl
  have hn5 := hf.b1
  rw [hn] at hn5
  have hr4 := hf.r1
  have hr0 := hf.r0
  have hr : f.r ≤ 4000 := by unfold BF.r; omega
  simp only [go_sem,Nat.reduceEqDiff,Nat.reduceAdd,Nat.reduceMul,↓reduceIte,↓dreduceIte,reduceCtorEq,Nat.reduceLeDiff,Nat.reduceLT,Nat.reduceSub,Int.reduceToNat,Int.reduceLE,Int.reduceLT, c_scref27_Check, one_imm, List.length_map]
  refine VCall.of_contract (rSized_c f L hL.i hL.o) (SleL.pure rfl) fun x hx => ?_
  subst hx
  cases hs : sizedB f L
  · simp only [go_sem,Nat.reduceEqDiff,Nat.reduceAdd,Nat.reduceMul,↓reduceIte,↓dreduceIte,reduceCtorEq,Nat.reduceLeDiff,Nat.reduceLT,Nat.reduceSub,Int.reduceToNat,Int.reduceLE,Int.reduceLT, one_imm, List.length_map]
    exact ⟨_, Frz.pure rfl, by simp [checkB, hs]⟩
  have hS := (sizedB_iff hr0 L).1 hs
  simp only [go_sem,Nat.reduceEqDiff,Nat.reduceAdd,Nat.reduceMul,↓reduceIte,↓dreduceIte,reduceCtorEq,Nat.reduceLeDiff,Nat.reduceLT,Nat.reduceSub,Int.reduceToNat,Int.reduceLE,Int.reduceLT, one_imm, List.length_map]
  refine VCall.of_contract (refnext_c f hf.b1) (SleL.pure rfl) fun x hx => ?_
  subst hx
  simp only [go_sem,Nat.reduceEqDiff,Nat.reduceAdd,Nat.reduceMul,↓reduceIte,↓dreduceIte,reduceCtorEq,Nat.reduceLeDiff,Nat.reduceLT,Nat.reduceSub,Int.reduceToNat,Int.reduceLE,Int.reduceLT, one_imm, List.length_map]
  refine VW_loop (fun k : Nat => ⟨[(2, .ptr 0 0 0), (3, .ptr 1 1 0), (5, .imm 1 (f.bks.map fun b => ints (nxt b))), (6, I k)], [⟨0, 24, 1, [I f.regs, bksA f.bks]⟩, ⟨1, 29, 1, [rowsA L.inn, rowsA L.out]⟩], 2⟩)
    (fun k => k ≤ f.n ∧ ∀ b < k, blkC f L b = true) (fun k => f.n - k) 0 (Wk.mk (by simp [get_cons]) ⟨[], rfl⟩ (Nat.le_refl _)) ⟨by omega, by omega⟩ ?_
  rintro b ⟨hb, hp⟩
  by_cases hlt : b < f.n
  · have hfalse : blkC f L b = false → checkB f L = false := fun e => by
      unfold checkB
      rw [List.all_eq_false.2 ⟨b, List.mem_range.2 hlt, by rw [e]; decide⟩]; simp
    have hbk : f.bks.getD b default = f.bk b := rfl
    have hli : (L.inn.getD b default).length = f.r := hS.il hlt
    have hlo : (L.out.getD b default).length = f.r := hS.ol hlt
    have hnl := nxt_len (f.bk b)
    have hreg := hf.regs hlt hlo
    have hto := hf.to _ (BF.mem hlt)
    have h1i := hS.i
    have h1o := hS.o
    simp only [go_sem,Nat.reduceEqDiff,Nat.reduceAdd,Nat.reduceMul,↓reduceIte,↓dreduceIte,reduceCtorEq,Nat.reduceLeDiff,Nat.reduceLT,Nat.reduceSub,Int.reduceToNat,Int.reduceLE,Int.reduceLT, one_imm, List.length_map, eq_true (show (b : Int) < f.bks.length by omega), hbk]
    refine VW_loop (fun j : Nat => ⟨[(2, .ptr 0 0 0), (3, .ptr 1 1 0), (5, .imm 1 (f.bks.map fun b => ints (nxt b))), (6, I b), (7, I j)], [⟨0, 24, 1, [I f.regs, bksA f.bks]⟩, ⟨1, 29, 1, [rowsA L.inn, rowsA L.out]⟩], 2⟩)
      (fun j => j ≤ (nxt (f.bk b)).length ∧ ((nxt (f.bk b)).take j).all (fun k => withinB (L.inn.getD k.toNat default) (L.out.getD b default)) = true) (fun j => (nxt (f.bk b)).length - j) 0 (Wk.mk (by simp [get_cons]) ⟨[], rfl⟩ (Nat.le_refl _)) ⟨by omega, rfl⟩ ?_
    rintro j ⟨hj, hq⟩
    by_cases hl2 : j < (nxt (f.bk b)).length
    · have hto' := hto _ (mem_getD hl2)
      have hlk : (L.inn.getD ((nxt (f.bk b)).getD j default).toNat default).length = f.r := hS.il (by omega)
      simp only [go_sem,Nat.reduceEqDiff,Nat.reduceAdd,Nat.reduceMul,↓reduceIte,↓dreduceIte,reduceCtorEq,Nat.reduceLeDiff,Nat.reduceLT,Nat.reduceSub,Int.reduceToNat,Int.reduceLE,Int.reduceLT, one_imm, List.length_map, hbk, eq_true (show (j : Int) < (nxt (f.bk b)).length by omega)]
      repeat ((with_reducible refine And.intro ?_ ?_); · omega)
      refine VCall.of_contract (rwithin27_c _ _ (by rw [hlk, hlo]; omega) (by rw [hlk]; omega)) (SleL.pure rfl) fun x hx => ?_
      subst hx
      cases hw : withinB (L.inn.getD ((nxt (f.bk b)).getD j default).toNat default) (L.out.getD b default)
      · simp only [go_sem,Nat.reduceEqDiff,Nat.reduceAdd,Nat.reduceMul,↓reduceIte,↓dreduceIte,reduceCtorEq,Nat.reduceLeDiff,Nat.reduceLT,Nat.reduceSub,Int.reduceToNat,Int.reduceLE,Int.reduceLT, one_imm, List.length_map]
        refine ⟨_, Frz.pure rfl, ?_⟩
        rw [hfalse (by unfold blkC; rw [all_stop hl2 hw]; rfl)]
      · simp only [go_sem,Nat.reduceEqDiff,Nat.reduceAdd,Nat.reduceMul,↓reduceIte,↓dreduceIte,reduceCtorEq,Nat.reduceLeDiff,Nat.reduceLT,Nat.reduceSub,Int.reduceToNat,Int.reduceLE,Int.reduceLT, one_imm, List.length_map]
        rw [i64_in (by omega) (by omega)]
        exact ⟨j + 1, ⟨by omega, all_step hl2 hq hw⟩, by omega, Wk.mk (by simp [get_cons]) ⟨[], rfl⟩ (Nat.le_refl _)⟩
    · simp only [go_sem,Nat.reduceEqDiff,Nat.reduceAdd,Nat.reduceMul,↓reduceIte,↓dreduceIte,reduceCtorEq,Nat.reduceLeDiff,Nat.reduceLT,Nat.reduceSub,Int.reduceToNat,Int.reduceLE,Int.reduceLT, one_imm, List.length_map, hbk, eq_false (show ¬ (j : Int) < (nxt (f.bk b)).length by omega)]
      repeat ((with_reducible refine And.intro ?_ ?_); · omega)
      refine ECall.of (rahead_c (f.bk b) (L.out.getD b default) (by omega) (by have := hf.len _ (BF.mem hlt); omega) hreg.2 hreg.1) (SleL.pure rfl) ⟨_, fun _ => Iff.rfl⟩ fun x hx => ?_
      subst hx
      simp only [go_sem,Nat.reduceEqDiff,Nat.reduceAdd,Nat.reduceMul,↓reduceIte,↓dreduceIte,reduceCtorEq,Nat.reduceLeDiff,Nat.reduceLT,Nat.reduceSub,Int.reduceToNat,Int.reduceLE,Int.reduceLT, one_imm, List.length_map]
      repeat ((with_reducible refine And.intro ?_ ?_); · omega)
      refine ECall.of (rwithin27_c _ _ (by rw [aheadL_len, hli, hlo]; omega) (by rw [aheadL_len, hlo]; omega)) (SleL.pure rfl) ⟨_, fun _ => Iff.rfl⟩ fun x hx => ?_
      subst hx
      cases hw : withinB (aheadL (f.bk b) (L.out.getD b default)) (L.inn.getD b default)
      · simp only [go_sem,Nat.reduceEqDiff,Nat.reduceAdd,Nat.reduceMul,↓reduceIte,↓dreduceIte,reduceCtorEq,Nat.reduceLeDiff,Nat.reduceLT,Nat.reduceSub,Int.reduceToNat,Int.reduceLE,Int.reduceLT, one_imm, List.length_map]
        refine ⟨_, Frz.pure rfl, ?_⟩
        rw [hfalse (by unfold blkC; rw [hw]; simp)]
      · simp only [go_sem,Nat.reduceEqDiff,Nat.reduceAdd,Nat.reduceMul,↓reduceIte,↓dreduceIte,reduceCtorEq,Nat.reduceLeDiff,Nat.reduceLT,Nat.reduceSub,Int.reduceToNat,Int.reduceLE,Int.reduceLT, one_imm, List.length_map]
        rw [i64_in (by omega) (by omega)]
        refine ⟨b + 1, ⟨by omega, fun i hi => ?_⟩, by omega, Wk.mk (by simp [get_cons]) ⟨[], rfl⟩ (Nat.le_refl _)⟩
        by_cases e : i = b
        · rw [e]; unfold blkC; rw [hw, all_end (by omega) hq]; rfl
        · exact hp i (by omega)
  · simp only [go_sem,Nat.reduceEqDiff,Nat.reduceAdd,Nat.reduceMul,↓reduceIte,↓dreduceIte,reduceCtorEq,Nat.reduceLeDiff,Nat.reduceLT,Nat.reduceSub,Int.reduceToNat,Int.reduceLE,Int.reduceLT, one_imm, List.length_map, eq_false (show ¬ (b : Int) < f.bks.length by omega)]
    refine ⟨_, Frz.pure rfl, ?_⟩
    rw [show checkB f L = true from ?_]
    unfold checkB
    rw [hs, Bool.true_and, List.all_eq_true]
    exact fun i hi => hp i (by have := List.mem_range.1 hi; omega)
theorem check_c (f : BF) (L : LD) (hf : Fine f) (hL : LOK L) : Contract Try.prog 33 [bfA f, liveA L] (fun x => x = B (checkB f L)) := by
  refine Contract.of_call (VCall.of_body hmix f_live_Check (by simp) ?_)
  have hn : f.bks.length = f.n := rfl
  have hn5 := hf.b1
  rw [hn] at hn5
  have hr4 := hf.r1
  have hr0 := hf.r0
  have hr : f.r ≤ 4000 := by unfold BF.r; omega
  simp only [go_sem,Nat.reduceEqDiff,Nat.reduceAdd,Nat.reduceMul,↓reduceIte,↓dreduceIte,reduceCtorEq,Nat.reduceLeDiff,Nat.reduceLT,Nat.reduceSub,Int.reduceToNat,Int.reduceLE,Int.reduceLT, c_live_Check, one_imm, List.length_map]
  refine VCall.of_contract (fits_c f L.inn hL.i) (SleL.pure rfl) fun x hx => ?_
  subst hx
  cases hs1 : sizedL L.inn f.bks.length f.regs
  · simp only [go_sem,Nat.reduceEqDiff,Nat.reduceAdd,Nat.reduceMul,↓reduceIte,↓dreduceIte,reduceCtorEq,Nat.reduceLeDiff,Nat.reduceLT,Nat.reduceSub,Int.reduceToNat,Int.reduceLE,Int.reduceLT, one_imm, List.length_map]
    exact ⟨_, Frz.pure rfl, by simp [checkB, sizedB, hs1]⟩
  simp only [go_sem,Nat.reduceEqDiff,Nat.reduceAdd,Nat.reduceMul,↓reduceIte,↓dreduceIte,reduceCtorEq,Nat.reduceLeDiff,Nat.reduceLT,Nat.reduceSub,Int.reduceToNat,Int.reduceLE,Int.reduceLT, one_imm, List.length_map]
  refine VCall.of_contract (fits_c f L.out hL.o) (SleL.pure rfl) fun x hx => ?_
  subst hx
  cases hs2 : sizedL L.out f.bks.length f.regs
  · simp only [go_sem,Nat.reduceEqDiff,Nat.reduceAdd,Nat.reduceMul,↓reduceIte,↓dreduceIte,reduceCtorEq,Nat.reduceLeDiff,Nat.reduceLT,Nat.reduceSub,Int.reduceToNat,Int.reduceLE,Int.reduceLT, one_imm, List.length_map]
    exact ⟨_, Frz.pure rfl, by simp [checkB, sizedB, hs1, hs2]⟩
  have hs : sizedB f L = true := by unfold sizedB; rw [hs1, hs2]; rfl
  have hS := (sizedB_iff hr0 L).1 hs
  simp only [go_sem,Nat.reduceEqDiff,Nat.reduceAdd,Nat.reduceMul,↓reduceIte,↓dreduceIte,reduceCtorEq,Nat.reduceLeDiff,Nat.reduceLT,Nat.reduceSub,Int.reduceToNat,Int.reduceLE,Int.reduceLT, one_imm, List.length_map]
  refine VCall.of_contract (next_c f hf.b1) (SleL.pure rfl) fun x hx => ?_
  subst hx
  simp only [go_sem,Nat.reduceEqDiff,Nat.reduceAdd,Nat.reduceMul,↓reduceIte,↓dreduceIte,reduceCtorEq,Nat.reduceLeDiff,Nat.reduceLT,Nat.reduceSub,Int.reduceToNat,Int.reduceLE,Int.reduceLT, one_imm, List.length_map]
  refine VW_loop (fun k : Nat => ⟨[(2, .ptr 0 0 0), (3, .ptr 1 1 0), (5, .imm 1 (f.bks.map fun b => ints (nxt b))), (25, I f.bks.length), (26, I k)], [⟨0, 24, 1, [I f.regs, bksA f.bks]⟩, ⟨1, 29, 1, [rowsA L.inn, rowsA L.out]⟩], 2⟩)
    (fun k => k ≤ f.n ∧ ∀ b < k, blkC f L b = true) (fun k => f.n - k) 0 (Wk.mk (by simp [get_cons]) ⟨[], rfl⟩ (Nat.le_refl _)) ⟨by omega, by omega⟩ ?_
  rintro b ⟨hb, hp⟩
  by_cases hlt : b < f.n
  · have hfalse : blkC f L b = false → checkB f L = false := fun e => by
      unfold checkB
      rw [List.all_eq_false.2 ⟨b, List.mem_range.2 hlt, by rw [e]; decide⟩]; simp
    have hbk : f.bks.getD b default = f.bk b := rfl
    have hli : (L.inn.getD b default).length = f.r := hS.il hlt
    have hlo : (L.out.getD b default).length = f.r := hS.ol hlt
    have hnl := nxt_len (f.bk b)
    have hreg := hf.regs hlt hlo
    have hto := hf.to _ (BF.mem hlt)
    have h1i := hS.i
    have h1o := hS.o
    simp only [go_sem,Nat.reduceEqDiff,Nat.reduceAdd,Nat.reduceMul,↓reduceIte,↓dreduceIte,reduceCtorEq,Nat.reduceLeDiff,Nat.reduceLT,Nat.reduceSub,Int.reduceToNat,Int.reduceLE,Int.reduceLT, one_imm, List.length_map, eq_true (show (b : Int) < f.bks.length by omega), hbk]
    repeat ((with_reducible refine And.intro ?_ ?_); · omega)
    refine VW_loop (fun j : Nat => ⟨[(2, .ptr 0 0 0), (3, .ptr 1 1 0), (5, .imm 1 (f.bks.map fun b => ints (nxt b))), (25, I f.bks.length), (26, I b), (6, I b), (32, ints (nxt (f.bk b))), (33, I (nxt (f.bk b)).length), (34, I j)], [⟨0, 24, 1, [I f.regs, bksA f.bks]⟩, ⟨1, 29, 1, [rowsA L.inn, rowsA L.out]⟩], 2⟩)
      (fun j => j ≤ (nxt (f.bk b)).length ∧ ((nxt (f.bk b)).take j).all (fun k => withinB (L.inn.getD k.toNat default) (L.out.getD b default)) = true) (fun j => (nxt (f.bk b)).length - j) 0 (Wk.mk (by simp [get_cons]) ⟨[], rfl⟩ (Nat.le_refl _)) ⟨by omega, rfl⟩ ?_
    rintro j ⟨hj, hq⟩
    by_cases hl2 : j < (nxt (f.bk b)).length
    · have hto' := hto _ (mem_getD hl2)
      have hlk : (L.inn.getD ((nxt (f.bk b)).getD j default).toNat default).length = f.r := hS.il (by omega)
      simp only [go_sem,Nat.reduceEqDiff,Nat.reduceAdd,Nat.reduceMul,↓reduceIte,↓dreduceIte,reduceCtorEq,Nat.reduceLeDiff,Nat.reduceLT,Nat.reduceSub,Int.reduceToNat,Int.reduceLE,Int.reduceLT, one_imm, List.length_map, hbk, eq_true (show (j : Int) < (nxt (f.bk b)).length by omega)]
      repeat ((with_reducible refine And.intro ?_ ?_); · omega)
      refine VCall.of_contract (within_c _ _ (by rw [hlk, hlo]; omega) (by rw [hlk]; omega)) (SleL.pure rfl) fun x hx => ?_
      subst hx
      cases hw : withinB (L.inn.getD ((nxt (f.bk b)).getD j default).toNat default) (L.out.getD b default)
      · simp only [go_sem,Nat.reduceEqDiff,Nat.reduceAdd,Nat.reduceMul,↓reduceIte,↓dreduceIte,reduceCtorEq,Nat.reduceLeDiff,Nat.reduceLT,Nat.reduceSub,Int.reduceToNat,Int.reduceLE,Int.reduceLT, one_imm, List.length_map]
        refine ⟨_, Frz.pure rfl, ?_⟩
        rw [hfalse (by unfold blkC; rw [all_stop hl2 hw]; rfl)]
      · simp only [go_sem,Nat.reduceEqDiff,Nat.reduceAdd,Nat.reduceMul,↓reduceIte,↓dreduceIte,reduceCtorEq,Nat.reduceLeDiff,Nat.reduceLT,Nat.reduceSub,Int.reduceToNat,Int.reduceLE,Int.reduceLT, one_imm, List.length_map]
        rw [i64_in (by omega) (by omega)]
        exact ⟨j + 1, ⟨by omega, all_step hl2 hq hw⟩, by omega, Wk.mk (by simp [get_cons]) ⟨[], rfl⟩ (Nat.le_refl _)⟩
    · simp only [go_sem,Nat.reduceEqDiff,Nat.reduceAdd,Nat.reduceMul,↓reduceIte,↓dreduceIte,reduceCtorEq,Nat.reduceLeDiff,Nat.reduceLT,Nat.reduceSub,Int.reduceToNat,Int.reduceLE,Int.reduceLT, one_imm, List.length_map, hbk, eq_false (show ¬ (j : Int) < (nxt (f.bk b)).length by omega)]
      repeat ((with_reducible refine And.intro ?_ ?_); · omega)
      refine ECall.of (through_c (f.bk b) (L.out.getD b default) (by omega) (by have := hf.len _ (BF.mem hlt); omega) hreg.2 hreg.1) (SleL.pure rfl) ⟨_, fun _ => Iff.rfl⟩ fun x hx => ?_
      subst hx
      simp only [go_sem,Nat.reduceEqDiff,Nat.reduceAdd,Nat.reduceMul,↓reduceIte,↓dreduceIte,reduceCtorEq,Nat.reduceLeDiff,Nat.reduceLT,Nat.reduceSub,Int.reduceToNat,Int.reduceLE,Int.reduceLT, one_imm, List.length_map]
      repeat ((with_reducible refine And.intro ?_ ?_); · omega)
      refine ECall.of (within_c _ _ (by rw [aheadL_len, hli, hlo]; omega) (by rw [aheadL_len, hlo]; omega)) (SleL.pure rfl) ⟨_, fun _ => Iff.rfl⟩ fun x hx => ?_
      subst hx
      cases hw : withinB (aheadL (f.bk b) (L.out.getD b default)) (L.inn.getD b default)
      · simp only [go_sem,Nat.reduceEqDiff,Nat.reduceAdd,Nat.reduceMul,↓reduceIte,↓dreduceIte,reduceCtorEq,Nat.reduceLeDiff,Nat.reduceLT,Nat.reduceSub,Int.reduceToNat,Int.reduceLE,Int.reduceLT, one_imm, List.length_map]
        refine ⟨_, Frz.pure rfl, ?_⟩
        rw [hfalse (by unfold blkC; rw [hw]; simp)]
      · simp only [go_sem,Nat.reduceEqDiff,Nat.reduceAdd,Nat.reduceMul,↓reduceIte,↓dreduceIte,reduceCtorEq,Nat.reduceLeDiff,Nat.reduceLT,Nat.reduceSub,Int.reduceToNat,Int.reduceLE,Int.reduceLT, one_imm, List.length_map]
        rw [i64_in (by omega) (by omega)]
        refine ⟨b + 1, ⟨by omega, fun i hi => ?_⟩, by omega, Wk.mk (by simp [get_cons]) ⟨[], rfl⟩ (Nat.le_refl _)⟩
        by_cases e : i = b
        · rw [e]; unfold blkC; rw [hw, all_end (by omega) hq]; rfl
        · exact hp i (by omega)
  · simp only [go_sem,Nat.reduceEqDiff,Nat.reduceAdd,Nat.reduceMul,↓reduceIte,↓dreduceIte,reduceCtorEq,Nat.reduceLeDiff,Nat.reduceLT,Nat.reduceSub,Int.reduceToNat,Int.reduceLE,Int.reduceLT, one_imm, List.length_map, eq_false (show ¬ (b : Int) < f.bks.length by omega)]
    refine ⟨_, Frz.pure rfl, ?_⟩
    rw [show checkB f L = true from ?_]
    unfold checkB
    rw [hs, Bool.true_and, List.all_eq_true]
    exact fun i hi => hp i (by have := List.mem_range.1 hi; omega)
end Go.Proofs.Ytncjbipnkdlkoaa
namespace Go.Proofs.Ytncjbipnkdlkoaa
set_option linter.unusedSimpArgs false
set_option linter.unusedVariables false
set_option maxRecDepth 10000
open Go.V
def rowC (b : Bk) (l : List Bool) (k : Nat) : List AV := (List.range b.ins.length).map fun i => if i < b.ins.length - k then nilv else bools (atL b l (b.ins.length - 1 - i))
theorem rowC_len (b : Bk) (l : List Bool) (k : Nat) : (rowC b l k).length = b.ins.length := by simp [rowC]
theorem rowC_zero (b : Bk) (l : List Bool) : rowC b l 0 = List.replicate b.ins.length nilv := by
  refine List.ext_getElem (by simp [rowC]) fun i h1 h2 => ?_
  have : i < b.ins.length := by simpa [rowC] using h1
  simp [rowC, this]
theorem rowC_set (b : Bk) (l : List Bool) {k : Nat} (hk : k < b.ins.length) : (rowC b l k).set (b.ins.length - k - 1) (bools (atL b l k)) = rowC b l (k + 1) := by
  refine List.ext_getElem (by simp [rowC]) fun i h1 h2 => ?_
  have hi : i < b.ins.length := by simpa [rowC] using h2
  rw [List.getElem_set]
  simp only [rowC, List.getElem_map, List.getElem_range]
  by_cases h : b.ins.length - k - 1 = i
  · rw [if_pos h, if_neg (by omega), show b.ins.length - 1 - i = k by omega]
  · rw [if_neg h]
    by_cases h3 : i < b.ins.length - k
    · rw [if_pos h3, if_pos (by omega)]
    · rw [if_neg h3, if_neg (by omega)]
theorem rowC_all (b : Bk) (l : List Bool) : rowC b l b.ins.length = (behindL b l).map bools := by
  refine List.ext_getElem (by simp [rowC, behindL]) fun i h1 h2 => ?_
  have hi : i < b.ins.length := by simpa [rowC] using h1
  simp only [rowC, behindL, List.getElem_map, List.getElem_range, atL]
  rw [if_neg (by omega), show b.ins.length - (b.ins.length - 1 - i) = i + 1 by omega]
theorem rows_frz {n : Nat} {H : List VObj} {nx id s ty : Nat} {m : List (List Bool)} {len : Nat} (hid : n ≤ id) (ho : H[id]? = some ⟨s, ty, 1, m.map bools⟩) (hlen : len = m.length) : Frz n H nx (.ref id s 0 len) (rowsA m) :=
  frz_map hid ho hlen (fun _ => rfl) fun _ _ => Frz.pure rfl
theorem behindL_len (b : Bk) (l : List Bool) : (behindL b l).length = b.ins.length := by simp [behindL]
theorem rbehind_c (f : BF) (L : LD) (b : Nat) (hf : Fine f) (hb : b < f.n) (hob : b < L.out.length) (hlo : (L.out.getD b default).length = f.r) :
    Contract Try.prog 31 [bfA f, liveA L, I b] (fun x => x = rowsA (behindL (f.bk b) (L.out.getD b default))) := by
  refine Contract.of_call (VCall.of_body hmix f_scref27_Behind (by simp) ?_)
  have hr4 := hf.r1
  have hr : f.r ≤ 4000 := by unfold BF.r; omega
  have hnb : b < f.bks.length := hb
  have hbk : f.bks.getD b default = f.bk b := rfl
  have hlen := hf.len _ (BF.mem hb)
  have hreg := hf.regs hb hlo
  simp only [go_sem,Nat.reduceEqDiff,Nat.reduceAdd,Nat.reduceMul,↓reduceIte,↓dreduceIte,reduceCtorEq,Nat.reduceLeDiff,Nat.reduceLT,Nat.reduceSub,Int.reduceToNat,Int.reduceLE,Int.reduceLT, c_scref27_Behind, one_imm, one_ref, List.length_map, hbk]
  generalize f.bk b = k at hlen hreg ⊢
  generalize L.out.getD b default = l at hlo hreg ⊢
  repeat ((with_reducible refine And.intro ?_ ?_); · omega)
  refine VCall.of_contract (rlast_c k l (by omega) hreg.2).old (SleL.pure rfl) fun x hx => ?_
  subst hx
  simp only [go_sem,Nat.reduceEqDiff,Nat.reduceAdd,Nat.reduceMul,↓reduceIte,↓dreduceIte,reduceCtorEq,Nat.reduceLeDiff,Nat.reduceLT,Nat.reduceSub,Int.reduceToNat,Int.reduceLE,Int.reduceLT, one_imm, one_ref, List.length_map]
  rw [i64_in (by omega) (by omega)]
  refine VW_loop (fun j : Nat => ⟨[(7, .ptr 2 2 0), (8, .ref 3 3 0 k.ins.length), (9, bools (atL k l j)), (10, I ((k.ins.length : Int) - 1 - j))], [⟨0, 24, 1, [I f.regs, bksA f.bks]⟩, ⟨1, 29, 1, [rowsA L.inn, rowsA L.out]⟩, ⟨2, 60, 1, bkL k⟩, ⟨3, 64, 1, rowC k l j⟩], 4⟩)
    (fun j => j ≤ k.ins.length) (fun j => k.ins.length - j) 0 (Wk.mk (by simp [get_cons, atL_zero]) ⟨[], by simp [rowC_zero, flat_rep]⟩ (Nat.le_refl _)) (by omega) ?_
  intro j hj
  by_cases hlt : j < k.ins.length
  · have e1 : ((k.ins.length : Int) - 1 - j).toNat = k.ins.length - j - 1 := by omega
    simp only [go_sem,Nat.reduceEqDiff,Nat.reduceAdd,Nat.reduceMul,↓reduceIte,↓dreduceIte,reduceCtorEq,Nat.reduceLeDiff,Nat.reduceLT,Nat.reduceSub,Int.reduceToNat,Int.reduceLE,Int.reduceLT, one_imm, one_ref, List.length_map, eq_true (show (0 : Int) ≤ (k.ins.length : Int) - 1 - j by omega), e1, rowC_set k l hlt, rowC_len]
    repeat ((with_reducible refine And.intro ?_ ?_); · omega)
    refine VCall.of_contract (rback_c (k.ins.getD (k.ins.length - j - 1) default) (atL k l j) (by rw [atL_len]; omega) (by rw [atL_len]; exact hreg.1 _ (mem_getD (by omega)))).old (SleL.pure rfl) fun x hx => ?_
    subst hx
    rw [atL_step k l hlt]
    simp only [go_sem,Nat.reduceEqDiff,Nat.reduceAdd,Nat.reduceMul,↓reduceIte,↓dreduceIte,reduceCtorEq,Nat.reduceLeDiff,Nat.reduceLT,Nat.reduceSub,Int.reduceToNat,Int.reduceLE,Int.reduceLT, one_imm, one_ref, List.length_map]
    rw [i64_in (by omega) (by omega), show (k.ins.length : Int) - 1 - j - 1 = (k.ins.length : Int) - 1 - ((j + 1 : Nat) : Int) by omega]
    exact ⟨j + 1, by omega, by omega, Wk.mk (by simp [get_cons]) ⟨[], rfl⟩ (Nat.le_refl _)⟩
  · obtain rfl : j = k.ins.length := by omega
    simp only [go_sem,Nat.reduceEqDiff,Nat.reduceAdd,Nat.reduceMul,↓reduceIte,↓dreduceIte,reduceCtorEq,Nat.reduceLeDiff,Nat.reduceLT,Nat.reduceSub,Int.reduceToNat,Int.reduceLE,Int.reduceLT, one_imm, one_ref, List.length_map, eq_false (show ¬ (0 : Int) ≤ (k.ins.length : Int) - 1 - k.ins.length by omega)]
    refine ⟨_, rows_frz (Nat.zero_le _) (by rw [rowC_all]; rfl) (by rw [behindL_len]), rfl⟩
end Go.Proofs.Ytncjbipnkdlkoaa
namespace Go.Proofs.Ytncjbipnkdlkoaa
set_option linter.unusedSimpArgs false
set_option linter.unusedVariables false
set_option maxRecDepth 10000
open Go.V
abbrev U64 (n : Int) : AV := .val (.int .u64 n)
def rl (r : Nat) : Nat := if r = 0 then 0 else 1
def rowC64 (l : List Bool) : List AV := if l.length = 0 then [] else [U64 (wd l)]
theorem rowC64_pos {l : List Bool} (h : l.length ≠ 0) : rowC64 l = [U64 (wd l)] := if_neg h
theorem rl_pos {r : Nat} (h : r ≠ 0) : rl r = 1 := if_neg h
theorem u64_nat {a : Nat} (h : a < 2 ^ 64) : IntKind.u64.wrap (a : Int) = a := by
  rw [IntKind.wrap_u64]; omega
theorem bv_nat {a : Nat} : BitVec.ofInt 64 (a : Int) = BitVec.ofNat 64 a := by
  rw [BitVec.ofInt_natCast]
theorem or64 {a b : Nat} (ha : a < 2 ^ 64) (hb : b < 2 ^ 64) : IntKind.u64.wrap ((BitVec.ofInt 64 (a : Int) ||| BitVec.ofInt 64 (b : Int)).toNat : Nat) = ((a ||| b : Nat) : Int) := by
  rw [bv_nat, bv_nat]
  have e : ((BitVec.ofNat 64 a ||| BitVec.ofNat 64 b).toNat) = a ||| b := by
    rw [BitVec.toNat_or, BitVec.toNat_ofNat, BitVec.toNat_ofNat, Nat.mod_eq_of_lt ha, Nat.mod_eq_of_lt hb]
  have h : a ||| b < 2 ^ 64 := Nat.or_lt_two_pow ha hb
  show IntKind.u64.wrap (((BitVec.ofNat 64 a ||| BitVec.ofNat 64 b).toNat : Nat) : Int) = _
  rw [e, u64_nat h]
def subL (a b : List Bool) : List Bool := (List.range a.length).map fun v => gB a v && !gB b v
theorem subL_len (a b : List Bool) : (subL a b).length = a.length := by simp [subL]
theorem gB_sub (a b : List Bool) {v : Nat} (hv : v < a.length) : gB (subL a b) v = (gB a v && !gB b v) := by
  unfold subL; rw [gB, List.getD]; simp [hv]
theorem andNot64 {a b : List Bool} (ha : a.length ≤ 64) (hb : b.length ≤ 64) : IntKind.u64.wrap ((BitVec.ofInt 64 (wd a : Int) &&& ~~~BitVec.ofInt 64 (wd b : Int)).toNat : Nat) = ((wd (subL a b) : Nat) : Int) := by
  rw [bv_nat, bv_nat]
  have e : (BitVec.ofNat 64 (wd a) &&& ~~~BitVec.ofNat 64 (wd b)).toNat = wd (subL a b) := wd_eq fun i => by
    rw [BitVec.testBit_toNat, BitVec.getLsbD_and, BitVec.getLsbD_not, BitVec.getLsbD_ofNat, BitVec.getLsbD_ofNat, wd_bit, wd_bit]
    rcases Nat.lt_or_ge i a.length with h | h
    · rw [gB_sub _ _ h]
      have : i < 64 := by omega
      simp [this]
    · rw [gB_out (l := a) h, gB_out (l := subL a b) (by rw [subL_len]; exact h)]; simp
  show IntKind.u64.wrap (((BitVec.ofNat 64 (wd a) &&& ~~~BitVec.ofNat 64 (wd b)).toNat : Nat) : Int) = _
  rw [e, u64_nat (wd_lt64 (by rw [subL_len]; exact ha))]
theorem shl64 {i : Nat} (h : i < 64) : IntKind.u64.wrap (1 * 2 ^ (min i 64)) = ((2 ^ i : Nat) : Int) := by
  rw [Nat.min_eq_left (by omega), Int.one_mul]
  have h2 : 2 ^ i < 2 ^ 64 := Nat.pow_lt_pow_right (by decide) h
  have := u64_nat h2
  rw [← this]
  congr 1
theorem wd_one {l : List Bool} {i : Nat} (hi : i < l.length) : 2 ^ i = wd ((List.replicate l.length false).set i true) := by
  have := wd_set (l := List.replicate l.length false) (i := i) (by simpa using hi)
  rw [wd_zero, Nat.zero_or] at this
  exact this
theorem sub_one {l : List Bool} {i : Nat} (hi : i < l.length) : subL l ((List.replicate l.length false).set i true) = l.set i false := gB_ext (by simp [subL]) fun v hv => by
  rw [subL_len] at hv
  rw [gB_sub _ _ hv, gB_set _ _ _ _ (by simpa using hv), gB_set _ _ _ _ hv, gB_rep]
  by_cases h : i = v
  · rw [if_pos h, if_pos h]; simp
  · rw [if_neg h, if_neg h]; simp
def KeepT (tys : List Nat) (H H' : List VObj) : Prop := ∀ (k : Nat) (ob : VObj), H[k]? = some ob → ob.ty ∉ tys → H'[k]? = some ob
theorem KeepT.refl (tys : List Nat) (H : List VObj) : KeepT tys H H := fun _ _ h _ => h
theorem KeepT.trans {ts : List Nat} {A B C : List VObj} (h : KeepT ts A B) (k : KeepT ts B C) : KeepT ts A C := fun i ob h1 h2 => k i ob (h i ob h1 h2) h2
theorem KeepT.mono {ts us : List Nat} {A B : List VObj} (h : KeepT ts A B) (hs : ∀ t ∈ ts, t ∈ us) : KeepT us A B := fun i ob h1 h2 => h i ob h1 fun e => h2 (hs _ e)
theorem KeepT.app (ts : List Nat) (H R : List VObj) : KeepT ts H (H ++ R) := fun k ob h _ => by rw [List.getElem?_append_left (List.getElem?_eq_some_iff.1 h).1]; exact h
theorem KeepT.set {ts : List Nat} {H : List VObj} {k : Nat} {ob ob' : VObj} (h : H[k]? = some ob) (ht : ob.ty ∈ ts) : KeepT ts H (H.set k ob') := fun i o h1 h2 => by
  have hne : k ≠ i := fun e => by subst e; rw [h] at h1; cases h1; exact h2 ht
  rw [List.getElem?_set, if_neg hne]; exact h1
theorem ty_ne {H : List VObj} {i j : Nat} {a b : VObj} (h : H[i]? = some a) (k : H[j]? = some b) (ht : a.ty ≠ b.ty) : (i = j) = False := eq_false fun e => by subst e; rw [h] at k; cases k; exact ht rfl
theorem lt_of {H : List VObj} {i : Nat} {a : VObj} (h : H[i]? = some a) : (i < H.length) = True := eq_true (List.getElem?_eq_some_iff.1 h).1
theorem set_of_get {α : Type} {l : List α} {i : Nat} {x : α} (h : l[i]? = some x) : l.set i x = l := by
  obtain ⟨hlt, rfl⟩ := List.getElem?_eq_some_iff.1 h
  exact List.set_getElem_self hlt
theorem set_get {H : List VObj} {k : Nat} {a x : VObj} (h : H[k]? = some a) : (H.set k x)[k]? = some x := by
  rw [List.getElem?_set_self (List.getElem?_eq_some_iff.1 h).1]
theorem set_ne {H : List VObj} {k j : Nat} {x : VObj} (h : k ≠ j) : (H.set k x)[j]? = H[j]? := by rw [List.getElem?_set_ne h]
theorem range_get {n b : Nat} (h : b < n) : (List.range n).getD b default = b := by simp [List.getD, h]
section
variable {H R : List VObj} {i : Nat} {x : VObj}
theorem app_get : (H ++ R)[H.length + i]? = R[i]? := by rw [List.getElem?_append_right (by omega)]; congr 1; omega
theorem app_get0 : (H ++ R)[H.length]? = R[0]? := by rw [List.getElem?_append_right (by omega), Nat.sub_self]
theorem app_set0 : (H ++ R).set H.length x = H ++ R.set 0 x := by rw [List.set_append_right _ _ (by omega), Nat.sub_self]
theorem app_old {a : VObj} (h : H[i]? = some a) : ∀ R, (H ++ R)[i]? = some a := fun R => by rw [List.getElem?_append_left (List.getElem?_eq_some_iff.1 h).1]; exact h
end
theorem stab_set {H : List VObj} {k : Nat} {ob ob' : VObj} (h : H[k]? = some ob) (hs : ob'.s = ob.s) (hz : ob'.sz = ob.sz) : Stab (fun _ => True) 1 H (H.set k ob') := fun id o _ ho => by
  rw [List.getElem?_set]
  by_cases e : k = id
  · subst e
    rw [h] at ho; cases ho
    rw [if_pos rfl, if_pos (List.getElem?_eq_some_iff.1 h).1]; exact ⟨_, rfl, hs, hz⟩
  · rw [if_neg e]; exact ⟨o, ho, rfl, rfl⟩
def sprL (l : List Bool) (k : Nat) : List Bool := (List.range l.length).map fun v => if v < k then gB l v else false
theorem sprL_len (l : List Bool) (k : Nat) : (sprL l k).length = l.length := by simp [sprL]
theorem sprL_zero (l : List Bool) : sprL l 0 = List.replicate l.length false := by
  refine List.ext_getElem (by simp [sprL]) fun i h1 h2 => ?_
  simp [sprL]
theorem sprL_set (l : List Bool) {k : Nat} (hk : k < l.length) : (sprL l k).set k (gB l k) = sprL l (k + 1) := by
  refine List.ext_getElem (by simp [sprL]) fun i h1 h2 => ?_
  rw [List.getElem_set]
  simp only [sprL, List.getElem_map, List.getElem_range]
  by_cases h : k = i
  · subst h; simp
  · rw [if_neg h]
    by_cases h3 : i < k
    · rw [if_pos h3, if_pos (by omega)]
    · rw [if_neg h3, if_neg (by omega)]
theorem sprL_all (l : List Bool) : sprL l l.length = l := gB_ext (sprL_len _ _) fun v hv => by
  rw [sprL_len] at hv
  unfold sprL; rw [gB, List.getD]; simp [hv]
abbrev nextA (f : BF) : AV := .imm 1 (f.bks.map fun b => ints (nxt b))
theorem gath_take (I : List (List Bool)) (o : List Bool) (ks : List Int) {j : Nat} (hj : j < ks.length) : gath I o (ks.take (j + 1)) = orL (gath I o (ks.take j)) (I.getD (ks.getD j default).toNat default) := by
  have e : ks.take (j + 1) = ks.take j ++ [ks.getD j default] := by rw [List.take_add_one]; simp [List.getD, List.getElem?_eq_getElem hj]
  rw [e]; simp [gath]
end Go.Proofs.Ytncjbipnkdlkoaa
namespace Go.Proofs.Ytncjbipnkdlkoaa
set_option linter.unusedSimpArgs false
set_option linter.unusedVariables false
set_option maxRecDepth 10000
open Go.V
theorem bitHas {l : List Bool} {v : Nat} (hv : v < 64) (hl : l.length ≤ 64) : IntKind.u64.wrap ((BitVec.ofInt 64 ((wd l : Int).fdiv (2 ^ min v 64)) &&& BitVec.ofInt 64 1).toNat : Nat) = if gB l v then 1 else 0 := by
  rw [Nat.min_eq_left (by omega), Int.fdiv_eq_ediv_of_nonneg _ (by exact Int.le_of_lt (Int.pow_pos (by decide)))]
  have e : ((wd l : Int) / 2 ^ v) = ((wd l >>> v : Nat) : Int) := by rw [Nat.shiftRight_eq_div_pow]; simp
  have hlt : wd l >>> v < 2 ^ 64 := Nat.lt_of_le_of_lt (Nat.shiftRight_le _ _) (wd_lt64 hl)
  rw [e, bv_nat, show BitVec.ofInt 64 1 = BitVec.ofNat 64 1 from rfl, BitVec.toNat_and, BitVec.toNat_ofNat, BitVec.toNat_ofNat, Nat.mod_eq_of_lt hlt, show 1 % 2 ^ 64 = 1 by decide, Nat.and_one_is_mod]
  have h2 := wd_bit l v
  rw [Nat.testBit_eq_decide_div_mod_eq, ← Nat.shiftRight_eq_div_pow] at h2
  rw [u64_nat (Nat.lt_of_lt_of_le (Nat.mod_lt _ (by decide)) (by decide)), ← h2]
  rcases Nat.mod_two_eq_zero_or_one (wd l >>> v) with g | g <;> rw [g] <;> rfl
theorem newBits_v (r : Nat) (hr : r ≤ 64) (H : List VObj) (nx : Nat) (C : AV → List VObj → Nat → Prop)
    (hC : C (.ref H.length nx 0 (rl r)) (H ++ [⟨nx, 97, 1, rowC64 (List.replicate r false)⟩]) (nx + 1)) : VCall Try.prog 42 [I r] H nx C := by
  refine VCall.of_body hmix f_alloc_newBits (by simp) ?_
  have e1 : IntKind.i64.wrap ((r : Int) + 63) = r + 63 := i64_in (by omega) (by omega)
  have e2 : ((r : Int) + 63).tdiv 64 = rl r := by
    unfold rl
    split
    · rename_i h; subst h; rfl
    · rw [Int.tdiv_eq_ediv_of_nonneg (by omega)]; omega
  have e3 : IntKind.i64.wrap (rl r : Int) = rl r := by unfold rl; split <;> rfl
  have e4 : rl r ≤ 1 := by unfold rl; split <;> decide
  simp only [go_sem,Nat.reduceEqDiff,Nat.reduceAdd,Nat.reduceMul,↓reduceIte,↓dreduceIte,reduceCtorEq,Nat.reduceLeDiff,Nat.reduceLT,Nat.reduceSub,Int.reduceToNat,Int.reduceLE,Int.reduceLT, c_alloc_newBits, e1, e2, e3]
  repeat ((with_reducible refine And.intro ?_ ?_); · first | omega | decide)
  rw [show (List.replicate (rl r) [AV.val (.int .u64 0)]).flatten = rowC64 (List.replicate r false) by
    unfold rl rowC64
    by_cases h : r = 0
    · subst h; rfl
    · rw [if_neg h, if_neg (by simpa using h), wd_zero]; rfl]
  exact hC
theorem has_v (l : List Bool) (j : Nat) (H : List VObj) (nx k s m : Nat) (hm : m = rl l.length) (hl : l.length ≤ 64) (hj : j < l.length) (ho : H[k]? = some ⟨s, 97, 1, rowC64 l⟩) (C : AV → List VObj → Nat → Prop)
    (hC : C (B (gB l j)) H nx) : VCall Try.prog 26 [.ref k s 0 m, I j] H nx C := by
  refine VCall.of_body hmix f_alloc_bits_has (by simp) ?_
  subst hm
  have hne : l.length ≠ 0 := by omega
  have e1 : ((j : Int)).tdiv 64 = 0 := by rw [Int.tdiv_eq_ediv_of_nonneg (by omega)]; omega
  have e2 : ((j : Int)).tmod 64 = j := by rw [Int.tmod_eq_emod_of_nonneg (by omega)]; omega
  have e4 : IntKind.i64.wrap 0 = 0 := rfl
  have e5 : IntKind.i64.wrap (j : Int) = j := i64_in (by omega) (by omega)
  have e6 := bitHas (l := l) (v := j) (by omega) hl
  rw [rowC64_pos hne] at ho
  cases hg : gB l j
  all_goals
    rw [hg] at hC e6
    simp only [go_sem,Nat.reduceEqDiff,Nat.reduceAdd,Nat.reduceMul,↓reduceIte,↓dreduceIte,reduceCtorEq,Nat.reduceLeDiff,Nat.reduceLT,Nat.reduceSub,Int.reduceToNat,Int.reduceLE,Int.reduceLT, c_alloc_bits_has, e1, e2, e4, e5, ho, rl_pos hne]
    repeat ((with_reducible refine And.intro ?_ ?_); · first | omega | decide)
    have h7 : C (B ((IntKind.u64.wrap ((BitVec.ofInt 64 ((wd l : Int).fdiv (2 ^ min j 64)) &&& BitVec.ofInt 64 1).toNat : Nat) : Int) != 0)) H nx := by rw [e6]; exact hC
    exact h7
theorem badd_v (l : List Bool) (i : Int) (H : List VObj) (nx k s m : Nat) (hm : m = rl l.length) (hl : l.length ≤ 64) (hi : 0 ≤ i ∧ i < l.length) (ho : H[k]? = some ⟨s, 97, 1, rowC64 l⟩) (C : AV → List VObj → Nat → Prop)
    (hC : ∀ r, C r (H.set k ⟨s, 97, 1, rowC64 (l.set i.toNat true)⟩) nx) : VCall Try.prog 45 [.ref k s 0 m, I i] H nx C := by
  refine VCall.of_body hmix f_alloc_bits_add (by simp) ?_
  subst hm
  obtain ⟨j, rfl⟩ : ∃ j : Nat, i = j := ⟨i.toNat, by omega⟩
  have hj : j < l.length := by omega
  have hne : l.length ≠ 0 := by omega
  have e1 : ((j : Int)).tdiv 64 = 0 := by rw [Int.tdiv_eq_ediv_of_nonneg (by omega)]; omega
  have e2 : ((j : Int)).tmod 64 = j := by rw [Int.tmod_eq_emod_of_nonneg (by omega)]; omega
  have e3 := shl64 (show j < 64 by omega)
  have e4 : IntKind.i64.wrap 0 = 0 := rfl
  have e5 : IntKind.i64.wrap (j : Int) = j := i64_in (by omega) (by omega)
  have e6 := or64 (wd_lt64 hl) (show 2 ^ j < 2 ^ 64 from Nat.pow_lt_pow_right (by decide) (by omega))
  rw [wd_set hj] at e6
  have hC' := hC
  rw [rowC64_pos (by simpa using hne), Int.toNat_natCast] at hC'
  rw [rowC64_pos hne] at ho
  simp only [go_sem,Nat.reduceEqDiff,Nat.reduceAdd,Nat.reduceMul,↓reduceIte,↓dreduceIte,reduceCtorEq,Nat.reduceLeDiff,Nat.reduceLT,Nat.reduceSub,Int.reduceToNat,Int.reduceLE,Int.reduceLT, c_alloc_bits_add, e1, e2, e3, e4, e5, ho, rl_pos hne]
  repeat ((with_reducible refine And.intro ?_ ?_); · first | omega | decide)
  have h7 : ∀ r, C r (H.set k ⟨s, 97, 1, [U64 (IntKind.u64.wrap ((BitVec.ofInt 64 (wd l : Int) ||| BitVec.ofInt 64 ((2 ^ j : Nat) : Int)).toNat : Nat))]⟩) nx := fun r => by rw [e6]; exact hC' _
  exact h7 _
theorem bdrop_v (l : List Bool) (i : Int) (H : List VObj) (nx k s m : Nat) (hm : m = rl l.length) (hl : l.length ≤ 64) (hi : 0 ≤ i ∧ i < l.length) (ho : H[k]? = some ⟨s, 97, 1, rowC64 l⟩) (C : AV → List VObj → Nat → Prop)
    (hC : ∀ r, C r (H.set k ⟨s, 97, 1, rowC64 (l.set i.toNat false)⟩) nx) : VCall Try.prog 47 [.ref k s 0 m, I i] H nx C := by
  refine VCall.of_body hmix f_alloc_bits_drop (by simp) ?_
  subst hm
  obtain ⟨j, rfl⟩ : ∃ j : Nat, i = j := ⟨i.toNat, by omega⟩
  have hj : j < l.length := by omega
  have hne : l.length ≠ 0 := by omega
  have e1 : ((j : Int)).tdiv 64 = 0 := by rw [Int.tdiv_eq_ediv_of_nonneg (by omega)]; omega
  have e2 : ((j : Int)).tmod 64 = j := by rw [Int.tmod_eq_emod_of_nonneg (by omega)]; omega
  have e3 := shl64 (show j < 64 by omega)
  have e4 : IntKind.i64.wrap 0 = 0 := rfl
  have e5 : IntKind.i64.wrap (j : Int) = j := i64_in (by omega) (by omega)
  have e6 := andNot64 (b := (List.replicate l.length false).set j true) hl (by simpa using hl)
  rw [← wd_one hj, sub_one hj] at e6
  have hC' := hC
  rw [rowC64_pos (by simpa using hne), Int.toNat_natCast] at hC'
  rw [rowC64_pos hne] at ho
  simp only [go_sem,Nat.reduceEqDiff,Nat.reduceAdd,Nat.reduceMul,↓reduceIte,↓dreduceIte,reduceCtorEq,Nat.reduceLeDiff,Nat.reduceLT,Nat.reduceSub,Int.reduceToNat,Int.reduceLE,Int.reduceLT, c_alloc_bits_drop, e1, e2, e3, e4, e5, ho, rl_pos hne]
  repeat ((with_reducible refine And.intro ?_ ?_); · first | omega | decide)
  have h7 : ∀ r, C r (H.set k ⟨s, 97, 1, [U64 (IntKind.u64.wrap ((BitVec.ofInt 64 (wd l : Int) &&& ~~~BitVec.ofInt 64 ((2 ^ j : Nat) : Int)).toNat : Nat))]⟩) nx := fun r => by rw [e6]; exact hC' _
  exact h7 _
theorem orw64' {a b : List Bool} (hl : a.length = b.length) (ha : a.length ≤ 64) : IntKind.u64.wrap ((BitVec.ofInt IntKind.u64.bits (wd a : Int) ||| BitVec.ofInt IntKind.u64.bits (wd b : Int)).toNat : Nat) = ((wd (orL a b) : Nat) : Int) := by
  rw [← wd_or hl]; exact or64 (wd_lt64 ha) (wd_lt64 (by omega))
theorem addAll_v (x y : List Bool) (H : List VObj) (nx k s k2 s2 m : Nat) (hm : m = rl x.length) (hl : x.length ≤ 64) (hxy : x.length = y.length) (hx : H[k]? = some ⟨s, 97, 1, rowC64 x⟩) (hy : H[k2]? = some ⟨s2, 97, 1, rowC64 y⟩) (hne : k ≠ k2) (C : AV → List VObj → Nat → Prop)
    (hC : C (.tup []) (H.set k ⟨s, 97, 1, rowC64 (orL x y)⟩) nx) : VCall Try.prog 44 [.ref k s 0 m, .ref k2 s2 0 m] H nx C := by
  refine VCall.of_body hmix f_alloc_bits_addAll (by simp) ?_
  subst hm
  have lk := lt_of hx
  have e5 : (k = k2) = False := eq_false hne
  have hr1 : rl x.length ≤ 1 := by unfold rl; split <;> omega
  simp only [go_sem,Nat.reduceEqDiff,Nat.reduceAdd,Nat.reduceMul,↓reduceIte,↓dreduceIte,reduceCtorEq,Nat.reduceLeDiff,Nat.reduceLT,Nat.reduceSub,Int.reduceToNat,Int.reduceLE,Int.reduceLT, c_alloc_bits_addAll, hy, one_imm, one_ref]
  refine VW_loop (fun i : Nat => ⟨[(0, .ref k s 0 (rl x.length)), (6, .ref k2 s2 0 (rl x.length)), (7, I (rl x.length)), (8, I i)], H.set k ⟨s, 97, 1, rowC64 (if i = 0 then x else orL x y)⟩, nx⟩) (fun i => i ≤ rl x.length) (fun i => rl x.length - i) 0
    (Wk.mk (by simp [get_cons]) ⟨[], by rw [List.append_nil, if_pos rfl]; exact (set_of_get hx).symm⟩ (Nat.le_refl _)) (by omega) ?_
  intro i hi
  by_cases h1 : i < rl x.length
  · have h0 : x.length ≠ 0 := fun e => by unfold rl at h1; rw [if_pos e] at h1; omega
    have hi0 : i = 0 := by omega
    subst hi0
    have e6 := orw64' (a := x) (b := y) hxy hl
    have e7 : rowC64 x = [U64 (wd x)] := rowC64_pos (by omega)
    have e8 : rowC64 y = [U64 (wd y)] := rowC64_pos (by omega)
    have e9 : rowC64 (orL x y) = [U64 (wd (orL x y))] := rowC64_pos (by rw [orL_len]; omega)
    rw [if_pos rfl, e7]
    rw [e8] at hy
    simp only [↓VW_skip,↓VW_ops,↓VW_par,↓VW_park,↓VW_seq,↓VW_block,↓VW_exit,↓VW_ret,↓VW_cond,↓litE_tmp,↓litE_const,↓seq_normal,↓seq_exit,↓seq_ret,↓blk_normal,↓blk_exit,↓blk_ret,↓get_nil,↓get_cons,↓put_some,↓put_none,↓put_some',↓put_none',↓VTrL_done,↓VTrL_one,↓VTrL_if,↓VTrL_both,↓wpD_eq,↓wpE_call,↓wpE_callA,↓wpE_mv,↓wpE_pick,↓wpE_ld,↓wpE_sto,↓wpE_idx,↓wpE_aidx,↓wpE_fad,↓wpE_fld,↓wpE_len,↓wpE_lens,↓wpE_bin,↓wpE_beq,↓wpE_un,↓wpE_conv,↓wpE_sl,↓wpE_sls,↓wpE_mk,↓wpE_app,↓wpE_bsl,↓wpE_bld,↓wpE_box,↓wpE_alc,↓wpE_mkf,↓wpE_nck,↓wpE_ext,↓wpE_pur,↓wpE_see,↓wpE_eff,↓wpE_ycal,undef,K.xtra,EOp.adds,argEnv,↓retQ,↓retW,↓VR.wp,↓VRs,binOK,binR,unOK,unR,ldOK,stoOK,putA,partA,partOK,fillA,fillOK,partsOf,evs,boundOf,AV.cells,AV.one,AV.laid,Value.oneCell',Nat.reduceEqDiff,Nat.reduceAdd,Nat.reduceMul,↓reduceIte,↓dreduceIte,true_and,and_true,List.cons_append,List.nil_append,List.length_map,List.length_cons,List.length_nil,List.getElem?_cons_zero,List.getElem?_cons_succ,List.map_cons,List.map_nil,Bool.not_true,Bool.not_false,forall_const,reduceCtorEq,false_implies,List.all_cons,List.all_nil,Bool.and_true,Bool.and_self,↓idxT_map,↓idxT_cons,↓cellT_I,↓cellT_B,↓cellT_map,↓cellT_cons,decide_eq_true_eq,decide_eq_false_iff_not,Int.toNat_natCast,bne_iff_ne,ne_eq,Bool.not_eq_true',Bool.not_eq_false',bne_eq_false_iff_eq,beq_iff_eq,beq_eq_false_iff_ne,implies_true,List.getD_cons_zero,List.getD_cons_succ,Bool.false_eq_true,false_or,or_false,true_or,or_true,Int.natCast_nonneg,Int.toNat_zero,Int.toNat_one,List.set_cons_zero,List.set_cons_succ,List.take_zero,List.take_succ_cons,List.take_nil,List.drop_zero,List.drop_succ_cons,List.drop_nil,List.append_nil,Nat.zero_add,Nat.add_zero,Nat.mul_one,Nat.zero_mul,↓wp_mv,↓wp_pick,↓wp_ld,↓wp_sto,↓wp_idx,↓wp_aidx,↓wp_fad,↓wp_fld,↓wp_len,↓wp_lens,↓wp_bin,↓wp_beq,↓wp_un,↓wp_conv,↓wp_sl,↓wp_sls,↓wp_mk,↓wp_app,↓wp_bsl,↓wp_bld,↓wp_box,↓wp_alc,↓wp_mkf,↓wp_nck,↓wp_ext,↓wp_call,↓wp_callA,↓VOps_nil,↓VOps_go,↓VOps_if,↓evF_tmp,↓evF_const,↓evF_func,cv_int,cv_bool,cv_slice,cv_string,cv,Nat.reduceLeDiff,Nat.reduceLT,Nat.le_refl,Nat.reduceSub,Int.reduceToNat,Int.reduceLE,Int.reduceLT,not_true_eq_false,not_false_eq_true,decide_true,decide_false,Bool.true_eq_false,↓imp_tt,↓imp_ft,↓imp_tf,↓imp_ff,↓imp_tnt,↓imp_fnt,↓imp_tnf,↓imp_fnf,addedOK,addedN,addedCells,oldA,Old,oldL,↓VW_range,↓wp_ycal,↓wp_six,↓wp_ixv,↓wp_eqv,↓wp_mx,↓wp_mn,↓wp_nilq,↓wp_nils,↓wp_b2s,↓wp_look,↓wp_mlen,↓wp_cpy,↓wp_clr,↓wp_s2b,↓wp_mkm,↓wp_upd,↓eqT_nil,↓eqT_int,↓eqT_bool,↓eqT_str,↓b2sT_U8,↓b2sT_nil,↓lookT_nil,↓lookT_cons,cv_agg,cv_nilFunc,mapOK_nil,mapOK_cons,updA_nil,iteP,Bool.not_eq_true,Bool.not_eq_false,Classical.not_not, hy, one_imm, one_ref, rl_pos h0, Int.natCast_zero, Nat.cast_one', List.getElem?_set, e5, lk, e6]
    repeat ((with_reducible refine And.intro ?_ ?_); · first | omega | decide)
    refine ⟨1, by omega, by omega, Wk.mk (by simp [get_cons, rl_pos h0]; decide) ⟨[], by simp [List.set_set, e9]⟩ (Nat.le_refl _)⟩
  · obtain rfl : i = rl x.length := by omega
    simp only [go_sem,Nat.reduceEqDiff,Nat.reduceAdd,Nat.reduceMul,↓reduceIte,↓dreduceIte,reduceCtorEq,Nat.reduceLeDiff,Nat.reduceLT,Nat.reduceSub,Int.reduceToNat,Int.reduceLE,Int.reduceLT, one_imm, one_ref, eq_false (show ¬ (rl x.length : Int) < rl x.length by omega)]
    by_cases h0 : x.length = 0
    · have e7 : rowC64 x = [] := if_pos h0
      have e9 : rowC64 (orL x y) = [] := if_pos (by rw [orL_len]; exact h0)
      rw [e9] at hC
      rw [show rowC64 (if rl x.length = 0 then x else orL x y) = [] by split <;> assumption]
      exact hC
    · rw [if_neg (by rw [rl_pos h0]; decide)]
      exact hC
theorem fromRow_v (l : List Bool) (hl : l.length ≤ 64) (H : List VObj) (nx : Nat) (C : AV → List VObj → Nat → Prop)
    (hC : ∀ nx', C (.ref H.length nx 0 (rl l.length)) (H ++ [⟨nx, 97, 1, rowC64 l⟩]) nx') : VCall Try.prog 43 [bools l] H nx C := by
  refine VCall.of_body hmix f_alloc_fromRow (by simp) ?_
  simp only [go_sem,Nat.reduceEqDiff,Nat.reduceAdd,Nat.reduceMul,↓reduceIte,↓dreduceIte,reduceCtorEq,Nat.reduceLeDiff,Nat.reduceLT,Nat.reduceSub,Int.reduceToNat,Int.reduceLE,Int.reduceLT, c_alloc_fromRow, one_imm, one_ref, List.length_map]
  refine newBits_v l.length hl H nx _ ?_
  simp only [go_sem,Nat.reduceEqDiff,Nat.reduceAdd,Nat.reduceMul,↓reduceIte,↓dreduceIte,reduceCtorEq,Nat.reduceLeDiff,Nat.reduceLT,Nat.reduceSub,Int.reduceToNat,Int.reduceLE,Int.reduceLT, one_imm, one_ref, List.length_map]
  refine VW_loop (fun k : Nat => ⟨[(3, .ref H.length nx 0 (rl l.length)), (9, bools l), (10, I l.length), (11, I k)], H ++ [⟨nx, 97, 1, rowC64 (sprL l k)⟩], nx + 1⟩) (fun k => k ≤ l.length) (fun k => l.length - k) 0
    (Wk.mk (by simp [get_cons]) ⟨[], by rw [sprL_zero]; simp⟩ (Nat.le_refl _)) (Nat.zero_le _) ?_
  intro k hk
  by_cases h : k < l.length
  · have e0 : l.getD k default = gB l k := rfl
    have hsl := sprL_len l k
    have hst := sprL_set l h
    cases hg : gB l k
    · rw [hg] at hst
      have hst2 : sprL l k = sprL l (k + 1) := by
        rw [← hst]
        refine gB_ext (by simp) fun v hv => ?_
        rw [sprL_len] at hv
        rw [gB_set _ _ _ _ (by rw [sprL_len]; exact hv)]
        split
        · rename_i e; subst e
          unfold sprL; rw [gB, List.getD]; simp [hv]
        · rfl
      simp only [go_sem,Nat.reduceEqDiff,Nat.reduceAdd,Nat.reduceMul,↓reduceIte,↓dreduceIte,reduceCtorEq,Nat.reduceLeDiff,Nat.reduceLT,Nat.reduceSub,Int.reduceToNat,Int.reduceLE,Int.reduceLT, one_imm, one_ref, List.length_map, e0, hg, eq_true (show (k : Int) < (l.length : Int) by omega)]
      repeat ((with_reducible refine And.intro ?_ ?_); · omega)
      rw [i64_in (by omega) (by omega)]
      exact ⟨k + 1, by omega, by omega, Wk.mk (by simp [get_cons]) ⟨[], by rw [hst2]; simp⟩ (Nat.le_refl _)⟩
    · rw [hg] at hst
      simp only [go_sem,Nat.reduceEqDiff,Nat.reduceAdd,Nat.reduceMul,↓reduceIte,↓dreduceIte,reduceCtorEq,Nat.reduceLeDiff,Nat.reduceLT,Nat.reduceSub,Int.reduceToNat,Int.reduceLE,Int.reduceLT, one_imm, one_ref, List.length_map, e0, hg, eq_true (show (k : Int) < (l.length : Int) by omega)]
      repeat ((with_reducible refine And.intro ?_ ?_); · omega)
      refine badd_v (sprL l k) k _ _ H.length nx (rl l.length) (by rw [hsl]) (by omega) (by omega) (by simp) _ fun r => ?_
      simp only [go_sem,Nat.reduceEqDiff,Nat.reduceAdd,Nat.reduceMul,↓reduceIte,↓dreduceIte,reduceCtorEq,Nat.reduceLeDiff,Nat.reduceLT,Nat.reduceSub,Int.reduceToNat,Int.reduceLE,Int.reduceLT, one_imm, one_ref, List.length_map]
      rw [i64_in (by omega) (by omega), hst]
      exact ⟨k + 1, by omega, by omega, Wk.mk (by simp [get_cons]) ⟨[], by simp⟩ (Nat.le_refl _)⟩
  · obtain rfl : k = l.length := by omega
    simp only [go_sem,Nat.reduceEqDiff,Nat.reduceAdd,Nat.reduceMul,↓reduceIte,↓dreduceIte,reduceCtorEq,Nat.reduceLeDiff,Nat.reduceLT,Nat.reduceSub,Int.reduceToNat,Int.reduceLE,Int.reduceLT, one_imm, one_ref, List.length_map, eq_false (show ¬ (l.length : Int) < (l.length : Int) by omega)]
    rw [sprL_all]
    exact hC _
end Go.Proofs.Ytncjbipnkdlkoaa
namespace Go.Proofs.Ytncjbipnkdlkoaa
set_option linter.unusedSimpArgs false
set_option linter.unusedVariables false
open Go.V
abbrev alA (pl : List Int) : AV := .agg [ints pl]
def gP (pl : List Int) (v : Nat) : Int := pl.getD v default
def okP (n p : Int) : Bool := decide (-4000 ≤ p ∧ p ≠ 0 ∧ p ≤ n) || decide (-4000 ≤ p ∧ p < 0)
theorem okP_iff {n p : Int} : okP n p = true ↔ (1 ≤ p ∧ p ≤ n) ∨ (-4000 ≤ p ∧ p ≤ -1) := by
  unfold okP
  rw [Bool.or_eq_true, decide_eq_true_iff, decide_eq_true_iff]
  omega
def placesB (pl : List Int) (regs n : Int) : Bool := decide ((pl.length : Int) = regs) && pl.all (okP n)
def apartB (pl : List Int) (row : List Bool) : Bool := decide (∀ i < row.length, ∀ k < i, gB row i = true → gB row k = true → gP pl i ≠ gP pl k)
def oneAB (t : Tac) (pl : List Int) (row : List Bool) : Bool :=
  decide (∀ v < row.length, gB row v = true → ¬ ((0 ≤ setsL t ∧ (v : Int) ≠ setsL t ∧ gP pl v = gP pl (setsL t).toNat) ∨ (t.op = 10 ∧ 0 < gP pl v)))
def blkAB (f : BF) (L : LD) (pl : List Int) (b : Nat) : Bool := (List.range (f.bk b).ins.length).all fun i => oneAB ((f.bk b).ins.getD i default) pl ((behindL (f.bk b) (L.out.getD b default)).getD i default)
def allocB (f : BF) (L : LD) (pl : List Int) (n : Int) : Bool := checkB f L && placesB pl f.regs n && apartB pl (L.inn.getD 0 default) && (List.range f.n).all (blkAB f L pl)
structure AllocP (f : BF) (L : LD) (pl : List Int) (n : Int) : Prop where
  cl : ClosedP f L
  len : pl.length = f.r
  ok : ∀ v < f.r, (1 ≤ gP pl v ∧ gP pl v ≤ n) ∨ (-4000 ≤ gP pl v ∧ gP pl v ≤ -1)
  ap : ∀ u < f.r, ∀ v < f.r, u ≠ v → L.I 0 u = true → L.I 0 v = true → gP pl u ≠ gP pl v
  st : ∀ b < f.n, ∀ i < (f.bk b).ins.length, SetsT ((f.bk b).ins.getD i default) → ∀ v < f.r, thru1 ((f.bk b).ins.drop (i + 1)) v (last1 (f.bk b) v (L.O b v)) = true → v ≠ ((f.bk b).ins.getD i default).d.toNat → gP pl v ≠ gP pl ((f.bk b).ins.getD i default).d.toNat
  ca : ∀ b < f.n, ∀ i < (f.bk b).ins.length, ((f.bk b).ins.getD i default).op = 10 → ∀ v < f.r, thru1 ((f.bk b).ins.drop (i + 1)) v (last1 (f.bk b) v (L.O b v)) = true → gP pl v < 0
theorem behindL_get (b : Bk) (l : List Bool) {i : Nat} (hi : i < b.ins.length) : (behindL b l).getD i default = thruL (b.ins.drop (i + 1)) (lastL b l) := by
  unfold behindL
  simp only [List.getD, List.getElem?_map, List.getElem?_range hi, Option.map_some, Option.getD_some]
theorem gB_behind {f : BF} (hf : Fine f) {b : Nat} (hb : b < f.n) {l : List Bool} (hl : l.length = f.r) {i : Nat} (hi : i < (f.bk b).ins.length) {v : Nat} (hv : v < f.r) :
    ((behindL (f.bk b) l).getD i default).length = f.r ∧ gB ((behindL (f.bk b) l).getD i default) v = thru1 ((f.bk b).ins.drop (i + 1)) v (last1 (f.bk b) v (gB l v)) := by
  have hr := hf.regs hb hl
  rw [behindL_get _ _ hi, thruL_len, lastL_len]
  refine ⟨hl, ?_⟩
  rw [gB_thru _ _ _ (fun t ht => by rw [lastL_len]; exact hr.1 t (List.mem_of_mem_drop ht)) (by rw [lastL_len, hl]; exact hv), gB_last _ _ _ (fun e => (hr.2 e).1) (by rw [hl]; exact hv)]
theorem behindL_lens {f : BF} (hf : Fine f) {b : Nat} (hb : b < f.n) {l : List Bool} (hl : l.length = f.r) {i : Nat} (hi : i < (f.bk b).ins.length) : ((behindL (f.bk b) l).getD i default).length = f.r := by
  rw [behindL_get _ _ hi, thruL_len, lastL_len]; exact hl
theorem mem_ok {pl : List Int} {n : Int} : pl.all (okP n) = true ↔ ∀ v < pl.length, (1 ≤ gP pl v ∧ gP pl v ≤ n) ∨ (-4000 ≤ gP pl v ∧ gP pl v ≤ -1) := by
  rw [List.all_eq_true]
  refine ⟨fun h v hv => okP_iff.1 (h _ (mem_getD hv)), fun h p hp => ?_⟩
  obtain ⟨i, hi, rfl⟩ := List.getElem_of_mem hp
  have := h i hi
  unfold gP at this
  rw [List.getD, List.getElem?_eq_getElem hi, Option.getD_some] at this
  exact okP_iff.2 this
theorem allocB_iff {f : BF} (hf : Fine f) (L : LD) (pl : List Int) (n : Int) : allocB f L pl n = true ↔ AllocP f L pl n := by
  have hr0 := hf.r0
  have hrr : (f.r : Int) = f.regs := by unfold BF.r; omega
  have hn0 : 0 < f.n := List.length_pos_iff.2 hf.b0
  unfold allocB placesB
  simp only [Bool.and_eq_true, checkB_iff hf, decide_eq_true_eq, mem_ok]
  rw [List.all_eq_true]
  simp only [List.mem_range]
  refine ⟨fun ⟨⟨⟨h1, h2, h3⟩, h4⟩, h5⟩ => ?_, fun h => ⟨⟨⟨h.cl, by rw [h.len]; exact hrr, by rw [h.len]; exact h.ok⟩, ?_⟩, fun b hb => ?_⟩⟩
  · have hl : pl.length = f.r := by omega
    have h4 := of_decide_eq_true h4
    have hi0 : (L.inn.getD 0 default).length = f.r := h1.sz.il hn0
    have hone : ∀ b < f.n, ∀ i < (f.bk b).ins.length, ∀ v < f.r, thru1 ((f.bk b).ins.drop (i + 1)) v (last1 (f.bk b) v (L.O b v)) = true →
        ¬ ((0 ≤ setsL ((f.bk b).ins.getD i default) ∧ (v : Int) ≠ setsL ((f.bk b).ins.getD i default) ∧ gP pl v = gP pl (setsL ((f.bk b).ins.getD i default)).toNat) ∨ (((f.bk b).ins.getD i default).op = 10 ∧ 0 < gP pl v)) := fun b hb i hi v hv h => by
      have h6 := h5 b hb
      unfold blkAB at h6
      rw [List.all_eq_true] at h6
      have h7 := of_decide_eq_true (h6 i (List.mem_range.2 hi))
      have ho : (L.out.getD b default).length = f.r := h1.sz.ol hb
      obtain ⟨g1, g2⟩ := gB_behind hf hb ho hi hv
      exact h7 v (by rw [g1]; exact hv) (by rw [g2]; exact h)
    refine ⟨h1, hl, fun v hv => h3 v (by omega), fun u hu v hv hne a b => ?_, fun b hb i hi hs v hv h hne => ?_, fun b hb i hi hop v hv h => ?_⟩
    · rcases Nat.lt_or_ge u v with h | h
      · exact fun e => h4 v (by rw [hi0]; exact hv) u h b a e.symm
      · exact h4 u (by rw [hi0]; exact hu) v (by omega) a b
    · intro e
      have hss : setsL ((f.bk b).ins.getD i default) = ((f.bk b).ins.getD i default).d := if_pos hs
      have hd := (hf.ins _ (BF.mem hb) _ (mem_getD hi)).2 hs
      exact hone b hb i hi v hv h (.inl ⟨by rw [hss]; exact hd.1, by rw [hss]; omega, by rw [hss]; exact e⟩)
    · have g1 := hone b hb i hi v hv h
      have g2 := h3 v (by omega)
      rcases g2 with g2 | g2
      · exact absurd (.inr ⟨hop, by omega⟩) g1
      · omega
  · refine decide_eq_true fun i hi k hk a b => ?_
    have hi0 : (L.inn.getD 0 default).length = f.r := h.cl.sz.il hn0
    rw [hi0] at hi
    exact h.ap i hi k (by omega) (by omega) a b
  · unfold blkAB
    rw [List.all_eq_true]
    intro i hi
    have hi := List.mem_range.1 hi
    refine decide_eq_true fun v hv a => ?_
    have ho : (L.out.getD b default).length = f.r := h.cl.sz.ol hb
    rw [behindL_lens hf hb ho hi] at hv
    obtain ⟨g1, g2⟩ := gB_behind hf hb ho hi hv
    rw [g2] at a
    rintro (⟨e1, e2, e3⟩ | ⟨e1, e2⟩)
    · unfold setsL at e1 e2 e3
      by_cases hs : SetsT ((f.bk b).ins.getD i default)
      · rw [if_pos hs] at e1 e2 e3
        exact h.st b hb i hi hs v hv a (by omega) e3
      · rw [if_neg hs] at e1; omega
    · have := h.ca b hb i hi e1 v hv a
      omega
def wdsI (pl : List Int) : Int := pl.foldl (fun n p => if p < 0 ∧ n < IntKind.i64.wrap (-p) then IntKind.i64.wrap (-p) else n) 0
theorem wdsI_take (pl : List Int) {k : Nat} (hk : k < pl.length) : wdsI (pl.take (k + 1)) = (if pl.getD k default < 0 ∧ wdsI (pl.take k) < IntKind.i64.wrap (-(pl.getD k default)) then IntKind.i64.wrap (-(pl.getD k default)) else wdsI (pl.take k)) := by
  unfold wdsI
  rw [List.take_add_one, List.foldl_append]
  simp [List.getD, List.getElem?_eq_getElem hk]
theorem wrap_le (n : Int) : -9223372036854775808 ≤ IntKind.i64.wrap n ∧ IntKind.i64.wrap n ≤ 9223372036854775807 := by
  rw [IntKind.wrap_i64]; omega
theorem wdsI_pos (pl : List Int) : 0 ≤ wdsI pl ∧ wdsI pl ≤ 9223372036854775807 := by
  unfold wdsI
  suffices h : ∀ (n : Int), 0 ≤ n ∧ n ≤ 9223372036854775807 → 0 ≤ pl.foldl (fun n p => if p < 0 ∧ n < IntKind.i64.wrap (-p) then IntKind.i64.wrap (-p) else n) n ∧ pl.foldl (fun n p => if p < 0 ∧ n < IntKind.i64.wrap (-p) then IntKind.i64.wrap (-p) else n) n ≤ 9223372036854775807 from h 0 (by omega)
  induction pl with
  | nil => exact fun n h => h
  | cons p pl ih =>
    intro n h
    rw [List.foldl_cons]
    refine ih _ ?_
    have := wrap_le (-p)
    split <;> omega
theorem wdsI_ge {pl : List Int} {v : Nat} (hv : v < pl.length) (h0 : -4000 ≤ gP pl v) (h1 : gP pl v < 0) : -(gP pl v) ≤ wdsI pl := by
  have hmono : ∀ (l : List Int) (n : Int), n ≤ l.foldl (fun n p => if p < 0 ∧ n < IntKind.i64.wrap (-p) then IntKind.i64.wrap (-p) else n) n := by
    intro l
    induction l with
    | nil => exact fun n => Int.le_refl n
    | cons p l ih =>
      intro n
      rw [List.foldl_cons]
      refine Int.le_trans ?_ (ih _)
      split <;> omega
  have key : ∀ (l : List Int) (n p : Int), p ∈ l → -4000 ≤ p → p < 0 → -p ≤ l.foldl (fun n p => if p < 0 ∧ n < IntKind.i64.wrap (-p) then IntKind.i64.wrap (-p) else n) n := by
    intro l
    induction l with
    | nil => intro n p h; simp at h
    | cons q l ih =>
      intro n p hp h1 h2
      rw [List.foldl_cons]
      rcases List.mem_cons.1 hp with rfl | h
      · refine Int.le_trans ?_ (hmono l _)
        rw [i64_in (show -9223372036854775808 ≤ -p by omega) (by omega)]
        split <;> omega
      · exact ih _ p h h1 h2
  exact key pl 0 _ (mem_getD hv) h0 h1
theorem wdsI_le {pl : List Int} {m : Int} (hm : 0 ≤ m) (h : ∀ v < pl.length, -9000000000000 ≤ gP pl v ∧ -(gP pl v) ≤ m) : wdsI pl ≤ m := by
  unfold wdsI
  have key : ∀ (l : List Int) (n : Int), n ≤ m → (∀ p ∈ l, -9000000000000 ≤ p ∧ -p ≤ m) → l.foldl (fun n p => if p < 0 ∧ n < IntKind.i64.wrap (-p) then IntKind.i64.wrap (-p) else n) n ≤ m := by
    intro l
    induction l with
    | nil => exact fun n h _ => h
    | cons q l ih =>
      intro n hn hl
      rw [List.foldl_cons]
      refine ih _ ?_ fun p hp => hl p (by simp [hp])
      have := hl q (by simp)
      split
      · rename_i h3
        rw [i64_in (show -9223372036854775808 ≤ -q by omega) (by omega)]
        exact this.2
      · exact hn
  refine key pl 0 hm fun p hp => ?_
  obtain ⟨i, hi, rfl⟩ := List.getElem_of_mem hp
  have := h i hi
  unfold gP at this
  rw [List.getD, List.getElem?_eq_getElem hi, Option.getD_some] at this
  exact this
end Go.Proofs.Ytncjbipnkdlkoaa
