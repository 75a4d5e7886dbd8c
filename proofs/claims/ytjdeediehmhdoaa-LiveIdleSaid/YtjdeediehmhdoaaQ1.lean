/-
  Three-address code as data; what an instruction reads and sets, and what follows a block: contracts. No condition. What matters, plainly: rows of truths, what an instruction makes of one, closed tables, the least one. No condition. What matters, plainly: rows as words; the search for the least table: what stays true of it. No condition. The search for the least table, plainly: a step keeps what is true of it, and ends; what it ends with is the least one. No condition. The document's search, plainly: block by block, the last one first, until nothing is added. No condition. The document's word on three-address code: may an instruction, an end, a function, a program be: contracts. No condition. Words: what the operations make of two of them, plainly. No condition.
-/
import Derived.Test.YtjdeediehmhdoaaCode
import Derived.Test.YtjdeediehmhdoaaVH
namespace Go.Proofs.Ytjdeediehmhdoaa
set_option linter.unusedSimpArgs false
set_option linter.unusedVariables false
open Go.V

structure Tac where
  op : Int
  d : Int
  a : Int
  b : Int
  k : Int
  base : Int
  size : Int
  n : Int
deriving Inhabited, DecidableEq
structure Bk where
  ins : List Tac
  e : Int
  v : Int
  to : Int
  el : Int
deriving Inhabited, DecidableEq
structure BF where
  regs : Int
  bks : List Bk
deriving Inhabited, DecidableEq
abbrev tacL (t : Tac) : List AV := [I t.op, I t.d, I t.a, I t.b, I t.k, I t.base, I t.size, U32 t.n]
abbrev tacA (t : Tac) : AV := .agg (tacL t)
abbrev inA (l : List Tac) : AV := .imm 8 (l.map tacA)
abbrev bkL (b : Bk) : List AV := [inA b.ins, I b.e, I b.v, I b.to, I b.el]
abbrev bkA (b : Bk) : AV := .agg (bkL b)
abbrev bksA (l : List Bk) : AV := .imm 5 (l.map bkA)
abbrev bfA (f : BF) : AV := .agg [I f.regs, bksA f.bks]

def usesL (t : Tac) : List Int :=
  if t.op = 2 ∨ t.op = 5 ∨ t.op = 6 ∨ t.op = 9 then [t.a] else if t.op = 3 ∨ t.op = 7 then [t.a, t.b] else []
def SetsT (t : Tac) : Prop := t.op = 1 ∨ t.op = 2 ∨ t.op = 3 ∨ t.op = 4 ∨ t.op = 6 ∨ t.op = 8
instance (t : Tac) : Decidable (SetsT t) := by unfold SetsT; exact inferInstance
def setsL (t : Tac) : Int := if SetsT t then t.d else -1

theorem usesL_len (t : Tac) : (usesL t).length ≤ 2 := by
  unfold usesL; split
  · simp
  · split <;> simp
theorem usesL_one {t : Tac} (h : t.op = 2 ∨ t.op = 5 ∨ t.op = 6 ∨ t.op = 9) : usesL t = [t.a] := if_pos h
theorem usesL_two {t : Tac} (h : t.op = 3 ∨ t.op = 7) : usesL t = [t.a, t.b] := by
  unfold usesL; rw [if_neg (by omega), if_pos h]
theorem usesL_none {t : Tac} (h : ¬ (t.op = 2 ∨ t.op = 5 ∨ t.op = 6 ∨ t.op = 9)) (h' : ¬ (t.op = 3 ∨ t.op = 7)) : usesL t = [] := by
  unfold usesL; rw [if_neg h, if_neg h']

theorem refuses_c (t : Tac) : ContractN Try.prog 24 [tacA t] (fun r => r = ints (usesL t)) := by
  refine ContractN.of_call (VCall.of_body hmix f_scref24_Uses (by simp) ?_)
  obtain ⟨op, d, a, b, k, base, size, n⟩ := t
  have ho : op = 2 ∨ op = 5 ∨ op = 6 ∨ op = 9 ∨ op = 3 ∨ op = 7 ∨ (op ≠ 2 ∧ op ≠ 5 ∧ op ≠ 6 ∧ op ≠ 9 ∧ op ≠ 3 ∧ op ≠ 7) := by omega
  rcases ho with rfl | rfl | rfl | rfl | rfl | rfl | ⟨h1, h2, h3, h4, h5, h6⟩
  · simp only [go_sem,Nat.reduceEqDiff,Nat.reduceAdd,Nat.reduceMul,↓reduceIte,↓dreduceIte,reduceCtorEq,Nat.reduceLeDiff,Nat.reduceLT,Nat.reduceSub,Int.reduceToNat,Int.reduceLE,Int.reduceLT, c_scref24_Uses, Int.reduceEq, Int.reduceBEq]; exact ⟨_, frzN_ints (l := [a]) rfl rfl, rfl⟩
  · simp only [go_sem,Nat.reduceEqDiff,Nat.reduceAdd,Nat.reduceMul,↓reduceIte,↓dreduceIte,reduceCtorEq,Nat.reduceLeDiff,Nat.reduceLT,Nat.reduceSub,Int.reduceToNat,Int.reduceLE,Int.reduceLT, c_scref24_Uses, Int.reduceEq, Int.reduceBEq]; exact ⟨_, frzN_ints (l := [a]) rfl rfl, rfl⟩
  · simp only [go_sem,Nat.reduceEqDiff,Nat.reduceAdd,Nat.reduceMul,↓reduceIte,↓dreduceIte,reduceCtorEq,Nat.reduceLeDiff,Nat.reduceLT,Nat.reduceSub,Int.reduceToNat,Int.reduceLE,Int.reduceLT, c_scref24_Uses, Int.reduceEq, Int.reduceBEq]; exact ⟨_, frzN_ints (l := [a]) rfl rfl, rfl⟩
  · simp only [go_sem,Nat.reduceEqDiff,Nat.reduceAdd,Nat.reduceMul,↓reduceIte,↓dreduceIte,reduceCtorEq,Nat.reduceLeDiff,Nat.reduceLT,Nat.reduceSub,Int.reduceToNat,Int.reduceLE,Int.reduceLT, c_scref24_Uses, Int.reduceEq, Int.reduceBEq]; exact ⟨_, frzN_ints (l := [a]) rfl rfl, rfl⟩
  · simp only [go_sem,Nat.reduceEqDiff,Nat.reduceAdd,Nat.reduceMul,↓reduceIte,↓dreduceIte,reduceCtorEq,Nat.reduceLeDiff,Nat.reduceLT,Nat.reduceSub,Int.reduceToNat,Int.reduceLE,Int.reduceLT, c_scref24_Uses, Int.reduceEq, Int.reduceBEq]; exact ⟨_, frzN_ints (l := [a, b]) rfl rfl, rfl⟩
  · simp only [go_sem,Nat.reduceEqDiff,Nat.reduceAdd,Nat.reduceMul,↓reduceIte,↓dreduceIte,reduceCtorEq,Nat.reduceLeDiff,Nat.reduceLT,Nat.reduceSub,Int.reduceToNat,Int.reduceLE,Int.reduceLT, c_scref24_Uses, Int.reduceEq, Int.reduceBEq]; exact ⟨_, frzN_ints (l := [a, b]) rfl rfl, rfl⟩
  · simp only [go_sem,Nat.reduceEqDiff,Nat.reduceAdd,Nat.reduceMul,↓reduceIte,↓dreduceIte,reduceCtorEq,Nat.reduceLeDiff,Nat.reduceLT,Nat.reduceSub,Int.reduceToNat,Int.reduceLE,Int.reduceLT, c_scref24_Uses, Int.reduceEq, Int.reduceBEq, h1, h2, h3, h4, h5, h6, eq_false h1, eq_false h2, eq_false h3, eq_false h4, eq_false h5, eq_false h6]
    refine ⟨_, FrzN.nil 1, ?_⟩
    rw [usesL_none (by simp only; omega) (by simp only; omega)]; rfl
theorem refsets_c (t : Tac) : Contract Try.prog 53 [tacA t] (fun r => r = I (setsL t)) := by
  refine Contract.of_call (VCall.of_body hmix f_scref24_Sets (by simp) ?_)
  obtain ⟨op, d, a, b, k, base, size, n⟩ := t
  have ho : op = 1 ∨ op = 2 ∨ op = 3 ∨ op = 4 ∨ op = 6 ∨ op = 8 ∨ (op ≠ 1 ∧ op ≠ 2 ∧ op ≠ 3 ∧ op ≠ 4 ∧ op ≠ 6 ∧ op ≠ 8) := by omega
  rcases ho with rfl | rfl | rfl | rfl | rfl | rfl | ⟨h1, h2, h3, h4, h5, h6⟩
  all_goals first
    | (simp only [go_sem,Nat.reduceEqDiff,Nat.reduceAdd,Nat.reduceMul,↓reduceIte,↓dreduceIte,reduceCtorEq,Nat.reduceLeDiff,Nat.reduceLT,Nat.reduceSub,Int.reduceToNat,Int.reduceLE,Int.reduceLT, c_scref24_Sets, Int.reduceEq, Int.reduceBEq]; exact ⟨_, Frz.pure rfl, rfl⟩)
    | (simp only [go_sem,Nat.reduceEqDiff,Nat.reduceAdd,Nat.reduceMul,↓reduceIte,↓dreduceIte,reduceCtorEq,Nat.reduceLeDiff,Nat.reduceLT,Nat.reduceSub,Int.reduceToNat,Int.reduceLE,Int.reduceLT, c_scref24_Sets, Int.reduceEq, Int.reduceBEq, h1, h2, h3, h4, h5, h6, eq_false h1, eq_false h2, eq_false h3, eq_false h4, eq_false h5, eq_false h6]
       refine ⟨_, Frz.pure rfl, ?_⟩
       rw [show setsL ⟨op, d, a, b, k, base, size, n⟩ = -1 from if_neg (by unfold SetsT; simp only; omega)])

/-- The same of the program's own. -/
def readsN (op : Int) : Int := if op = 2 ∨ op = 5 ∨ op = 6 ∨ op = 9 then 1 else if op = 3 ∨ op = 7 then 2 else 0
theorem usesL_eq (t : Tac) : usesL t = if readsN t.op = 1 then [t.a] else if readsN t.op = 2 then [t.a, t.b] else [] := by
  unfold usesL readsN
  by_cases h : t.op = 2 ∨ t.op = 5 ∨ t.op = 6 ∨ t.op = 9
  · simp [h]
  · by_cases h' : t.op = 3 ∨ t.op = 7
    · simp [h, h']
    · simp [h, h']
theorem bsets_c (t : Tac) : Contract Try.prog 61 [I t.op] (fun r => r = B (decide (SetsT t))) := by
  refine Contract.of_call (VCall.of_body hmix f_block_sets (by simp) ?_)
  obtain ⟨op, d, a, b, k, base, size, n⟩ := t
  have ho : op = 1 ∨ op = 2 ∨ op = 3 ∨ op = 4 ∨ op = 6 ∨ op = 8 ∨ (op ≠ 1 ∧ op ≠ 2 ∧ op ≠ 3 ∧ op ≠ 4 ∧ op ≠ 6 ∧ op ≠ 8) := by omega
  rcases ho with rfl | rfl | rfl | rfl | rfl | rfl | ⟨h1, h2, h3, h4, h5, h6⟩
  all_goals first
    | (simp only [go_sem,Nat.reduceEqDiff,Nat.reduceAdd,Nat.reduceMul,↓reduceIte,↓dreduceIte,reduceCtorEq,Nat.reduceLeDiff,Nat.reduceLT,Nat.reduceSub,Int.reduceToNat,Int.reduceLE,Int.reduceLT, c_block_sets, Int.reduceEq, Int.reduceBEq]; exact ⟨_, Frz.pure rfl, rfl⟩)
    | (simp only [go_sem,Nat.reduceEqDiff,Nat.reduceAdd,Nat.reduceMul,↓reduceIte,↓dreduceIte,reduceCtorEq,Nat.reduceLeDiff,Nat.reduceLT,Nat.reduceSub,Int.reduceToNat,Int.reduceLE,Int.reduceLT, c_block_sets, Int.reduceEq, Int.reduceBEq, h1, h2, h3, h4, h5, h6, eq_false h1, eq_false h2, eq_false h3, eq_false h4, eq_false h5, eq_false h6]
       refine ⟨_, Frz.pure rfl, ?_⟩
       rw [decide_eq_false (by unfold SetsT; simp only; omega)])
theorem breads_c (op : Int) : Contract Try.prog 62 [I op] (fun r => r = I (readsN op)) := by
  refine Contract.of_call (VCall.of_body hmix f_block_reads (by simp) ?_)
  have ho : op = 2 ∨ op = 5 ∨ op = 6 ∨ op = 9 ∨ op = 3 ∨ op = 7 ∨ (op ≠ 2 ∧ op ≠ 5 ∧ op ≠ 6 ∧ op ≠ 9 ∧ op ≠ 3 ∧ op ≠ 7) := by omega
  rcases ho with rfl | rfl | rfl | rfl | rfl | rfl | ⟨h1, h2, h3, h4, h5, h6⟩
  all_goals first
    | (simp only [go_sem,Nat.reduceEqDiff,Nat.reduceAdd,Nat.reduceMul,↓reduceIte,↓dreduceIte,reduceCtorEq,Nat.reduceLeDiff,Nat.reduceLT,Nat.reduceSub,Int.reduceToNat,Int.reduceLE,Int.reduceLT, c_block_reads, Int.reduceEq, Int.reduceBEq]; exact ⟨_, Frz.pure rfl, rfl⟩)
    | (simp only [go_sem,Nat.reduceEqDiff,Nat.reduceAdd,Nat.reduceMul,↓reduceIte,↓dreduceIte,reduceCtorEq,Nat.reduceLeDiff,Nat.reduceLT,Nat.reduceSub,Int.reduceToNat,Int.reduceLE,Int.reduceLT, c_block_reads, Int.reduceEq, Int.reduceBEq, h1, h2, h3, h4, h5, h6, eq_false h1, eq_false h2, eq_false h3, eq_false h4, eq_false h5, eq_false h6]
       refine ⟨_, Frz.pure rfl, ?_⟩
       rw [show readsN op = 0 by unfold readsN; rw [if_neg (by omega), if_neg (by omega)]])
theorem bSets_c (t : Tac) : Contract Try.prog 51 [tacA t] (fun r => r = I (setsL t)) := by
  refine Contract.of_call (VCall.of_body hmix f_block_Sets (by simp) ?_)
  simp only [go_sem,Nat.reduceEqDiff,Nat.reduceAdd,Nat.reduceMul,↓reduceIte,↓dreduceIte,reduceCtorEq,Nat.reduceLeDiff,Nat.reduceLT,Nat.reduceSub,Int.reduceToNat,Int.reduceLE,Int.reduceLT, c_block_Sets]
  refine VCall.of_contract (bsets_c t) (SleL.pure rfl) fun r hr => ?_
  subst hr
  by_cases h : SetsT t
  · simp only [go_sem,Nat.reduceEqDiff,Nat.reduceAdd,Nat.reduceMul,↓reduceIte,↓dreduceIte,reduceCtorEq,Nat.reduceLeDiff,Nat.reduceLT,Nat.reduceSub,Int.reduceToNat,Int.reduceLE,Int.reduceLT, decide_eq_true h]
    exact ⟨_, Frz.pure rfl, by rw [show setsL t = t.d from if_pos h]⟩
  · simp only [go_sem,Nat.reduceEqDiff,Nat.reduceAdd,Nat.reduceMul,↓reduceIte,↓dreduceIte,reduceCtorEq,Nat.reduceLeDiff,Nat.reduceLT,Nat.reduceSub,Int.reduceToNat,Int.reduceLE,Int.reduceLT, decide_eq_false h]
    exact ⟨_, Frz.pure rfl, by rw [show setsL t = -1 from if_neg h]⟩
theorem bUses_c (t : Tac) : ContractN Try.prog 52 [tacA t] (fun r => r = ints (usesL t)) := by
  refine ContractN.of_call (VCall.of_body hmix f_block_Uses (by simp) ?_)
  simp only [go_sem,Nat.reduceEqDiff,Nat.reduceAdd,Nat.reduceMul,↓reduceIte,↓dreduceIte,reduceCtorEq,Nat.reduceLeDiff,Nat.reduceLT,Nat.reduceSub,Int.reduceToNat,Int.reduceLE,Int.reduceLT, c_block_Uses]
  refine VCall.of_contract (breads_c t.op) (SleL.pure rfl) fun r hr => ?_
  subst hr
  have h3 : readsN t.op = 1 ∨ readsN t.op = 2 ∨ (readsN t.op ≠ 1 ∧ readsN t.op ≠ 2) := by omega
  rcases h3 with h | h | ⟨h, h'⟩
  · simp only [go_sem,Nat.reduceEqDiff,Nat.reduceAdd,Nat.reduceMul,↓reduceIte,↓dreduceIte,reduceCtorEq,Nat.reduceLeDiff,Nat.reduceLT,Nat.reduceSub,Int.reduceToNat,Int.reduceLE,Int.reduceLT, h, Int.reduceEq, Int.reduceBEq]
    exact ⟨_, frzN_ints (l := [t.a]) rfl rfl, by rw [usesL_eq, if_pos h]⟩
  · simp only [go_sem,Nat.reduceEqDiff,Nat.reduceAdd,Nat.reduceMul,↓reduceIte,↓dreduceIte,reduceCtorEq,Nat.reduceLeDiff,Nat.reduceLT,Nat.reduceSub,Int.reduceToNat,Int.reduceLE,Int.reduceLT, h, Int.reduceEq, Int.reduceBEq]
    exact ⟨_, frzN_ints (l := [t.a, t.b]) rfl rfl, by rw [usesL_eq, if_neg (by omega), if_pos h]⟩
  · simp only [go_sem,Nat.reduceEqDiff,Nat.reduceAdd,Nat.reduceMul,↓reduceIte,↓dreduceIte,reduceCtorEq,Nat.reduceLeDiff,Nat.reduceLT,Nat.reduceSub,Int.reduceToNat,Int.reduceLE,Int.reduceLT, eq_false h, eq_false h', Int.reduceEq, Int.reduceBEq]
    exact ⟨_, FrzN.nil 1, by rw [usesL_eq, if_neg h, if_neg h']; rfl⟩
end Go.Proofs.Ytjdeediehmhdoaa
namespace Go.Proofs.Ytjdeediehmhdoaa
set_option linter.unusedSimpArgs false
set_option linter.unusedVariables false
open Go.V

abbrev rowsA (m : List (List Bool)) : AV := .imm 1 (m.map bools)
structure LD where
  inn : List (List Bool)
  out : List (List Bool)
deriving Inhabited
abbrev liveA (L : LD) : AV := .agg [rowsA L.inn, rowsA L.out]

def gB (l : List Bool) (v : Nat) : Bool := l.getD v false
def LD.I (L : LD) (b v : Nat) : Bool := gB (L.inn.getD b []) v
def LD.O (L : LD) (b v : Nat) : Bool := gB (L.out.getD b []) v

def clearL (t : Tac) (l : List Bool) : List Bool := if 0 ≤ setsL t then l.set (setsL t).toNat false else l
def useL (l : List Bool) (us : List Int) : List Bool := us.foldl (fun l u => l.set u.toNat true) l
def backL (t : Tac) (l : List Bool) : List Bool := useL (clearL t l) (usesL t)
def lastL (b : Bk) (l : List Bool) : List Bool := if b.e = 2 then l.set b.v.toNat true else l
def thruL (ins : List Tac) (l : List Bool) : List Bool := ins.foldr backL l
def aheadL (b : Bk) (l : List Bool) : List Bool := thruL b.ins (lastL b l)
def behindL (b : Bk) (l : List Bool) : List (List Bool) := (List.range b.ins.length).map fun i => thruL (b.ins.drop (i + 1)) (lastL b l)

theorem useL_len : ∀ (us : List Int) (l : List Bool), (useL l us).length = l.length
  | [], _ => rfl
  | u :: us, l => by simp only [useL, List.foldl_cons]; rw [← useL, useL_len us]; simp
theorem clearL_len (t : Tac) (l : List Bool) : (clearL t l).length = l.length := by unfold clearL; split <;> simp
theorem backL_len (t : Tac) (l : List Bool) : (backL t l).length = l.length := by unfold backL; rw [useL_len, clearL_len]
theorem lastL_len (b : Bk) (l : List Bool) : (lastL b l).length = l.length := by unfold lastL; split <;> simp
theorem thruL_len : ∀ (ins : List Tac) (l : List Bool), (thruL ins l).length = l.length
  | [], _ => rfl
  | t :: ins, l => by show (backL t (thruL ins l)).length = _; rw [backL_len, thruL_len ins]
theorem aheadL_len (b : Bk) (l : List Bool) : (aheadL b l).length = l.length := by unfold aheadL; rw [thruL_len, lastL_len]

theorem gB_set (l : List Bool) (i v : Nat) (x : Bool) (hv : v < l.length) : gB (l.set i x) v = if i = v then x else gB l v := by
  unfold gB
  rw [List.getD, List.getElem?_set]
  by_cases h : i = v
  · subst h; simp [hv]
  · rw [if_neg h, if_neg h]; rfl
theorem gB_le {l : List Bool} {v : Nat} (h : gB l v = true) : v < l.length := by
  unfold gB at h
  rcases Nat.lt_or_ge v l.length with h1 | h1
  · exact h1
  · rw [List.getD, List.getElem?_eq_none h1] at h; simp at h
theorem gB_ext {a b : List Bool} (hl : a.length = b.length) (h : ∀ v < a.length, gB a v = gB b v) : a = b := by
  refine List.ext_getElem hl fun i h1 h2 => ?_
  have := h i h1
  simp only [gB, List.getD, List.getElem?_eq_getElem h1, List.getElem?_eq_getElem h2, Option.getD_some] at this
  exact this

/-- What an instruction makes of one register's truth. -/
def bk1 (t : Tac) (v : Nat) (x : Bool) : Bool := if (v : Int) ∈ usesL t then true else if setsL t = (v : Int) then false else x
def last1 (b : Bk) (v : Nat) (x : Bool) : Bool := if b.e = 2 ∧ b.v = (v : Int) then true else x
def thru1 (ins : List Tac) (v : Nat) (x : Bool) : Bool := ins.foldr (fun t x => bk1 t v x) x

theorem gB_use : ∀ (us : List Int) (l : List Bool) (v : Nat), (∀ u ∈ us, 0 ≤ u) → v < l.length → gB (useL l us) v = if (v : Int) ∈ us then true else gB l v
  | [], l, v, _, _ => by simp [useL]
  | u :: us, l, v, hu, hv => by
    simp only [useL, List.foldl_cons]
    rw [← useL, gB_use us _ v (fun w hw => hu w (by simp [hw])) (by simpa using hv), gB_set _ _ _ _ hv]
    have h0 := hu u (by simp)
    by_cases h1 : (v : Int) ∈ us
    · simp [h1]
    · by_cases h2 : (v : Int) = u
      · rw [if_neg h1, if_pos (by omega), if_pos (by simp [h2])]
      · rw [if_neg h1, if_neg (by omega), if_neg (by simp [h1, h2])]

/-- Registers of an instruction, of a block's end, lie within. -/
def RegT (t : Tac) (n : Int) : Prop := (∀ u ∈ usesL t, 0 ≤ u ∧ u < n) ∧ (SetsT t → 0 ≤ t.d ∧ t.d < n)
theorem RegT.sets {t : Tac} {n : Int} (h : RegT t n) : setsL t = -1 ∨ (0 ≤ setsL t ∧ setsL t < n) := by
  unfold setsL; split
  · rename_i h1; exact .inr (h.2 h1)
  · exact .inl rfl
theorem gB_back (t : Tac) (l : List Bool) (v : Nat) (hr : RegT t l.length) (hv : v < l.length) : gB (backL t l) v = bk1 t v (gB l v) := by
  unfold backL bk1
  rw [gB_use _ _ _ (fun u hu => (hr.1 u hu).1) (by rw [clearL_len]; exact hv)]
  congr 1
  unfold clearL
  rcases hr.sets with h | ⟨h, _⟩
  · rw [h, if_neg (by omega), if_neg (by omega)]
  · rw [if_pos h, gB_set _ _ _ _ hv]
    by_cases h2 : setsL t = (v : Int)
    · rw [if_pos (by omega), if_pos h2]
    · rw [if_neg (by omega), if_neg h2]
theorem gB_thru : ∀ (ins : List Tac) (l : List Bool) (v : Nat), (∀ t ∈ ins, RegT t l.length) → v < l.length → gB (thruL ins l) v = thru1 ins v (gB l v)
  | [], _, _, _, _ => rfl
  | t :: ins, l, v, hr, hv => by
    show gB (backL t (thruL ins l)) v = bk1 t v (thru1 ins v (gB l v))
    rw [gB_back _ _ _ (by rw [thruL_len]; exact hr t (by simp)) (by rw [thruL_len]; exact hv), gB_thru ins l v (fun t ht => hr t (by simp [ht])) hv]
theorem gB_last (b : Bk) (l : List Bool) (v : Nat) (hb : b.e = 2 → 0 ≤ b.v) (hv : v < l.length) : gB (lastL b l) v = last1 b v (gB l v) := by
  unfold lastL last1
  by_cases h : b.e = 2
  · have := hb h
    rw [if_pos h, gB_set _ _ _ _ hv]
    by_cases h2 : b.v = (v : Int)
    · rw [if_pos (by omega), if_pos ⟨h, h2⟩]
    · rw [if_neg (by omega), if_neg (fun e => h2 e.2)]
  · rw [if_neg h, if_neg (fun e => h e.1)]

/-- What follows a block. -/
def nxt (b : Bk) : List Int := if b.e = 1 then [b.to] else if b.e = 2 then [b.to, b.el] else []
theorem nxt_len (b : Bk) : (nxt b).length ≤ 2 := by unfold nxt; split; simp; split <;> simp

/-- A function whose parts lie within. -/
structure Fine (f : BF) : Prop where
  r0 : 0 ≤ f.regs
  r1 : f.regs ≤ 4000
  b0 : f.bks ≠ []
  b1 : f.bks.length ≤ 500
  ins : ∀ b ∈ f.bks, ∀ t ∈ b.ins, RegT t f.regs
  len : ∀ b ∈ f.bks, b.ins.length ≤ 1000
  v : ∀ b ∈ f.bks, b.e = 2 → 0 ≤ b.v ∧ b.v < f.regs
  to : ∀ b ∈ f.bks, ∀ k ∈ nxt b, 0 ≤ k ∧ k < f.bks.length

def BF.n (f : BF) : Nat := f.bks.length
def BF.r (f : BF) : Nat := f.regs.toNat
def BF.bk (f : BF) (b : Nat) : Bk := f.bks.getD b default
theorem BF.mem {f : BF} {b : Nat} (h : b < f.n) : f.bk b ∈ f.bks := mem_getD h
/-- What one register's truth ahead of a block is, of that behind it. -/
def ahead1 (b : Bk) (v : Nat) (x : Bool) : Bool := thru1 b.ins v (last1 b v x)
theorem gB_ahead {f : BF} (hf : Fine f) {b : Nat} (hb : b < f.n) (l : List Bool) (hl : l.length = f.r) {v : Nat} (hv : v < f.r) : gB (aheadL (f.bk b) l) v = ahead1 (f.bk b) v (gB l v) := by
  have hr0 := hf.r0
  have hm := BF.mem hb
  have hlr : (l.length : Int) = f.regs := by rw [hl]; unfold BF.r; omega
  unfold aheadL ahead1
  rw [gB_thru _ _ _ (fun t ht => by rw [lastL_len, hlr]; exact hf.ins _ hm t ht) (by rw [lastL_len, hl]; exact hv), gB_last _ _ _ (fun h => (hf.v _ hm h).1) (by rw [hl]; exact hv)]

/-- A truth's function that is one of three. -/
def Tri (g : Bool → Bool) : Prop := (∀ x, g x = true) ∨ (∀ x, g x = false) ∨ (∀ x, g x = x)
theorem Tri.id : Tri fun x => x := .inr (.inr fun _ => rfl)
theorem Tri.comp {g h : Bool → Bool} (hg : Tri g) (hh : Tri h) : Tri fun x => g (h x) := by
  rcases hg with h1 | h1 | h1
  · exact .inl fun x => h1 _
  · exact .inr (.inl fun x => h1 _)
  · rcases hh with h2 | h2 | h2
    · exact .inl fun x => by simp only [h1, h2]
    · exact .inr (.inl fun x => by simp only [h1, h2])
    · exact .inr (.inr fun x => by simp only [h1, h2])
theorem Tri.bk1 (t : Tac) (v : Nat) : Tri (bk1 t v) := by
  unfold Go.Proofs.Ytjdeediehmhdoaa.bk1
  by_cases h : (v : Int) ∈ usesL t
  · exact .inl fun x => if_pos h
  · by_cases h2 : setsL t = (v : Int)
    · exact .inr (.inl fun x => by simp only [if_neg h, if_pos h2])
    · exact .inr (.inr fun x => by simp only [if_neg h, if_neg h2])
theorem Tri.thru1 (v : Nat) : ∀ ins, Tri (thru1 ins v)
  | [] => Tri.id
  | t :: ins => (Tri.bk1 t v).comp (Tri.thru1 v ins)
theorem Tri.ahead1 (b : Bk) (v : Nat) : Tri (ahead1 b v) := by
  refine (Tri.thru1 v b.ins).comp ?_
  unfold last1
  by_cases h : b.e = 2 ∧ b.v = (v : Int)
  · exact .inl fun x => if_pos h
  · exact .inr (.inr fun x => if_neg h)
theorem Tri.mono {g : Bool → Bool} (h : Tri g) {x y : Bool} (hxy : x = true → y = true) (hx : g x = true) : g y = true := by
  rcases h with h | h | h
  · exact h y
  · rw [h] at hx; cases hx
  · rw [h] at hx ⊢; exact hxy hx
theorem Tri.or {g : Bool → Bool} (h : Tri g) (x y : Bool) : g (x || y) = (g x || g y) := by
  rcases h with h | h | h <;> simp [h]
theorem Tri.and {g : Bool → Bool} (h : Tri g) (x y : Bool) : g (x && y) = (g x && g y) := by
  rcases h with h | h | h <;> simp [h]

/-- Has it just so many rows of so many? -/
def sizedL (m : List (List Bool)) (n : Int) (r : Int) : Bool := decide ((m.length : Int) = n) && m.all fun l => decide ((l.length : Int) = r)
def sizedB (f : BF) (L : LD) : Bool := sizedL L.inn f.bks.length f.regs && sizedL L.out f.bks.length f.regs
structure SizedP (f : BF) (L : LD) : Prop where
  i : L.inn.length = f.n
  o : L.out.length = f.n
  ir : ∀ l ∈ L.inn, l.length = f.r
  or : ∀ l ∈ L.out, l.length = f.r
theorem sizedB_iff {f : BF} (h0 : 0 ≤ f.regs) (L : LD) : sizedB f L = true ↔ SizedP f L := by
  unfold sizedB sizedL
  simp only [Bool.and_eq_true, decide_eq_true_eq, List.all_eq_true]
  refine ⟨fun ⟨⟨h1, h2⟩, h3, h4⟩ => ⟨by unfold BF.n; omega, by unfold BF.n; omega, fun l hl => ?_, fun l hl => ?_⟩, fun h => ⟨⟨by have := h.i; unfold BF.n at this; omega, fun l hl => ?_⟩, by have := h.o; unfold BF.n at this; omega, fun l hl => ?_⟩⟩
  · have := h2 l hl; unfold BF.r; omega
  · have := h4 l hl; unfold BF.r; omega
  · have := h.ir l hl; unfold BF.r at this; omega
  · have := h.or l hl; unfold BF.r at this; omega

theorem getD_nil {m : List (List Bool)} {b : Nat} (hb : b < m.length) : m.getD b [] ∈ m := by
  rw [List.getD, List.getElem?_eq_getElem hb]; exact List.getElem_mem hb
theorem SizedP.il {f : BF} {L : LD} (h : SizedP f L) {b : Nat} (hb : b < f.n) : (L.inn.getD b []).length = f.r := h.ir _ (getD_nil (by rw [h.i]; exact hb))
theorem SizedP.ol {f : BF} {L : LD} (h : SizedP f L) {b : Nat} (hb : b < f.n) : (L.out.getD b []).length = f.r := h.or _ (getD_nil (by rw [h.o]; exact hb))

/-- Closed, by registers. -/
structure Closed (f : BF) (I O : Nat → Nat → Bool) : Prop where
  way : ∀ b < f.n, ∀ k ∈ nxt (f.bk b), ∀ v < f.r, I k.toNat v = true → O b v = true
  ahead : ∀ b < f.n, ∀ v < f.r, ahead1 (f.bk b) v (O b v) = true → I b v = true
structure ClosedP (f : BF) (L : LD) : Prop where
  sz : SizedP f L
  cl : Closed f L.I L.O

/-- Which registers matter: those that are in all closed tables. -/
def InAll (f : BF) (b v : Nat) : Prop := ∀ I O, Closed f I O → I b v = true
def OutAll (f : BF) (b v : Nat) : Prop := ∀ I O, Closed f I O → O b v = true
structure Least (f : BF) (L : LD) : Prop where
  cl : ClosedP f L
  min : ∀ I O, Closed f I O → ∀ b < f.n, ∀ v < f.r, (L.I b v = true → I b v = true) ∧ (L.O b v = true → O b v = true)

theorem LD.ext {f : BF} {L M : LD} (hL : SizedP f L) (hM : SizedP f M) (hi : ∀ b < f.n, ∀ v < f.r, L.I b v = M.I b v) (ho : ∀ b < f.n, ∀ v < f.r, L.O b v = M.O b v) : L = M := by
  obtain ⟨i, o⟩ := L
  obtain ⟨i', o'⟩ := M
  have key : ∀ (a a' : List (List Bool)), a.length = f.n → a'.length = f.n → (∀ b < f.n, (a.getD b []).length = f.r) → (∀ b < f.n, (a'.getD b []).length = f.r) →
      (∀ b < f.n, ∀ v < f.r, gB (a.getD b []) v = gB (a'.getD b []) v) → a = a' := fun a a' h1 h2 h3 h4 h5 => by
    refine List.ext_getElem (h1.trans h2.symm) fun b hb hb' => ?_
    have hn : b < f.n := by omega
    have := gB_ext ((h3 b hn).trans (h4 b hn).symm) fun v hv => h5 b hn v (by rw [h3 b hn] at hv; exact hv)
    simp only [List.getD, List.getElem?_eq_getElem hb, List.getElem?_eq_getElem hb', Option.getD_some] at this
    exact this
  rw [key i i' hL.i hM.i (fun b hb => hL.il hb) (fun b hb => hM.il hb) hi, key o o' hL.o hM.o (fun b hb => hL.ol hb) (fun b hb => hM.ol hb) ho]

theorem Least.unique {f : BF} {L M : LD} (hL : Least f L) (hM : Least f M) : L = M := by
  refine LD.ext hL.cl.sz hM.cl.sz (fun b hb v hv => ?_) (fun b hb v hv => ?_)
  · have h1 := (hL.min _ _ hM.cl.cl b hb v hv).1
    have h2 := (hM.min _ _ hL.cl.cl b hb v hv).1
    cases h : L.I b v <;> cases h' : M.I b v <;> simp_all
  · have h1 := (hL.min _ _ hM.cl.cl b hb v hv).2
    have h2 := (hM.min _ _ hL.cl.cl b hb v hv).2
    cases h : L.O b v <;> cases h' : M.O b v <;> simp_all

/-- A table by truths. -/
def tabL (n r : Nat) (p : Nat → Nat → Bool) : List (List Bool) := (List.range n).map fun b => (List.range r).map fun v => p b v
theorem tabL_len (n r : Nat) (p : Nat → Nat → Bool) : (tabL n r p).length = n := by simp [tabL]
theorem tabL_row (n r : Nat) (p : Nat → Nat → Bool) : ∀ l ∈ tabL n r p, l.length = r := fun l hl => by
  simp only [tabL, List.mem_map] at hl
  obtain ⟨b, _, rfl⟩ := hl
  simp
theorem tabL_get {n r b v : Nat} (p : Nat → Nat → Bool) (hb : b < n) (hv : v < r) : gB ((tabL n r p).getD b []) v = p b v := by
  simp [tabL, gB, List.getD, hb, hv]
theorem sized_tab (f : BF) (p q : Nat → Nat → Bool) : SizedP f ⟨tabL f.n f.r p, tabL f.n f.r q⟩ := ⟨tabL_len _ _ _, tabL_len _ _ _, tabL_row _ _ _, tabL_row _ _ _⟩

theorem Closed.congr {f : BF} (hf : Fine f) {I O I' O' : Nat → Nat → Bool} (hi : ∀ b < f.n, ∀ v < f.r, I b v = I' b v) (ho : ∀ b < f.n, ∀ v < f.r, O b v = O' b v) (h : Closed f I O) : Closed f I' O' := by
  refine ⟨fun b hb k hk v hv h1 => ?_, fun b hb v hv h1 => ?_⟩
  · have hk' := hf.to _ (BF.mem hb) k hk
    rw [← ho b hb v hv]
    rw [← hi _ (show k.toNat < f.n by unfold BF.n; omega) v hv] at h1
    exact h.way b hb k hk v hv h1
  · rw [← hi b hb v hv]
    rw [← ho b hb v hv] at h1
    exact h.ahead b hb v hv h1

theorem least_exists {f : BF} (hf : Fine f) : ∃ L, Least f L := by
  classical
  refine ⟨⟨tabL f.n f.r fun b v => decide (InAll f b v), tabL f.n f.r fun b v => decide (OutAll f b v)⟩, ⟨sized_tab _ _ _, ?_⟩, fun I O h b hb v hv => ⟨fun e => ?_, fun e => ?_⟩⟩
  · refine Closed.congr hf (I := fun b v => decide (InAll f b v)) (O := fun b v => decide (OutAll f b v)) (fun b hb v hv => (tabL_get (fun b v => decide (InAll f b v)) hb hv).symm) (fun b hb v hv => (tabL_get (fun b v => decide (OutAll f b v)) hb hv).symm) ⟨fun b hb k hk v hv h1 => ?_, fun b hb v hv h1 => ?_⟩
    · simp only [decide_eq_true_eq] at h1 ⊢
      exact fun I O h => h.way b hb k hk v hv (h1 I O h)
    · simp only [decide_eq_true_eq] at h1 ⊢
      refine fun I O h => h.ahead b hb v hv ((Tri.ahead1 _ v).mono (fun e => ?_) h1)
      simp only [decide_eq_true_eq] at e
      exact e I O h
  · have := tabL_get (fun b v => decide (InAll f b v)) hb hv
    have e' : gB ((tabL f.n f.r fun b v => decide (InAll f b v)).getD b []) v = true := e
    rw [this] at e'
    exact of_decide_eq_true e' I O h
  · have := tabL_get (fun b v => decide (OutAll f b v)) hb hv
    have e' : gB ((tabL f.n f.r fun b v => decide (OutAll f b v)).getD b []) v = true := e
    rw [this] at e'
    exact of_decide_eq_true e' I O h
end Go.Proofs.Ytjdeediehmhdoaa
namespace Go.Proofs.Ytjdeediehmhdoaa
set_option linter.unusedSimpArgs false
set_option linter.unusedVariables false
open Go.V

/- A row as a word. -/
def wd : List Bool → Nat
  | [] => 0
  | b :: l => b.toNat + 2 * wd l
theorem wd_bit : ∀ (l : List Bool) (i : Nat), (wd l).testBit i = gB l i
  | [], i => by simp [wd, gB]
  | b :: l, 0 => by
    show (b.toNat + 2 * wd l).testBit 0 = b
    rw [Nat.testBit_zero]
    cases b <;> simp <;> omega
  | b :: l, i + 1 => by
    show (b.toNat + 2 * wd l).testBit (i + 1) = gB (b :: l) (i + 1)
    rw [Nat.testBit_succ, show (b.toNat + 2 * wd l) / 2 = wd l by cases b <;> simp <;> omega, wd_bit l i]
    rfl
theorem wd_lt : ∀ (l : List Bool), wd l < 2 ^ l.length
  | [] => by simp [wd]
  | b :: l => by
    have := wd_lt l
    show b.toNat + 2 * wd l < 2 ^ (l.length + 1)
    rw [Nat.pow_succ]
    cases b <;> simp <;> omega
theorem wd_lt64 {l : List Bool} (h : l.length ≤ 64) : wd l < 2 ^ 64 := Nat.lt_of_lt_of_le (wd_lt l) (Nat.pow_le_pow_right (by decide) h)
theorem wd_eq {l : List Bool} {n : Nat} (h : ∀ i, n.testBit i = gB l i) : n = wd l := Nat.eq_of_testBit_eq fun i => by rw [h, wd_bit]
theorem gB_out {l : List Bool} {i : Nat} (h : l.length ≤ i) : gB l i = false := by
  unfold gB; rw [List.getD, List.getElem?_eq_none h]; rfl
theorem wd_zero (n : Nat) : wd (List.replicate n false) = 0 := (wd_eq fun i => by
  rw [Nat.zero_testBit]
  unfold gB; rw [List.getD, List.getElem?_replicate]; split <;> rfl).symm
theorem wd_inj {a b : List Bool} (hl : a.length = b.length) (h : wd a = wd b) : a = b := gB_ext hl fun v _ => by rw [← wd_bit, ← wd_bit, h]

def orL (a b : List Bool) : List Bool := (List.range a.length).map fun v => gB a v || gB b v
def wayL (rd out st : List Bool) : List Bool := (List.range out.length).map fun v => gB rd v || (gB out v && !gB st v)
theorem gB_or (a b : List Bool) {v : Nat} (hv : v < a.length) : gB (orL a b) v = (gB a v || gB b v) := by
  unfold orL; rw [gB, List.getD]; simp [hv]
theorem gB_way (rd out st : List Bool) {v : Nat} (hv : v < out.length) : gB (wayL rd out st) v = (gB rd v || (gB out v && !gB st v)) := by
  unfold wayL; rw [gB, List.getD]; simp [hv]
theorem orL_len (a b : List Bool) : (orL a b).length = a.length := by simp [orL]
theorem wayL_len (a b c : List Bool) : (wayL a b c).length = b.length := by simp [wayL]
theorem wd_or {a b : List Bool} (hl : a.length = b.length) : wd a ||| wd b = wd (orL a b) := wd_eq fun i => by
  rw [Nat.testBit_or, wd_bit, wd_bit]
  rcases Nat.lt_or_ge i a.length with h | h
  · rw [gB_or _ _ h]
  · rw [gB_out h, gB_out (by omega), gB_out (by rw [orL_len]; exact h)]; rfl
theorem wd_set {l : List Bool} {i : Nat} (hi : i < l.length) : wd l ||| 2 ^ i = wd (l.set i true) := wd_eq fun j => by
  rw [Nat.testBit_or, wd_bit, Nat.testBit_two_pow]
  rcases Nat.lt_or_ge j l.length with h | h
  · rw [gB_set _ _ _ _ h]
    by_cases e : i = j
    · rw [if_pos e]; simp [e]
    · rw [if_neg e]; simp [e]
  · rw [gB_out h, gB_out (by simpa using h)]
    simp; omega

/- What a block reads ahead of setting it, and what it sets. -/
def readL (b : Bk) (r : Nat) : List Bool := aheadL b (List.replicate r false)
def doneL (ins : List Tac) (l : List Bool) : List Bool := ins.foldr (fun t l => if 0 ≤ setsL t then l.set (setsL t).toNat true else l) l
def setL (b : Bk) (r : Nat) : List Bool := doneL b.ins (List.replicate r false)
theorem doneL_len : ∀ (ins : List Tac) (l : List Bool), (doneL ins l).length = l.length
  | [], _ => rfl
  | t :: ins, l => by
    show (if 0 ≤ setsL t then (doneL ins l).set (setsL t).toNat true else doneL ins l).length = _
    split <;> simp [doneL_len ins l]
theorem gB_done : ∀ (ins : List Tac) (l : List Bool) (v : Nat), v < l.length → gB (doneL ins l) v = (gB l v || ins.any fun t => decide (setsL t = (v : Int)))
  | [], l, v, _ => by simp [doneL]
  | t :: ins, l, v, hv => by
    have ih := gB_done ins l v hv
    show gB (if 0 ≤ setsL t then (doneL ins l).set (setsL t).toNat true else doneL ins l) v = _
    rw [List.any_cons]
    by_cases h : 0 ≤ setsL t
    · rw [if_pos h, gB_set _ _ _ _ (by rw [doneL_len]; exact hv)]
      by_cases h2 : setsL t = (v : Int)
      · rw [if_pos (by omega), decide_eq_true h2]; simp
      · rw [if_neg (by omega), decide_eq_false h2, ih, Bool.false_or]
    · rw [if_neg h, decide_eq_false (by omega), ih, Bool.false_or]
theorem gB_rep (r v : Nat) : gB (List.replicate r false) v = false := by
  unfold gB; rw [List.getD, List.getElem?_replicate]; split <;> rfl

theorem bk1_set {t : Tac} {v : Nat} (h : setsL t = (v : Int)) (x y : Bool) : bk1 t v x = bk1 t v y := by
  unfold bk1; split
  · rfl
  · simp [h]
theorem thru1_set : ∀ {ins : List Tac} {v : Nat}, (ins.any fun t => decide (setsL t = (v : Int))) = true → ∀ x y, thru1 ins v x = thru1 ins v y
  | [], v, h, _, _ => by simp at h
  | t :: ins, v, h, x, y => by
    show bk1 t v (thru1 ins v x) = bk1 t v (thru1 ins v y)
    rw [List.any_cons, Bool.or_eq_true, decide_eq_true_eq] at h
    rcases h with h | h
    · exact bk1_set h _ _
    · rw [thru1_set h x y]
theorem thru1_free : ∀ {ins : List Tac} {v : Nat}, (ins.any fun t => decide (setsL t = (v : Int))) = false → ∀ x, thru1 ins v x = (thru1 ins v false || x)
  | [], v, _, x => by simp [thru1]
  | t :: ins, v, h, x => by
    show bk1 t v (thru1 ins v x) = (bk1 t v (thru1 ins v false) || x)
    rw [List.any_cons, Bool.or_eq_false_iff, decide_eq_false_iff_not] at h
    rw [thru1_free h.2 x]
    unfold bk1
    split
    · simp
    · rw [if_neg h.1, if_neg h.1]
theorem ahead1_eq (b : Bk) (v : Nat) (x : Bool) : ahead1 b v x = (ahead1 b v false || (x && !(b.ins.any fun t => decide (setsL t = (v : Int))))) := by
  unfold ahead1
  cases h : b.ins.any fun t => decide (setsL t = (v : Int))
  · rw [thru1_free h, thru1_free h (last1 b v false)]
    unfold last1
    by_cases h2 : b.e = 2 ∧ b.v = (v : Int)
    · rw [if_pos h2, if_pos h2]; simp
    · rw [if_neg h2, if_neg h2]; simp
  · rw [thru1_set h (last1 b v x) (last1 b v false)]; simp
theorem way_ahead {f : BF} (hf : Fine f) {b : Nat} (hb : b < f.n) (l : List Bool) (hl : l.length = f.r) : wayL (readL (f.bk b) f.r) l (setL (f.bk b) f.r) = aheadL (f.bk b) l := by
  refine gB_ext (by rw [wayL_len, aheadL_len]) fun v hv => ?_
  rw [wayL_len] at hv
  have hv' : v < f.r := by omega
  rw [gB_way _ _ _ hv, gB_ahead hf hb l hl hv', ahead1_eq]
  unfold readL setL
  rw [gB_ahead hf hb _ (by simp) hv', gB_rep, gB_done _ _ _ (by simp; exact hv'), gB_rep, Bool.false_or]

/-- The search in the midst: the rows, which blocks wait, the last one being the next. -/
structure SV where
  I : List (List Bool)
  O : List (List Bool)
  wt : List Nat
deriving Inhabited
def SV.L (σ : SV) : LD := ⟨σ.I, σ.O⟩
/-- What matters behind a block, with what matters ahead of those that follow. -/
def gath (I : List (List Bool)) (o : List Bool) (ks : List Int) : List Bool := ks.foldl (fun o k => orL o (I.getD k.toNat default)) o
theorem gath_len (I : List (List Bool)) : ∀ (ks : List Int) (o : List Bool), (gath I o ks).length = o.length
  | [], _ => rfl
  | k :: ks, o => by
    show (gath I (orL o (I.getD k.toNat default)) ks).length = _
    rw [gath_len I ks, orL_len]
theorem gB_gath (I : List (List Bool)) : ∀ (ks : List Int) (o : List Bool) {v : Nat}, v < o.length → gB (gath I o ks) v = (gB o v || ks.any fun k => gB (I.getD k.toNat default) v)
  | [], o, v, _ => by simp [gath]
  | k :: ks, o, v, hv => by
    show gB (gath I (orL o (I.getD k.toNat default)) ks) v = _
    rw [gB_gath I ks _ (by rw [orL_len]; exact hv), gB_or _ _ hv, List.any_cons, Bool.or_assoc]
def newO (f : BF) (I O : List (List Bool)) (b : Nat) : List Bool := gath I (O.getD b default) (nxt (f.bk b))

/-- What is below every closed table. -/
def Under (f : BF) (L : LD) : Prop := ∀ I O, Closed f I O → ∀ b < f.n, ∀ v < f.r, (L.I b v = true → I b v = true) ∧ (L.O b v = true → O b v = true)

theorem row_set {m : List (List Bool)} {b c : Nat} {l : List Bool} (hb : b < m.length) : (m.set b l).getD c [] = if b = c then l else m.getD c [] := by
  rw [List.getD, List.getElem?_set]
  by_cases h : b = c
  · subst h; simp [hb]
  · rw [if_neg h, if_neg h]; rfl
theorem SizedP.setO {f : BF} {L : LD} (h : SizedP f L) {b : Nat} {l : List Bool} (hl : l.length = f.r) : SizedP f ⟨L.inn, L.out.set b l⟩ :=
  ⟨h.i, by simp [h.o], h.ir, fun x hx => by rcases List.mem_or_eq_of_mem_set hx with e | e; exact h.or x e; rw [e, hl]⟩
theorem SizedP.setI {f : BF} {L : LD} (h : SizedP f L) {b : Nat} {l : List Bool} (hl : l.length = f.r) : SizedP f ⟨L.inn.set b l, L.out⟩ :=
  ⟨by simp [h.i], h.o, fun x hx => by rcases List.mem_or_eq_of_mem_set hx with e | e; exact h.ir x e; rw [e, hl], h.or⟩

theorem under_out {f : BF} (hf : Fine f) {I O : List (List Bool)} (hs : SizedP f ⟨I, O⟩) (h : Under f ⟨I, O⟩) {b : Nat} (hb : b < f.n) : Under f ⟨I, O.set b (newO f I O b)⟩ := fun I' O' hc c hc' v hv => by
  have hob : b < O.length := by have := hs.o; simp only at this; omega
  refine ⟨(h I' O' hc c hc' v hv).1, fun e => ?_⟩
  have e' : gB ((O.set b (newO f I O b)).getD c []) v = true := e
  rw [row_set hob] at e'
  by_cases hbc : b = c
  · subst hbc
    rw [if_pos rfl] at e'
    unfold newO at e'
    have hol : (O.getD b default).length = f.r := hs.ol hb
    rw [gB_gath _ _ _ (by rw [hol]; exact hv), Bool.or_eq_true] at e'
    rcases e' with g | g
    · exact (h I' O' hc b hb v hv).2 g
    · obtain ⟨k, hk, g⟩ := List.any_eq_true.1 g
      have hk' := hf.to _ (BF.mem hb) k hk
      exact hc.way b hb k hk v hv ((h I' O' hc k.toNat (by unfold BF.n; omega) v hv).1 g)
  · rw [if_neg hbc] at e'
    exact (h I' O' hc c hc' v hv).2 e'
theorem under_in {f : BF} (hf : Fine f) {I O : List (List Bool)} (hs : SizedP f ⟨I, O⟩) (h : Under f ⟨I, O⟩) {b : Nat} (hb : b < f.n) {l : List Bool} (hl : ∀ v < f.r, gB l v = true → gB (I.getD b []) v = true ∨ gB (aheadL (f.bk b) (O.getD b [])) v = true) :
    Under f ⟨I.set b l, O⟩ := fun I' O' hc c hc' v hv => by
  have hob : b < I.length := by have := hs.i; simp only at this; omega
  refine ⟨fun e => ?_, (h I' O' hc c hc' v hv).2⟩
  have e' : gB ((I.set b l).getD c []) v = true := e
  rw [row_set hob] at e'
  by_cases hbc : b = c
  · subst hbc
    rw [if_pos rfl] at e'
    rcases hl v hv e' with g | g
    · exact (h I' O' hc b hb v hv).1 g
    · rw [gB_ahead hf hb _ (hs.ol hb) hv] at g
      exact hc.ahead b hb v hv ((Tri.ahead1 _ v).mono (fun e => (h I' O' hc b hb v hv).2 e) g)
  · rw [if_neg hbc] at e'
    exact (h I' O' hc c hc' v hv).1 e'

/-- How many truths of a table are not set. -/
def unset (m : List (List Bool)) : Nat := (m.map fun l => l.countP (! ·)).sum
theorem count_le {a b : List Bool} (hl : a.length = b.length) (h : ∀ v, gB a v = true → gB b v = true) : b.countP (! ·) ≤ a.countP (! ·) ∧ (a ≠ b → b.countP (! ·) < a.countP (! ·)) := by
  induction a generalizing b with
  | nil => cases b with
    | nil => exact ⟨Nat.le_refl _, fun e => absurd rfl e⟩
    | cons y b => simp at hl
  | cons x a ih => cases b with
    | nil => simp at hl
    | cons y b =>
      have h0 := h 0
      have hs := ih (by simpa using hl) fun v hv => by have := h (v + 1); simp only [gB, List.getD_cons_succ] at this ⊢; exact this hv
      simp only [gB, List.getD_cons_zero] at h0
      rw [List.countP_cons, List.countP_cons]
      have h2 : x :: a ≠ y :: b → x = y → a ≠ b := fun e e1 e2 => e (by rw [e1, e2])
      cases x <;> cases y
      · refine ⟨by simp; exact hs.1, fun e => by have := hs.2 (h2 e rfl); simpa using this⟩
      · exact ⟨by simp; omega, fun _ => by simp; omega⟩
      · exact absurd (h0 rfl) (by simp)
      · refine ⟨by simp; exact hs.1, fun e => by have := hs.2 (h2 e rfl); simpa using this⟩
theorem unset_set {m : List (List Bool)} {b : Nat} {l : List Bool} (hb : b < m.length) (hl : l.length = (m.getD b []).length) (h : ∀ v, gB (m.getD b []) v = true → gB l v = true) : unset (m.set b l) ≤ unset m ∧ (m.getD b [] ≠ l → unset (m.set b l) < unset m) := by
  induction m generalizing b with
  | nil => simp at hb
  | cons x m ih =>
    cases b with
    | zero =>
      have := count_le (a := x) (b := l) (by simpa using hl.symm) (by simpa using h)
      simp only [unset, List.set_cons_zero, List.map_cons, List.sum_cons, List.getD_cons_zero] at this ⊢
      exact ⟨by omega, fun e => by have := this.2 e; omega⟩
    | succ b =>
      have := ih (b := b) (by simpa using hb) (by simpa using hl) (by simpa using h)
      simp only [unset, List.set_cons_succ, List.map_cons, List.sum_cons, List.getD_cons_succ] at this ⊢
      exact ⟨by omega, fun e => by have := this.2 e; omega⟩
end Go.Proofs.Ytjdeediehmhdoaa
namespace Go.Proofs.Ytjdeediehmhdoaa
set_option linter.unusedSimpArgs false
set_option linter.unusedVariables false
open Go.V

theorem nodup_le : ∀ (n : Nat) (l : List Nat), l.Nodup → (∀ x ∈ l, x < n) → l.length ≤ n
  | 0, l, _, h => by
    cases l with
    | nil => exact Nat.le_refl _
    | cons x l => exact absurd (h x (by simp)) (by omega)
  | n + 1, l, hd, h => by
    by_cases hm : n ∈ l
    · have h1 := nodup_le n (l.erase n) (hd.erase n) fun x hx => by
        have h2 := h x (List.mem_of_mem_erase hx)
        have h3 : x ≠ n := fun e => by rw [e] at hx; exact (hd.not_mem_erase hx).elim
        omega
      rw [List.length_erase_of_mem hm] at h1
      omega
    · have h1 := nodup_le n l hd fun x hx => by
        have h2 := h x hx
        have h3 : x ≠ n := fun e => hm (e ▸ hx)
        omega
      omega

def predL (f : BF) (b : Nat) : List Nat := (List.range f.n).flatMap fun a => ((nxt (f.bk a)).filter fun k => decide (k.toNat = b)).map fun _ => a
theorem mem_pred {f : BF} {b a : Nat} : a ∈ predL f b ↔ a < f.n ∧ ∃ k ∈ nxt (f.bk a), k.toNat = b := by
  unfold predL
  simp only [List.mem_flatMap, List.mem_range, List.mem_map, List.mem_filter, decide_eq_true_eq]
  constructor
  · rintro ⟨x, h1, k, ⟨h2, h3⟩, rfl⟩
    exact ⟨h1, k, h2, h3⟩
  · rintro ⟨h1, k, h2, h3⟩
    exact ⟨a, h1, k, ⟨h2, h3⟩, rfl⟩

def waitS (wt : List Nat) (a : Nat) : List Nat := if a ∈ wt then wt else wt ++ [a]
def waitsS (wt : List Nat) (ls : List Nat) : List Nat := ls.foldl waitS wt
theorem mem_wait {wt : List Nat} {a x : Nat} : x ∈ waitS wt a ↔ x ∈ wt ∨ x = a := by
  unfold waitS
  split
  · rename_i h
    exact ⟨.inl, fun e => by rcases e with e | e; exact e; rw [e]; exact h⟩
  · simp
theorem mem_waits : ∀ {ls wt : List Nat} {x : Nat}, x ∈ waitsS wt ls ↔ x ∈ wt ∨ x ∈ ls
  | [], wt, x => by simp [waitsS]
  | a :: ls, wt, x => by
    show x ∈ waitsS (waitS wt a) ls ↔ _
    rw [mem_waits, mem_wait, List.mem_cons, or_assoc]
theorem nodup_wait {wt : List Nat} {a : Nat} (h : wt.Nodup) : (waitS wt a).Nodup := by
  unfold waitS
  split
  · exact h
  · rename_i h2
    rw [List.nodup_append]
    exact ⟨h, by simp, fun x hx y hy e => by simp at hy; subst hy; subst e; exact h2 hx⟩
theorem nodup_waits : ∀ {ls wt : List Nat}, wt.Nodup → (waitsS wt ls).Nodup
  | [], _, h => h
  | a :: ls, _, h => nodup_waits (ls := ls) (nodup_wait h)

def grown (f : BF) (σ : SV) (b : Nat) : List Bool := aheadL (f.bk b) (newO f σ.I σ.O b)
def moreS (f : BF) (σ : SV) (b : Nat) : Bool := decide (σ.I.getD b [] ≠ grown f σ b)
def growS (f : BF) (σ : SV) (b : Nat) : SV := ⟨σ.I.set b (grown f σ b), σ.O.set b (newO f σ.I σ.O b), σ.wt⟩
/-- A round: b was the last one that waited. -/
def roundS (f : BF) (σ : SV) (w0 : List Nat) (b : Nat) : SV :=
  ⟨(growS f σ b).I, (growS f σ b).O, if moreS f σ b = true then waitsS w0 (predL f b) else w0⟩

structure SInv (f : BF) (σ : SV) : Prop where
  sz : SizedP f σ.L
  un : Under f σ.L
  wn : ∀ b ∈ σ.wt, b < f.n
  nd : σ.wt.Nodup
  low : ∀ b < f.n, ∀ v < f.r, gB (σ.I.getD b []) v = true → gB (aheadL (f.bk b) (σ.O.getD b [])) v = true
  ok : ∀ b < f.n, b ∉ σ.wt → (∀ k ∈ nxt (f.bk b), ∀ v < f.r, gB (σ.I.getD k.toNat []) v = true → gB (σ.O.getD b []) v = true) ∧
    ∀ v < f.r, gB (aheadL (f.bk b) (σ.O.getD b [])) v = true → gB (σ.I.getD b []) v = true

theorem SInv.wlen {f : BF} {σ : SV} (h : SInv f σ) : σ.wt.length ≤ f.n := nodup_le _ _ h.nd h.wn
def muS (f : BF) (σ : SV) : Nat := unset σ.I * (f.n + 1) + σ.wt.length

section
variable {f : BF} {σ : SV} {b : Nat}
theorem newO_len (hf : Fine f) (h : SizedP f σ.L) (hb : b < f.n) : (newO f σ.I σ.O b).length = f.r := by
  unfold newO; rw [gath_len]; exact h.ol hb
theorem grown_len (hf : Fine f) (h : SizedP f σ.L) (hb : b < f.n) : (grown f σ b).length = f.r := by
  unfold grown; rw [aheadL_len, newO_len hf h hb]
theorem newO_ge (hf : Fine f) (h : SizedP f σ.L) (hb : b < f.n) {v : Nat} (hv : v < f.r) (e : gB (σ.O.getD b []) v = true) : gB (newO f σ.I σ.O b) v = true := by
  unfold newO
  rw [gB_gath _ _ _ (by have := h.ol hb; exact Nat.lt_of_lt_of_eq hv this.symm)]
  rw [show gB (σ.O.getD b default) v = true from e]; rfl
theorem newO_way (hf : Fine f) (h : SizedP f σ.L) (hb : b < f.n) {k : Int} (hk : k ∈ nxt (f.bk b)) {v : Nat} (hv : v < f.r) (e : gB (σ.I.getD k.toNat []) v = true) : gB (newO f σ.I σ.O b) v = true := by
  unfold newO
  rw [gB_gath _ _ _ (by have := h.ol hb; exact Nat.lt_of_lt_of_eq hv this.symm), Bool.or_eq_true]
  exact .inr (List.any_eq_true.2 ⟨k, hk, e⟩)
theorem grown_ge (hf : Fine f) (h : SInv f σ) (hb : b < f.n) {v : Nat} (hv : v < f.r) (e : gB (σ.I.getD b []) v = true) : gB (grown f σ b) v = true := by
  have h1 := h.low b hb v hv e
  rw [gB_ahead hf hb (σ.O.getD b []) (h.sz.ol hb) hv] at h1
  unfold grown
  rw [gB_ahead hf hb _ (newO_len hf h.sz hb) hv]
  exact (Tri.ahead1 _ v).mono (fun e => newO_ge hf h.sz hb hv e) h1

theorem SInv.round (hf : Fine f) {w0 : List Nat} (h : SInv f σ) (hw : σ.wt = w0 ++ [b]) : SInv f (roundS f σ w0 b) ∧ muS f (roundS f σ w0 b) < muS f σ := by
  have hb : b < f.n := h.wn b (by rw [hw]; simp)
  have hbI : b < σ.I.length := by rw [show σ.I.length = f.n from h.sz.i]; exact hb
  have hbO : b < σ.O.length := by rw [show σ.O.length = f.n from h.sz.o]; exact hb
  have hnd := h.nd
  rw [hw, List.nodup_append] at hnd
  have hb0 : b ∉ w0 := fun e => hnd.2.2 b e b (by simp) rfl
  have hol := newO_len hf h.sz hb
  have hgl := grown_len hf h.sz hb
  have hsz : SizedP f ⟨σ.I.set b (grown f σ b), σ.O.set b (newO f σ.I σ.O b)⟩ := (h.sz.setO hol).setI hgl
  have hI : ∀ c, (σ.I.set b (grown f σ b)).getD c [] = if b = c then grown f σ b else σ.I.getD c [] := fun c => row_set hbI
  have hO : ∀ c, (σ.O.set b (newO f σ.I σ.O b)).getD c [] = if b = c then newO f σ.I σ.O b else σ.O.getD c [] := fun c => row_set hbO
  have hsame : moreS f σ b = false → ∀ c, (σ.I.set b (grown f σ b)).getD c [] = σ.I.getD c [] := fun e c => by
    rw [hI]
    have e' : σ.I.getD b [] = grown f σ b := Classical.byContradiction fun g => by rw [moreS, decide_eq_true g] at e; cases e
    by_cases hc : b = c
    · rw [if_pos hc, ← hc, e']
    · rw [if_neg hc]
  have hun : Under f ⟨σ.I.set b (grown f σ b), σ.O.set b (newO f σ.I σ.O b)⟩ := by
    refine under_in hf (h.sz.setO hol) (under_out hf h.sz h.un hb) hb fun v hv e => .inr ?_
    show gB (aheadL (f.bk b) ((σ.O.set b (newO f σ.I σ.O b)).getD b [])) v = true
    rw [hO, if_pos rfl]; exact e
  have hmem : ∀ c, c ∉ (roundS f σ w0 b).wt → c ∉ w0 ∧ (moreS f σ b = true → c ∉ predL f b) := fun c hc => by
    unfold roundS at hc
    simp only at hc
    split at hc
    · rw [mem_waits] at hc
      exact ⟨fun e => hc (.inl e), fun _ e => hc (.inr e)⟩
    · rename_i hm
      exact ⟨hc, fun e => absurd e hm⟩
  refine ⟨⟨hsz, hun, fun c hc => ?_, ?_, fun c hc v hv e => ?_, fun c hc hw' => ?_⟩, ?_⟩
  · unfold roundS at hc
    simp only at hc
    have hw0 : ∀ c ∈ w0, c < f.n := fun c hc => h.wn c (by rw [hw]; simp [hc])
    split at hc
    · rcases mem_waits.1 hc with g | g
      · exact hw0 c g
      · exact (mem_pred.1 g).1
    · exact hw0 c hc
  · unfold roundS
    simp only
    split
    · exact nodup_waits hnd.1
    · exact hnd.1
  · have e' : gB ((σ.I.set b (grown f σ b)).getD c []) v = true := e
    show gB (aheadL (f.bk c) ((σ.O.set b (newO f σ.I σ.O b)).getD c [])) v = true
    rw [hI] at e'
    rw [hO]
    by_cases hbc : b = c
    · subst hbc
      rw [if_pos rfl] at e' ⊢
      exact e'
    · rw [if_neg hbc] at e' ⊢
      exact h.low c hc v hv e'
  · obtain ⟨g1, g2⟩ := hmem c hw'
    show (∀ k ∈ nxt (f.bk c), ∀ v < f.r, gB ((σ.I.set b (grown f σ b)).getD k.toNat []) v = true → gB ((σ.O.set b (newO f σ.I σ.O b)).getD c []) v = true) ∧
      ∀ v < f.r, gB (aheadL (f.bk c) ((σ.O.set b (newO f σ.I σ.O b)).getD c [])) v = true → gB ((σ.I.set b (grown f σ b)).getD c []) v = true
    have hk' : ∀ k ∈ nxt (f.bk c), (σ.I.set b (grown f σ b)).getD k.toNat [] = σ.I.getD k.toNat [] := fun k hk => by
      cases hm : moreS f σ b
      · exact hsame hm _
      · rw [hI, if_neg]
        exact fun e => g2 hm (mem_pred.2 ⟨hc, k, hk, e.symm⟩)
    by_cases hbc : b = c
    · subst hbc
      rw [hO, if_pos rfl, hI, if_pos rfl]
      refine ⟨fun k hk v hv e => ?_, fun v hv e => e⟩
      rw [hk' k hk] at e
      exact newO_way hf h.sz hb hk hv e
    · rw [hO, if_neg hbc, hI c, if_neg hbc]
      have hcw : c ∉ σ.wt := by
        rw [hw]; simp only [List.mem_append, List.mem_singleton, not_or]
        exact ⟨g1, fun e => hbc e.symm⟩
      refine ⟨fun k hk v hv e => ?_, (h.ok c hc hcw).2⟩
      rw [hk' k hk] at e
      exact (h.ok c hc hcw).1 k hk v hv e
  · have hu := unset_set (m := σ.I) (b := b) (l := grown f σ b) hbI (by rw [hgl]; exact (h.sz.il hb).symm) (fun v e => by
      rcases Nat.lt_or_ge v f.r with hv | hv
      · exact grown_ge hf h hb hv e
      · rw [gB_out (by rw [show (σ.I.getD b []).length = f.r from h.sz.il hb]; exact hv)] at e; cases e)
    have hwl : w0.length + 1 = σ.wt.length := by rw [hw]; simp
    have hwn : σ.wt.length ≤ f.n := h.wlen
    unfold muS roundS
    simp only [growS]
    cases hm : moreS f σ b
    · simp only [Bool.false_eq_true, if_false]
      have := Nat.mul_le_mul_right (f.n + 1) hu.1
      omega
    · simp only [if_true]
      have hlt := hu.2 (of_decide_eq_true hm)
      have h1 := Nat.mul_le_mul_right (f.n + 1) (show unset (σ.I.set b (grown f σ b)) + 1 ≤ unset σ.I from hlt)
      rw [Nat.add_mul, Nat.one_mul] at h1
      have h2 : (waitsS w0 (predL f b)).length ≤ f.n := nodup_le _ _ (nodup_waits hnd.1) fun c hc => by
        rcases mem_waits.1 hc with g | g
        · exact h.wn c (by rw [hw]; simp [g])
        · exact (mem_pred.1 g).1
      omega

theorem SInv.least (hf : Fine f) (h : SInv f σ) (hw : σ.wt = []) : Least f σ.L := by
  refine ⟨⟨h.sz, ⟨fun b hb k hk v hv e => (h.ok b hb (by rw [hw]; simp)).1 k hk v hv e, fun b hb v hv e => ?_⟩⟩, h.un⟩
  refine (h.ok b hb (by rw [hw]; simp)).2 v hv ?_
  rw [gB_ahead hf hb (σ.O.getD b []) (h.sz.ol hb) hv]
  exact e

/-- At first nothing matters, and all wait. -/
def beginS (f : BF) : SV := ⟨List.replicate f.n (List.replicate f.r false), List.replicate f.n (List.replicate f.r false), List.range f.n⟩
theorem rep_row (n r b v : Nat) : gB ((List.replicate n (List.replicate r false)).getD b []) v = false := by
  rw [List.getD, List.getElem?_replicate]
  split
  · exact gB_rep r v
  · rfl
theorem begin_inv (f : BF) : SInv f (beginS f) := by
  refine ⟨⟨by simp [beginS, SV.L], by simp [beginS, SV.L], fun l hl => ?_, fun l hl => ?_⟩, fun I O _ b _ v _ => ⟨fun e => ?_, fun e => ?_⟩, fun b hb => by simpa [beginS] using hb, List.nodup_range, fun b hb v hv e => ?_, fun b hb hw => absurd (by simpa [beginS] using hb) hw⟩
  · simp [beginS, SV.L] at hl; rw [hl.2]; simp
  · simp [beginS, SV.L] at hl; rw [hl.2]; simp
  · have : gB ((List.replicate f.n (List.replicate f.r false)).getD b []) v = true := e
    rw [rep_row] at this; cases this
  · have : gB ((List.replicate f.n (List.replicate f.r false)).getD b []) v = true := e
    rw [rep_row] at this; cases this
  · have : gB ((List.replicate f.n (List.replicate f.r false)).getD b []) v = true := e
    rw [rep_row] at this; cases this
end
end Go.Proofs.Ytjdeediehmhdoaa
namespace Go.Proofs.Ytjdeediehmhdoaa
set_option linter.unusedSimpArgs false
set_option linter.unusedVariables false
open Go.V

/-- A pass in the midst: the rows, and whether any was added to. -/
structure PV where
  I : List (List Bool)
  O : List (List Bool)
  m : Bool
def inOf (f : BF) (I O : List (List Bool)) (b : Nat) : List Bool := aheadL (f.bk b) (newO f I O b)
def stepR (f : BF) (p : PV) (b : Nat) : PV := ⟨p.I.set b (orL (p.I.getD b []) (inOf f p.I p.O b)), p.O.set b (newO f p.I p.O b), p.m || decide (orL (p.I.getD b []) (inOf f p.I p.O b) ≠ p.I.getD b [])⟩
def passR (f : BF) (I O : List (List Bool)) : Nat → PV
  | 0 => ⟨I, O, false⟩
  | c + 1 => stepR f (passR f I O c) (f.n - 1 - c)

structure RInv (f : BF) (I O : List (List Bool)) : Prop where
  sz : SizedP f ⟨I, O⟩
  un : Under f ⟨I, O⟩
section
variable {f : BF}
theorem RInv.olen (hf : Fine f) {I O : List (List Bool)} (h : RInv f I O) {b : Nat} (hb : b < f.n) : (newO f I O b).length = f.r := newO_len (σ := ⟨I, O, []⟩) hf h.sz hb
theorem RInv.alen (hf : Fine f) {I O : List (List Bool)} (h : RInv f I O) {b : Nat} (hb : b < f.n) : (inOf f I O b).length = f.r := by unfold inOf; rw [aheadL_len, h.olen hf hb]
theorem RInv.step (hf : Fine f) {p : PV} (h : RInv f p.I p.O) {b : Nat} (hb : b < f.n) : RInv f (stepR f p b).I (stepR f p b).O := by
  have hbO : b < p.O.length := by rw [show p.O.length = f.n from h.sz.o]; exact hb
  have hil : (p.I.getD b []).length = f.r := h.sz.il hb
  have hs1 := h.sz.setO (b := b) (h.olen hf hb)
  refine ⟨hs1.setI (by rw [orL_len, hil]), under_in hf hs1 (under_out hf h.sz h.un hb) hb fun v hv e => ?_⟩
  rw [gB_or _ _ (by rw [hil]; exact hv), Bool.or_eq_true] at e
  rcases e with e | e
  · exact .inl e
  · refine .inr ?_
    rw [row_set hbO, if_pos rfl]
    exact e
theorem RInv.pass (hf : Fine f) {I O : List (List Bool)} (h : RInv f I O) : ∀ c, c ≤ f.n → RInv f (passR f I O c).I (passR f I O c).O
  | 0, _ => h
  | c + 1, hc => RInv.step hf (RInv.pass hf h c (by omega)) (by omega)
theorem or_self_ge {a b : List Bool} {v : Nat} (hv : v < a.length) (e : orL a b = a) (h : gB b v = true) : gB a v = true := by
  rw [← e, gB_or _ _ hv, h, Bool.or_true]

theorem pass_mono (hf : Fine f) {I O : List (List Bool)} (h : RInv f I O) : ∀ c, c ≤ f.n → unset (passR f I O c).I ≤ unset I ∧ ((passR f I O c).m = true → unset (passR f I O c).I < unset I)
  | 0, _ => ⟨Nat.le_refl _, fun e => by simp [passR] at e⟩
  | c + 1, hc => by
    obtain ⟨h1, h2⟩ := pass_mono hf h c (by omega)
    have hI := h.pass hf c (by omega)
    have hb : f.n - 1 - c < f.n := by omega
    have hu := unset_set (m := (passR f I O c).I) (b := f.n - 1 - c) (l := orL ((passR f I O c).I.getD (f.n - 1 - c) []) (inOf f (passR f I O c).I (passR f I O c).O (f.n - 1 - c)))
      (by rw [show (passR f I O c).I.length = f.n from hI.sz.i]; exact hb) (by rw [orL_len]) fun v e => by rw [gB_or _ _ (gB_le e), e]; rfl
    refine ⟨Nat.le_trans hu.1 h1, fun e => ?_⟩
    have e' : ((passR f I O c).m || decide (orL ((passR f I O c).I.getD (f.n - 1 - c) []) (inOf f (passR f I O c).I (passR f I O c).O (f.n - 1 - c)) ≠ (passR f I O c).I.getD (f.n - 1 - c) [])) = true := e
    rw [Bool.or_eq_true, decide_eq_true_eq] at e'
    rcases e' with e' | e'
    · exact Nat.lt_of_le_of_lt hu.1 (h2 e')
    · exact Nat.lt_of_lt_of_le (hu.2 (fun g => e' g.symm)) h1

/-- A pass that adds nothing. -/
theorem pass_still (hf : Fine f) {I O : List (List Bool)} (h : RInv f I O) : ∀ c, c ≤ f.n → (passR f I O c).m = false → (passR f I O c).I = I ∧
    ∀ b < f.n, f.n - c ≤ b → (∀ k ∈ nxt (f.bk b), ∀ v < f.r, gB (I.getD k.toNat []) v = true → gB ((passR f I O c).O.getD b []) v = true) ∧ ∀ v < f.r, gB (aheadL (f.bk b) ((passR f I O c).O.getD b [])) v = true → gB (I.getD b []) v = true
  | 0, _, _ => ⟨rfl, fun b hb h => by omega⟩
  | c + 1, hc, hm => by
    have hm' : ((passR f I O c).m || decide (orL ((passR f I O c).I.getD (f.n - 1 - c) []) (inOf f (passR f I O c).I (passR f I O c).O (f.n - 1 - c)) ≠ (passR f I O c).I.getD (f.n - 1 - c) [])) = false := hm
    rw [Bool.or_eq_false_iff, decide_eq_false_iff_not] at hm'
    obtain ⟨h1, h2⟩ := pass_still hf h c (by omega) hm'.1
    have hI := h.pass hf c (by omega)
    have hsame : orL ((passR f I O c).I.getD (f.n - 1 - c) []) (inOf f (passR f I O c).I (passR f I O c).O (f.n - 1 - c)) = (passR f I O c).I.getD (f.n - 1 - c) [] := Classical.not_not.1 hm'.2
    have hb : f.n - 1 - c < f.n := by omega
    have hOl : f.n - 1 - c < (passR f I O c).O.length := by rw [show (passR f I O c).O.length = f.n from hI.sz.o]; exact hb
    have hIl : f.n - 1 - c < (passR f I O c).I.length := by rw [show (passR f I O c).I.length = f.n from hI.sz.i]; exact hb
    have hset : (passR f I O (c + 1)).I = I := by
      show (passR f I O c).I.set (f.n - 1 - c) _ = I
      rw [hsame, h1]
      rw [h1] at hIl
      have : I.getD (f.n - 1 - c) [] = I[f.n - 1 - c] := by simp [List.getD, List.getElem?_eq_getElem hIl]
      rw [this, List.set_getElem_self]
    refine ⟨hset, fun b hb' hlo => ?_⟩
    have hO : (passR f I O (c + 1)).O.getD b [] = if f.n - 1 - c = b then newO f (passR f I O c).I (passR f I O c).O (f.n - 1 - c) else (passR f I O c).O.getD b [] := row_set hOl
    rw [hO]
    by_cases e : f.n - 1 - c = b
    · subst e
      rw [if_pos rfl]
      refine ⟨fun k hk v hv g => ?_, fun v hv g => ?_⟩
      · refine newO_way (σ := ⟨(passR f I O c).I, (passR f I O c).O, []⟩) hf hI.sz hb hk hv ?_
        rw [h1]; exact g
      · rw [← h1]
        exact or_self_ge (by rw [show ((passR f I O c).I.getD (f.n - 1 - c) []).length = f.r from hI.sz.il hb]; exact hv) hsame g
    · rw [if_neg e]
      exact h2 b hb' (by omega)

theorem pass_least (hf : Fine f) {I O : List (List Bool)} (h : RInv f I O) (hm : (passR f I O f.n).m = false) : Least f ⟨(passR f I O f.n).I, (passR f I O f.n).O⟩ := by
  have hI := h.pass hf f.n (Nat.le_refl _)
  obtain ⟨h1, h2⟩ := pass_still hf h f.n (Nat.le_refl _) hm
  refine ⟨⟨hI.sz, ⟨fun b hb k hk v hv e => ?_, fun b hb v hv e => ?_⟩⟩, hI.un⟩
  · have e' : gB ((passR f I O f.n).I.getD k.toNat []) v = true := e
    rw [h1] at e'
    exact (h2 b hb (by omega)).1 k hk v hv e'
  · show gB ((passR f I O f.n).I.getD b []) v = true
    rw [h1]
    refine (h2 b hb (by omega)).2 v hv ?_
    rw [gB_ahead hf hb ((passR f I O f.n).O.getD b []) (hI.sz.ol hb) hv]
    exact e
theorem begin_r (f : BF) : RInv f (beginS f).I (beginS f).O := ⟨(begin_inv f).sz, (begin_inv f).un⟩
end
end Go.Proofs.Ytjdeediehmhdoaa
namespace Go.Proofs.Ytjdeediehmhdoaa
set_option linter.unusedSimpArgs false
set_option linter.unusedVariables false
set_option maxRecDepth 10000
open Go.V

section
variable {α : Type} [Inhabited α] {l : List α} {p : α → Bool} {k : Nat}
theorem all_stop (hk : k < l.length) (h : p (l.getD k default) = false) : l.all p = false := by
  rw [List.all_eq_false]
  exact ⟨_, mem_getD hk, by rw [h]; decide⟩
theorem all_step (hk : k < l.length) (h0 : (l.take k).all p = true) (h : p (l.getD k default) = true) : (l.take (k + 1)).all p = true := by
  have e : l.take (k + 1) = l.take k ++ [l.getD k default] := by rw [List.take_add_one]; simp [List.getD, List.getElem?_eq_getElem hk]
  rw [e, List.all_append, h0]; simp only [List.all_cons, List.all_nil, Bool.and_true, Bool.true_and]; exact h
omit [Inhabited α] in
theorem all_end (hk : l.length ≤ k) (h0 : (l.take k).all p = true) : l.all p = true := by
  rw [List.take_of_length_le hk] at h0; exact h0
end

theorem one_imm' {sz : Nat} {xs : List AV} : (AV.imm sz xs).one = true := rfl
theorem i64_lit1 : IntKind.i64.wrap (0 + 1) = 1 := by decide
theorem i64_lit2 : IntKind.i64.wrap (1 + 1) = 2 := by decide
theorem Nat.cast_zero' : ((0 : Nat) : Int) = 0 := rfl
theorem Nat.cast_one' : ((1 : Nat) : Int) = 1 := rfl
def inB (i n : Int) : Bool := decide (0 ≤ i ∧ i < n)
theorem rwithin_c (i n : Int) : Contract Try.prog 64 [I i, I n] (fun r => r = B (inB i n)) := by
  refine Contract.of_call (VCall.of_body hmix f_scref24_within (by simp) ?_)
  by_cases h : 0 ≤ i
  · simp only [go_sem,Nat.reduceEqDiff,Nat.reduceAdd,Nat.reduceMul,↓reduceIte,↓dreduceIte,reduceCtorEq,Nat.reduceLeDiff,Nat.reduceLT,Nat.reduceSub,Int.reduceToNat,Int.reduceLE,Int.reduceLT, c_scref24_within, h]
    exact ⟨_, Frz.pure rfl, by simp [inB, h]⟩
  · simp only [go_sem,Nat.reduceEqDiff,Nat.reduceAdd,Nat.reduceMul,↓reduceIte,↓dreduceIte,reduceCtorEq,Nat.reduceLeDiff,Nat.reduceLT,Nat.reduceSub,Int.reduceToNat,Int.reduceLE,Int.reduceLT, c_scref24_within, h]
    exact ⟨_, Frz.pure rfl, by simp [inB, h]⟩

/-- May an instruction be: its words' part. -/
def restT (t : Tac) (f words : Int) : Prop :=
  if t.op = 3 then 4 ≤ t.k ∧ t.k ≤ 15 ∧ t.base = 0 ∧ t.size = 0
  else t.k = 0 ∧ (if t.op = 4 ∨ t.op = 5 then 0 ≤ t.base ∧ t.base < words ∧ t.size = 0
    else if t.op = 6 ∨ t.op = 7 then 1 ≤ t.size ∧ t.size ≤ 4096 ∧ 0 ≤ t.base ∧ t.base ≤ words - t.size
    else if t.op = 10 then 0 ≤ t.base ∧ t.base < f ∧ t.size = 0
    else t.base = 0 ∧ t.size = 0)
/-- May an instruction be, in the function of number f, with so many registers and words? -/
def FitsT (t : Tac) (f regs words : Int) : Prop :=
  1 ≤ t.op ∧ t.op ≤ 10 ∧ (if SetsT t then 0 ≤ t.d ∧ t.d < regs else t.d = 0) ∧ (∀ u ∈ usesL t, 0 ≤ u ∧ u < regs) ∧
  (usesL t = [] → t.a = 0) ∧ ((usesL t).length ≤ 1 → t.b = 0) ∧ (t.op = 1 ∨ t.n = 0) ∧ restT t f words
instance (t : Tac) (f w : Int) : Decidable (restT t f w) := by unfold restT; exact inferInstance
instance (t : Tac) (f r w : Int) : Decidable (FitsT t f r w) := by unfold FitsT; exact inferInstance
def fitsT (t : Tac) (f regs words : Int) : Bool := decide (FitsT t f regs words)

-- FITS
theorem rfits_1 (d a b k base size n f regs words : Int) (hw : 0 ≤ words ∧ words ≤ 1048576) : Contract Try.prog 57 [tacA ⟨1, d, a, b, k, base, size, n⟩, I f, I regs, I words] (fun r => r = B (fitsT ⟨1, d, a, b, k, base, size, n⟩ f regs words)) := by
  refine Contract.of_call (VCall.of_body hmix f_scref24_fits (by simp) ?_)
  have hus : usesL ⟨1, d, a, b, k, base, size, n⟩ = [] := by simp [usesL]
  obtain ⟨x, hx⟩ : ∃ x, fitsT ⟨1, d, a, b, k, base, size, n⟩ f regs words = x := ⟨_, rfl⟩
  rw [hx]
  have hX : (x = true ↔ FitsT ⟨1, d, a, b, k, base, size, n⟩ f regs words) := by rw [← hx]; exact decide_eq_true_iff
  simp only [FitsT, hus, restT, SetsT, Int.reduceEq, or_false, or_true, false_or, true_or, or_self, if_true, if_false, List.mem_cons, List.not_mem_nil, forall_eq_or_imp, forall_eq, false_implies, implies_true, true_and, and_true, Int.reduceLE, List.length_cons, List.length_nil, Nat.reduceAdd, Nat.reduceLeDiff, Nat.le_refl, forall_const, reduceCtorEq, Nat.zero_le] at hX
  cases hd : inB d regs
  · have hx0 : x = false := by
      cases x
      · rfl
      · have := hX.1 rfl; have h2 := of_decide_eq_false hd; omega
    subst hx0
    by_cases h0 : 0 ≤ d
    · simp only [go_sem,Nat.reduceEqDiff,Nat.reduceAdd,Nat.reduceMul,↓reduceIte,↓dreduceIte,reduceCtorEq,Nat.reduceLeDiff,Nat.reduceLT,Nat.reduceSub,Int.reduceToNat,Int.reduceLE,Int.reduceLT, c_scref24_fits, Int.reduceEq, Int.reduceBEq, setsL, SetsT, or_false, or_true, false_or, true_or, or_self, hus, one_imm', List.length_map, Int.reduceLT, Int.reduceNeg, Int.reduceLE]
      refine VCall.of_contract (refsets_c ⟨1, d, a, b, k, base, size, n⟩) (SleL.pure rfl) fun r hr => ?_
      subst hr
      simp only [go_sem,Nat.reduceEqDiff,Nat.reduceAdd,Nat.reduceMul,↓reduceIte,↓dreduceIte,reduceCtorEq,Nat.reduceLeDiff,Nat.reduceLT,Nat.reduceSub,Int.reduceToNat,Int.reduceLE,Int.reduceLT, Int.reduceEq, Int.reduceBEq, setsL, SetsT, or_false, or_true, false_or, true_or, or_self, hus, one_imm', List.length_map, Int.reduceLT, Int.reduceNeg, Int.reduceLE, eq_true h0]
      refine VCall.of_contract (rwithin_c _ _) (SleL.pure rfl) fun r hr => ?_
      subst hr
      simp only [go_sem,Nat.reduceEqDiff,Nat.reduceAdd,Nat.reduceMul,↓reduceIte,↓dreduceIte,reduceCtorEq,Nat.reduceLeDiff,Nat.reduceLT,Nat.reduceSub,Int.reduceToNat,Int.reduceLE,Int.reduceLT, hd]
      exact ⟨_, Frz.pure rfl, rfl⟩
    · simp only [go_sem,Nat.reduceEqDiff,Nat.reduceAdd,Nat.reduceMul,↓reduceIte,↓dreduceIte,reduceCtorEq,Nat.reduceLeDiff,Nat.reduceLT,Nat.reduceSub,Int.reduceToNat,Int.reduceLE,Int.reduceLT, c_scref24_fits, Int.reduceEq, Int.reduceBEq, setsL, SetsT, or_false, or_true, false_or, true_or, or_self, hus, one_imm', List.length_map, Int.reduceLT, Int.reduceNeg, Int.reduceLE]
      refine VCall.of_contract (refsets_c ⟨1, d, a, b, k, base, size, n⟩) (SleL.pure rfl) fun r hr => ?_
      subst hr
      simp only [go_sem,Nat.reduceEqDiff,Nat.reduceAdd,Nat.reduceMul,↓reduceIte,↓dreduceIte,reduceCtorEq,Nat.reduceLeDiff,Nat.reduceLT,Nat.reduceSub,Int.reduceToNat,Int.reduceLE,Int.reduceLT, Int.reduceEq, Int.reduceBEq, setsL, SetsT, or_false, or_true, false_or, true_or, or_self, hus, one_imm', List.length_map, Int.reduceLT, Int.reduceNeg, Int.reduceLE, eq_false h0]
      refine VCall.of_contract (rwithin_c _ _) (SleL.pure rfl) fun r hr => ?_
      subst hr
      simp only [go_sem,Nat.reduceEqDiff,Nat.reduceAdd,Nat.reduceMul,↓reduceIte,↓dreduceIte,reduceCtorEq,Nat.reduceLeDiff,Nat.reduceLT,Nat.reduceSub,Int.reduceToNat,Int.reduceLE,Int.reduceLT, hd]
      exact ⟨_, Frz.pure rfl, rfl⟩
  have h0 := (of_decide_eq_true hd).1
  have h0' := (of_decide_eq_true hd).2
  simp only [go_sem,Nat.reduceEqDiff,Nat.reduceAdd,Nat.reduceMul,↓reduceIte,↓dreduceIte,reduceCtorEq,Nat.reduceLeDiff,Nat.reduceLT,Nat.reduceSub,Int.reduceToNat,Int.reduceLE,Int.reduceLT, c_scref24_fits, Int.reduceEq, Int.reduceBEq, setsL, SetsT, or_false, or_true, false_or, true_or, or_self, hus, one_imm', List.length_map, Int.reduceLT, Int.reduceNeg, Int.reduceLE]
  refine VCall.of_contract (refsets_c ⟨1, d, a, b, k, base, size, n⟩) (SleL.pure rfl) fun r hr => ?_
  subst hr
  simp only [go_sem,Nat.reduceEqDiff,Nat.reduceAdd,Nat.reduceMul,↓reduceIte,↓dreduceIte,reduceCtorEq,Nat.reduceLeDiff,Nat.reduceLT,Nat.reduceSub,Int.reduceToNat,Int.reduceLE,Int.reduceLT, Int.reduceEq, Int.reduceBEq, setsL, SetsT, or_false, or_true, false_or, true_or, or_self, hus, one_imm', List.length_map, Int.reduceLT, Int.reduceNeg, Int.reduceLE, eq_true h0]
  refine VCall.of_contract (rwithin_c _ _) (SleL.pure rfl) fun r hr => ?_
  subst hr
  simp only [go_sem,Nat.reduceEqDiff,Nat.reduceAdd,Nat.reduceMul,↓reduceIte,↓dreduceIte,reduceCtorEq,Nat.reduceLeDiff,Nat.reduceLT,Nat.reduceSub,Int.reduceToNat,Int.reduceLE,Int.reduceLT, Int.reduceEq, Int.reduceBEq, setsL, SetsT, or_false, or_true, false_or, true_or, or_self, hus, one_imm', List.length_map, Int.reduceLT, Int.reduceNeg, Int.reduceLE, hd]
  refine VCall.of_contractN (refuses_c ⟨1, d, a, b, k, base, size, n⟩) ?_ fun r hr => ?_
  · exact ⟨_, _, rfl, Frz.pure rfl, rfl⟩
  subst hr
  simp only [go_sem,Nat.reduceEqDiff,Nat.reduceAdd,Nat.reduceMul,↓reduceIte,↓dreduceIte,reduceCtorEq,Nat.reduceLeDiff,Nat.reduceLT,Nat.reduceSub,Int.reduceToNat,Int.reduceLE,Int.reduceLT, Int.reduceEq, Int.reduceBEq, setsL, SetsT, or_false, or_true, false_or, true_or, or_self, hus, one_imm', List.length_map, Int.reduceLT, Int.reduceNeg, Int.reduceLE]
  refine VW_loop (fun i : Nat => ⟨[(1, I f), (2, I regs), (3, I words), (4, .ptr 0 0 0), (9, .ptr 1 1 0), (10, ints []), (11, I i)], [⟨0, 47, 1, tacL ⟨1, d, a, b, k, base, size, n⟩⟩, ⟨1, 47, 1, [I 1, I d, I 0, I 0, I 0, I 0, I 0, U32 0]⟩], 2⟩)
    (fun i => i ≤ 0 ∧ ∀ j < i, inB (([] : List Int).getD j default) regs = true) (fun i => 0 - i) 0 (Wk.mk (by simp [get_cons]) ⟨[], rfl⟩ (Nat.le_refl _)) ⟨by omega, by omega⟩ ?_
  rintro i ⟨hi, hin⟩
  obtain rfl : i = 0 := by omega
  simp only [go_sem,Nat.reduceEqDiff,Nat.reduceAdd,Nat.reduceMul,↓reduceIte,↓dreduceIte,reduceCtorEq,Nat.reduceLeDiff,Nat.reduceLT,Nat.reduceSub,Int.reduceToNat,Int.reduceLE,Int.reduceLT, Int.reduceEq, Int.reduceBEq, setsL, SetsT, or_false, or_true, false_or, true_or, or_self, hus, one_imm', List.length_map, Int.reduceLT, Int.reduceNeg, Int.reduceLE, Int.cast_ofNat_Int, Nat.cast_zero', Nat.cast_one']
  have hwr : 1 ≤ size → size ≤ 4096 → IntKind.i64.wrap (words - size) = words - size := fun h1 h2 => i64_in (by omega) (by omega)
  repeat' (first | (with_reducible apply And.intro) | (with_reducible intro _))
  all_goals
    refine ⟨_, Frz.pure rfl, ?_⟩
    try (rename_i h1 h2 h3 h4; rw [hwr (by omega) (by omega)] at h4)
    congr 2
    rw [Bool.eq_iff_iff, hX]
    simp only [Bool.and_eq_true, beq_iff_eq, true_and, and_true, Bool.false_eq_true, false_iff, not_and, and_imp]
    first | omega | (intros; omega)
theorem rfits_2 (d a b k base size n f regs words : Int) (hw : 0 ≤ words ∧ words ≤ 1048576) : Contract Try.prog 57 [tacA ⟨2, d, a, b, k, base, size, n⟩, I f, I regs, I words] (fun r => r = B (fitsT ⟨2, d, a, b, k, base, size, n⟩ f regs words)) := by
  refine Contract.of_call (VCall.of_body hmix f_scref24_fits (by simp) ?_)
  have hus : usesL ⟨2, d, a, b, k, base, size, n⟩ = [a] := by simp [usesL]
  obtain ⟨x, hx⟩ : ∃ x, fitsT ⟨2, d, a, b, k, base, size, n⟩ f regs words = x := ⟨_, rfl⟩
  rw [hx]
  have hX : (x = true ↔ FitsT ⟨2, d, a, b, k, base, size, n⟩ f regs words) := by rw [← hx]; exact decide_eq_true_iff
  simp only [FitsT, hus, restT, SetsT, Int.reduceEq, or_false, or_true, false_or, true_or, or_self, if_true, if_false, List.mem_cons, List.not_mem_nil, forall_eq_or_imp, forall_eq, false_implies, implies_true, true_and, and_true, Int.reduceLE, List.length_cons, List.length_nil, Nat.reduceAdd, Nat.reduceLeDiff, Nat.le_refl, forall_const, reduceCtorEq, Nat.zero_le] at hX
  cases hd : inB d regs
  · have hx0 : x = false := by
      cases x
      · rfl
      · have := hX.1 rfl; have h2 := of_decide_eq_false hd; omega
    subst hx0
    by_cases h0 : 0 ≤ d
    · simp only [go_sem,Nat.reduceEqDiff,Nat.reduceAdd,Nat.reduceMul,↓reduceIte,↓dreduceIte,reduceCtorEq,Nat.reduceLeDiff,Nat.reduceLT,Nat.reduceSub,Int.reduceToNat,Int.reduceLE,Int.reduceLT, c_scref24_fits, Int.reduceEq, Int.reduceBEq, setsL, SetsT, or_false, or_true, false_or, true_or, or_self, hus, one_imm', List.length_map, Int.reduceLT, Int.reduceNeg, Int.reduceLE]
      refine VCall.of_contract (refsets_c ⟨2, d, a, b, k, base, size, n⟩) (SleL.pure rfl) fun r hr => ?_
      subst hr
      simp only [go_sem,Nat.reduceEqDiff,Nat.reduceAdd,Nat.reduceMul,↓reduceIte,↓dreduceIte,reduceCtorEq,Nat.reduceLeDiff,Nat.reduceLT,Nat.reduceSub,Int.reduceToNat,Int.reduceLE,Int.reduceLT, Int.reduceEq, Int.reduceBEq, setsL, SetsT, or_false, or_true, false_or, true_or, or_self, hus, one_imm', List.length_map, Int.reduceLT, Int.reduceNeg, Int.reduceLE, eq_true h0]
      refine VCall.of_contract (rwithin_c _ _) (SleL.pure rfl) fun r hr => ?_
      subst hr
      simp only [go_sem,Nat.reduceEqDiff,Nat.reduceAdd,Nat.reduceMul,↓reduceIte,↓dreduceIte,reduceCtorEq,Nat.reduceLeDiff,Nat.reduceLT,Nat.reduceSub,Int.reduceToNat,Int.reduceLE,Int.reduceLT, hd]
      exact ⟨_, Frz.pure rfl, rfl⟩
    · simp only [go_sem,Nat.reduceEqDiff,Nat.reduceAdd,Nat.reduceMul,↓reduceIte,↓dreduceIte,reduceCtorEq,Nat.reduceLeDiff,Nat.reduceLT,Nat.reduceSub,Int.reduceToNat,Int.reduceLE,Int.reduceLT, c_scref24_fits, Int.reduceEq, Int.reduceBEq, setsL, SetsT, or_false, or_true, false_or, true_or, or_self, hus, one_imm', List.length_map, Int.reduceLT, Int.reduceNeg, Int.reduceLE]
      refine VCall.of_contract (refsets_c ⟨2, d, a, b, k, base, size, n⟩) (SleL.pure rfl) fun r hr => ?_
      subst hr
      simp only [go_sem,Nat.reduceEqDiff,Nat.reduceAdd,Nat.reduceMul,↓reduceIte,↓dreduceIte,reduceCtorEq,Nat.reduceLeDiff,Nat.reduceLT,Nat.reduceSub,Int.reduceToNat,Int.reduceLE,Int.reduceLT, Int.reduceEq, Int.reduceBEq, setsL, SetsT, or_false, or_true, false_or, true_or, or_self, hus, one_imm', List.length_map, Int.reduceLT, Int.reduceNeg, Int.reduceLE, eq_false h0]
      refine VCall.of_contract (rwithin_c _ _) (SleL.pure rfl) fun r hr => ?_
      subst hr
      simp only [go_sem,Nat.reduceEqDiff,Nat.reduceAdd,Nat.reduceMul,↓reduceIte,↓dreduceIte,reduceCtorEq,Nat.reduceLeDiff,Nat.reduceLT,Nat.reduceSub,Int.reduceToNat,Int.reduceLE,Int.reduceLT, hd]
      exact ⟨_, Frz.pure rfl, rfl⟩
  have h0 := (of_decide_eq_true hd).1
  have h0' := (of_decide_eq_true hd).2
  simp only [go_sem,Nat.reduceEqDiff,Nat.reduceAdd,Nat.reduceMul,↓reduceIte,↓dreduceIte,reduceCtorEq,Nat.reduceLeDiff,Nat.reduceLT,Nat.reduceSub,Int.reduceToNat,Int.reduceLE,Int.reduceLT, c_scref24_fits, Int.reduceEq, Int.reduceBEq, setsL, SetsT, or_false, or_true, false_or, true_or, or_self, hus, one_imm', List.length_map, Int.reduceLT, Int.reduceNeg, Int.reduceLE]
  refine VCall.of_contract (refsets_c ⟨2, d, a, b, k, base, size, n⟩) (SleL.pure rfl) fun r hr => ?_
  subst hr
  simp only [go_sem,Nat.reduceEqDiff,Nat.reduceAdd,Nat.reduceMul,↓reduceIte,↓dreduceIte,reduceCtorEq,Nat.reduceLeDiff,Nat.reduceLT,Nat.reduceSub,Int.reduceToNat,Int.reduceLE,Int.reduceLT, Int.reduceEq, Int.reduceBEq, setsL, SetsT, or_false, or_true, false_or, true_or, or_self, hus, one_imm', List.length_map, Int.reduceLT, Int.reduceNeg, Int.reduceLE, eq_true h0]
  refine VCall.of_contract (rwithin_c _ _) (SleL.pure rfl) fun r hr => ?_
  subst hr
  simp only [go_sem,Nat.reduceEqDiff,Nat.reduceAdd,Nat.reduceMul,↓reduceIte,↓dreduceIte,reduceCtorEq,Nat.reduceLeDiff,Nat.reduceLT,Nat.reduceSub,Int.reduceToNat,Int.reduceLE,Int.reduceLT, Int.reduceEq, Int.reduceBEq, setsL, SetsT, or_false, or_true, false_or, true_or, or_self, hus, one_imm', List.length_map, Int.reduceLT, Int.reduceNeg, Int.reduceLE, hd]
  refine VCall.of_contractN (refuses_c ⟨2, d, a, b, k, base, size, n⟩) ?_ fun r hr => ?_
  · exact ⟨_, _, rfl, Frz.pure rfl, rfl⟩
  subst hr
  simp only [go_sem,Nat.reduceEqDiff,Nat.reduceAdd,Nat.reduceMul,↓reduceIte,↓dreduceIte,reduceCtorEq,Nat.reduceLeDiff,Nat.reduceLT,Nat.reduceSub,Int.reduceToNat,Int.reduceLE,Int.reduceLT, Int.reduceEq, Int.reduceBEq, setsL, SetsT, or_false, or_true, false_or, true_or, or_self, hus, one_imm', List.length_map, Int.reduceLT, Int.reduceNeg, Int.reduceLE]
  refine VW_loop (fun i : Nat => ⟨[(1, I f), (2, I regs), (3, I words), (4, .ptr 0 0 0), (9, .ptr 1 1 0), (10, ints [a]), (11, I i)], [⟨0, 47, 1, tacL ⟨2, d, a, b, k, base, size, n⟩⟩, ⟨1, 47, 1, [I 2, I d, I 0, I 0, I 0, I 0, I 0, U32 0]⟩], 2⟩)
    (fun i => i ≤ 1 ∧ ∀ j < i, inB (([a] : List Int).getD j default) regs = true) (fun i => 1 - i) 0 (Wk.mk (by simp [get_cons]) ⟨[], rfl⟩ (Nat.le_refl _)) ⟨by omega, by omega⟩ ?_
  rintro i ⟨hi, hin⟩
  by_cases hi0 : i = 0
  · subst hi0
    simp only [go_sem,Nat.reduceEqDiff,Nat.reduceAdd,Nat.reduceMul,↓reduceIte,↓dreduceIte,reduceCtorEq,Nat.reduceLeDiff,Nat.reduceLT,Nat.reduceSub,Int.reduceToNat,Int.reduceLE,Int.reduceLT, Int.reduceEq, Int.reduceBEq, setsL, SetsT, or_false, or_true, false_or, true_or, or_self, hus, one_imm', List.length_map, Int.reduceLT, Int.reduceNeg, Int.reduceLE, Int.cast_ofNat_Int, Nat.cast_zero', Nat.cast_one']
    refine VCall.of_contract (rwithin_c _ _) (SleL.pure rfl) fun r hr => ?_
    subst hr
    cases hu : inB a regs
    · simp only [go_sem,Nat.reduceEqDiff,Nat.reduceAdd,Nat.reduceMul,↓reduceIte,↓dreduceIte,reduceCtorEq,Nat.reduceLeDiff,Nat.reduceLT,Nat.reduceSub,Int.reduceToNat,Int.reduceLE,Int.reduceLT, hu]
      refine ⟨_, Frz.pure rfl, ?_⟩
      have h2 := of_decide_eq_false hu
      cases x
      · rfl
      · have := hX.1 rfl; omega
    · simp only [go_sem,Nat.reduceEqDiff,Nat.reduceAdd,Nat.reduceMul,↓reduceIte,↓dreduceIte,reduceCtorEq,Nat.reduceLeDiff,Nat.reduceLT,Nat.reduceSub,Int.reduceToNat,Int.reduceLE,Int.reduceLT, hu, i64_lit1, i64_lit2]
      refine ⟨1, ⟨by omega, fun j hj => ?_⟩, by omega, Wk.mk (by simp [get_cons]) ⟨[], rfl⟩ (Nat.le_refl _)⟩
      by_cases e : j = 0
      · subst e; exact hu
      · exact hin j (by omega)
  obtain rfl : i = 1 := by omega
  have hu0 := of_decide_eq_true (hin 0 (by omega))
  simp only [List.getD_cons_zero, List.getD_cons_succ] at hu0
  simp only [go_sem,Nat.reduceEqDiff,Nat.reduceAdd,Nat.reduceMul,↓reduceIte,↓dreduceIte,reduceCtorEq,Nat.reduceLeDiff,Nat.reduceLT,Nat.reduceSub,Int.reduceToNat,Int.reduceLE,Int.reduceLT, Int.reduceEq, Int.reduceBEq, setsL, SetsT, or_false, or_true, false_or, true_or, or_self, hus, one_imm', List.length_map, Int.reduceLT, Int.reduceNeg, Int.reduceLE, Int.cast_ofNat_Int, Nat.cast_zero', Nat.cast_one']
  have hwr : 1 ≤ size → size ≤ 4096 → IntKind.i64.wrap (words - size) = words - size := fun h1 h2 => i64_in (by omega) (by omega)
  repeat' (first | (with_reducible apply And.intro) | (with_reducible intro _))
  all_goals
    refine ⟨_, Frz.pure rfl, ?_⟩
    try (rename_i h1 h2 h3 h4; rw [hwr (by omega) (by omega)] at h4)
    congr 2
    rw [Bool.eq_iff_iff, hX]
    simp only [Bool.and_eq_true, beq_iff_eq, true_and, and_true, Bool.false_eq_true, false_iff, not_and, and_imp]
    first | omega | (intros; omega)
theorem rfits_3 (d a b k base size n f regs words : Int) (hw : 0 ≤ words ∧ words ≤ 1048576) : Contract Try.prog 57 [tacA ⟨3, d, a, b, k, base, size, n⟩, I f, I regs, I words] (fun r => r = B (fitsT ⟨3, d, a, b, k, base, size, n⟩ f regs words)) := by
  refine Contract.of_call (VCall.of_body hmix f_scref24_fits (by simp) ?_)
  have hus : usesL ⟨3, d, a, b, k, base, size, n⟩ = [a, b] := by simp [usesL]
  obtain ⟨x, hx⟩ : ∃ x, fitsT ⟨3, d, a, b, k, base, size, n⟩ f regs words = x := ⟨_, rfl⟩
  rw [hx]
  have hX : (x = true ↔ FitsT ⟨3, d, a, b, k, base, size, n⟩ f regs words) := by rw [← hx]; exact decide_eq_true_iff
  simp only [FitsT, hus, restT, SetsT, Int.reduceEq, or_false, or_true, false_or, true_or, or_self, if_true, if_false, List.mem_cons, List.not_mem_nil, forall_eq_or_imp, forall_eq, false_implies, implies_true, true_and, and_true, Int.reduceLE, List.length_cons, List.length_nil, Nat.reduceAdd, Nat.reduceLeDiff, Nat.le_refl, forall_const, reduceCtorEq, Nat.zero_le] at hX
  cases hd : inB d regs
  · have hx0 : x = false := by
      cases x
      · rfl
      · have := hX.1 rfl; have h2 := of_decide_eq_false hd; omega
    subst hx0
    by_cases h0 : 0 ≤ d
    · simp only [go_sem,Nat.reduceEqDiff,Nat.reduceAdd,Nat.reduceMul,↓reduceIte,↓dreduceIte,reduceCtorEq,Nat.reduceLeDiff,Nat.reduceLT,Nat.reduceSub,Int.reduceToNat,Int.reduceLE,Int.reduceLT, c_scref24_fits, Int.reduceEq, Int.reduceBEq, setsL, SetsT, or_false, or_true, false_or, true_or, or_self, hus, one_imm', List.length_map, Int.reduceLT, Int.reduceNeg, Int.reduceLE]
      refine VCall.of_contract (refsets_c ⟨3, d, a, b, k, base, size, n⟩) (SleL.pure rfl) fun r hr => ?_
      subst hr
      simp only [go_sem,Nat.reduceEqDiff,Nat.reduceAdd,Nat.reduceMul,↓reduceIte,↓dreduceIte,reduceCtorEq,Nat.reduceLeDiff,Nat.reduceLT,Nat.reduceSub,Int.reduceToNat,Int.reduceLE,Int.reduceLT, Int.reduceEq, Int.reduceBEq, setsL, SetsT, or_false, or_true, false_or, true_or, or_self, hus, one_imm', List.length_map, Int.reduceLT, Int.reduceNeg, Int.reduceLE, eq_true h0]
      refine VCall.of_contract (rwithin_c _ _) (SleL.pure rfl) fun r hr => ?_
      subst hr
      simp only [go_sem,Nat.reduceEqDiff,Nat.reduceAdd,Nat.reduceMul,↓reduceIte,↓dreduceIte,reduceCtorEq,Nat.reduceLeDiff,Nat.reduceLT,Nat.reduceSub,Int.reduceToNat,Int.reduceLE,Int.reduceLT, hd]
      exact ⟨_, Frz.pure rfl, rfl⟩
    · simp only [go_sem,Nat.reduceEqDiff,Nat.reduceAdd,Nat.reduceMul,↓reduceIte,↓dreduceIte,reduceCtorEq,Nat.reduceLeDiff,Nat.reduceLT,Nat.reduceSub,Int.reduceToNat,Int.reduceLE,Int.reduceLT, c_scref24_fits, Int.reduceEq, Int.reduceBEq, setsL, SetsT, or_false, or_true, false_or, true_or, or_self, hus, one_imm', List.length_map, Int.reduceLT, Int.reduceNeg, Int.reduceLE]
      refine VCall.of_contract (refsets_c ⟨3, d, a, b, k, base, size, n⟩) (SleL.pure rfl) fun r hr => ?_
      subst hr
      simp only [go_sem,Nat.reduceEqDiff,Nat.reduceAdd,Nat.reduceMul,↓reduceIte,↓dreduceIte,reduceCtorEq,Nat.reduceLeDiff,Nat.reduceLT,Nat.reduceSub,Int.reduceToNat,Int.reduceLE,Int.reduceLT, Int.reduceEq, Int.reduceBEq, setsL, SetsT, or_false, or_true, false_or, true_or, or_self, hus, one_imm', List.length_map, Int.reduceLT, Int.reduceNeg, Int.reduceLE, eq_false h0]
      refine VCall.of_contract (rwithin_c _ _) (SleL.pure rfl) fun r hr => ?_
      subst hr
      simp only [go_sem,Nat.reduceEqDiff,Nat.reduceAdd,Nat.reduceMul,↓reduceIte,↓dreduceIte,reduceCtorEq,Nat.reduceLeDiff,Nat.reduceLT,Nat.reduceSub,Int.reduceToNat,Int.reduceLE,Int.reduceLT, hd]
      exact ⟨_, Frz.pure rfl, rfl⟩
  have h0 := (of_decide_eq_true hd).1
  have h0' := (of_decide_eq_true hd).2
  simp only [go_sem,Nat.reduceEqDiff,Nat.reduceAdd,Nat.reduceMul,↓reduceIte,↓dreduceIte,reduceCtorEq,Nat.reduceLeDiff,Nat.reduceLT,Nat.reduceSub,Int.reduceToNat,Int.reduceLE,Int.reduceLT, c_scref24_fits, Int.reduceEq, Int.reduceBEq, setsL, SetsT, or_false, or_true, false_or, true_or, or_self, hus, one_imm', List.length_map, Int.reduceLT, Int.reduceNeg, Int.reduceLE]
  refine VCall.of_contract (refsets_c ⟨3, d, a, b, k, base, size, n⟩) (SleL.pure rfl) fun r hr => ?_
  subst hr
  simp only [go_sem,Nat.reduceEqDiff,Nat.reduceAdd,Nat.reduceMul,↓reduceIte,↓dreduceIte,reduceCtorEq,Nat.reduceLeDiff,Nat.reduceLT,Nat.reduceSub,Int.reduceToNat,Int.reduceLE,Int.reduceLT, Int.reduceEq, Int.reduceBEq, setsL, SetsT, or_false, or_true, false_or, true_or, or_self, hus, one_imm', List.length_map, Int.reduceLT, Int.reduceNeg, Int.reduceLE, eq_true h0]
  refine VCall.of_contract (rwithin_c _ _) (SleL.pure rfl) fun r hr => ?_
  subst hr
  simp only [go_sem,Nat.reduceEqDiff,Nat.reduceAdd,Nat.reduceMul,↓reduceIte,↓dreduceIte,reduceCtorEq,Nat.reduceLeDiff,Nat.reduceLT,Nat.reduceSub,Int.reduceToNat,Int.reduceLE,Int.reduceLT, Int.reduceEq, Int.reduceBEq, setsL, SetsT, or_false, or_true, false_or, true_or, or_self, hus, one_imm', List.length_map, Int.reduceLT, Int.reduceNeg, Int.reduceLE, hd]
  refine VCall.of_contractN (refuses_c ⟨3, d, a, b, k, base, size, n⟩) ?_ fun r hr => ?_
  · exact ⟨_, _, rfl, Frz.pure rfl, rfl⟩
  subst hr
  simp only [go_sem,Nat.reduceEqDiff,Nat.reduceAdd,Nat.reduceMul,↓reduceIte,↓dreduceIte,reduceCtorEq,Nat.reduceLeDiff,Nat.reduceLT,Nat.reduceSub,Int.reduceToNat,Int.reduceLE,Int.reduceLT, Int.reduceEq, Int.reduceBEq, setsL, SetsT, or_false, or_true, false_or, true_or, or_self, hus, one_imm', List.length_map, Int.reduceLT, Int.reduceNeg, Int.reduceLE]
  refine VW_loop (fun i : Nat => ⟨[(1, I f), (2, I regs), (3, I words), (4, .ptr 0 0 0), (9, .ptr 1 1 0), (10, ints [a, b]), (11, I i)], [⟨0, 47, 1, tacL ⟨3, d, a, b, k, base, size, n⟩⟩, ⟨1, 47, 1, [I 3, I d, I 0, I 0, I 0, I 0, I 0, U32 0]⟩], 2⟩)
    (fun i => i ≤ 2 ∧ ∀ j < i, inB (([a, b] : List Int).getD j default) regs = true) (fun i => 2 - i) 0 (Wk.mk (by simp [get_cons]) ⟨[], rfl⟩ (Nat.le_refl _)) ⟨by omega, by omega⟩ ?_
  rintro i ⟨hi, hin⟩
  by_cases hi0 : i = 0
  · subst hi0
    simp only [go_sem,Nat.reduceEqDiff,Nat.reduceAdd,Nat.reduceMul,↓reduceIte,↓dreduceIte,reduceCtorEq,Nat.reduceLeDiff,Nat.reduceLT,Nat.reduceSub,Int.reduceToNat,Int.reduceLE,Int.reduceLT, Int.reduceEq, Int.reduceBEq, setsL, SetsT, or_false, or_true, false_or, true_or, or_self, hus, one_imm', List.length_map, Int.reduceLT, Int.reduceNeg, Int.reduceLE, Int.cast_ofNat_Int, Nat.cast_zero', Nat.cast_one']
    refine VCall.of_contract (rwithin_c _ _) (SleL.pure rfl) fun r hr => ?_
    subst hr
    cases hu : inB a regs
    · simp only [go_sem,Nat.reduceEqDiff,Nat.reduceAdd,Nat.reduceMul,↓reduceIte,↓dreduceIte,reduceCtorEq,Nat.reduceLeDiff,Nat.reduceLT,Nat.reduceSub,Int.reduceToNat,Int.reduceLE,Int.reduceLT, hu]
      refine ⟨_, Frz.pure rfl, ?_⟩
      have h2 := of_decide_eq_false hu
      cases x
      · rfl
      · have := hX.1 rfl; omega
    · simp only [go_sem,Nat.reduceEqDiff,Nat.reduceAdd,Nat.reduceMul,↓reduceIte,↓dreduceIte,reduceCtorEq,Nat.reduceLeDiff,Nat.reduceLT,Nat.reduceSub,Int.reduceToNat,Int.reduceLE,Int.reduceLT, hu, i64_lit1, i64_lit2]
      refine ⟨1, ⟨by omega, fun j hj => ?_⟩, by omega, Wk.mk (by simp [get_cons]) ⟨[], rfl⟩ (Nat.le_refl _)⟩
      by_cases e : j = 0
      · subst e; exact hu
      · exact hin j (by omega)
  by_cases hi1 : i = 1
  · subst hi1
    simp only [go_sem,Nat.reduceEqDiff,Nat.reduceAdd,Nat.reduceMul,↓reduceIte,↓dreduceIte,reduceCtorEq,Nat.reduceLeDiff,Nat.reduceLT,Nat.reduceSub,Int.reduceToNat,Int.reduceLE,Int.reduceLT, Int.reduceEq, Int.reduceBEq, setsL, SetsT, or_false, or_true, false_or, true_or, or_self, hus, one_imm', List.length_map, Int.reduceLT, Int.reduceNeg, Int.reduceLE, Int.cast_ofNat_Int, Nat.cast_zero', Nat.cast_one']
    refine VCall.of_contract (rwithin_c _ _) (SleL.pure rfl) fun r hr => ?_
    subst hr
    cases hu : inB b regs
    · simp only [go_sem,Nat.reduceEqDiff,Nat.reduceAdd,Nat.reduceMul,↓reduceIte,↓dreduceIte,reduceCtorEq,Nat.reduceLeDiff,Nat.reduceLT,Nat.reduceSub,Int.reduceToNat,Int.reduceLE,Int.reduceLT, hu]
      refine ⟨_, Frz.pure rfl, ?_⟩
      have h2 := of_decide_eq_false hu
      cases x
      · rfl
      · have := hX.1 rfl; omega
    · simp only [go_sem,Nat.reduceEqDiff,Nat.reduceAdd,Nat.reduceMul,↓reduceIte,↓dreduceIte,reduceCtorEq,Nat.reduceLeDiff,Nat.reduceLT,Nat.reduceSub,Int.reduceToNat,Int.reduceLE,Int.reduceLT, hu, i64_lit1, i64_lit2]
      refine ⟨2, ⟨by omega, fun j hj => ?_⟩, by omega, Wk.mk (by simp [get_cons]) ⟨[], rfl⟩ (Nat.le_refl _)⟩
      by_cases e : j = 1
      · subst e; exact hu
      · exact hin j (by omega)
  obtain rfl : i = 2 := by omega
  have hu0 := of_decide_eq_true (hin 0 (by omega))
  simp only [List.getD_cons_zero, List.getD_cons_succ] at hu0
  have hu1 := of_decide_eq_true (hin 1 (by omega))
  simp only [List.getD_cons_zero, List.getD_cons_succ] at hu1
  simp only [go_sem,Nat.reduceEqDiff,Nat.reduceAdd,Nat.reduceMul,↓reduceIte,↓dreduceIte,reduceCtorEq,Nat.reduceLeDiff,Nat.reduceLT,Nat.reduceSub,Int.reduceToNat,Int.reduceLE,Int.reduceLT, Int.reduceEq, Int.reduceBEq, setsL, SetsT, or_false, or_true, false_or, true_or, or_self, hus, one_imm', List.length_map, Int.reduceLT, Int.reduceNeg, Int.reduceLE, Int.cast_ofNat_Int, Nat.cast_zero', Nat.cast_one']
  have hwr : 1 ≤ size → size ≤ 4096 → IntKind.i64.wrap (words - size) = words - size := fun h1 h2 => i64_in (by omega) (by omega)
  repeat' (first | (with_reducible apply And.intro) | (with_reducible intro _))
  all_goals
    refine ⟨_, Frz.pure rfl, ?_⟩
    try (rename_i h1 h2 h3 h4; rw [hwr (by omega) (by omega)] at h4)
    congr 2
    rw [Bool.eq_iff_iff, hX]
    simp only [Bool.and_eq_true, beq_iff_eq, true_and, and_true, Bool.false_eq_true, false_iff, not_and, and_imp]
    first | omega | (intros; omega)
theorem rfits_4 (d a b k base size n f regs words : Int) (hw : 0 ≤ words ∧ words ≤ 1048576) : Contract Try.prog 57 [tacA ⟨4, d, a, b, k, base, size, n⟩, I f, I regs, I words] (fun r => r = B (fitsT ⟨4, d, a, b, k, base, size, n⟩ f regs words)) := by
  refine Contract.of_call (VCall.of_body hmix f_scref24_fits (by simp) ?_)
  have hus : usesL ⟨4, d, a, b, k, base, size, n⟩ = [] := by simp [usesL]
  obtain ⟨x, hx⟩ : ∃ x, fitsT ⟨4, d, a, b, k, base, size, n⟩ f regs words = x := ⟨_, rfl⟩
  rw [hx]
  have hX : (x = true ↔ FitsT ⟨4, d, a, b, k, base, size, n⟩ f regs words) := by rw [← hx]; exact decide_eq_true_iff
  simp only [FitsT, hus, restT, SetsT, Int.reduceEq, or_false, or_true, false_or, true_or, or_self, if_true, if_false, List.mem_cons, List.not_mem_nil, forall_eq_or_imp, forall_eq, false_implies, implies_true, true_and, and_true, Int.reduceLE, List.length_cons, List.length_nil, Nat.reduceAdd, Nat.reduceLeDiff, Nat.le_refl, forall_const, reduceCtorEq, Nat.zero_le] at hX
  cases hd : inB d regs
  · have hx0 : x = false := by
      cases x
      · rfl
      · have := hX.1 rfl; have h2 := of_decide_eq_false hd; omega
    subst hx0
    by_cases h0 : 0 ≤ d
    · simp only [go_sem,Nat.reduceEqDiff,Nat.reduceAdd,Nat.reduceMul,↓reduceIte,↓dreduceIte,reduceCtorEq,Nat.reduceLeDiff,Nat.reduceLT,Nat.reduceSub,Int.reduceToNat,Int.reduceLE,Int.reduceLT, c_scref24_fits, Int.reduceEq, Int.reduceBEq, setsL, SetsT, or_false, or_true, false_or, true_or, or_self, hus, one_imm', List.length_map, Int.reduceLT, Int.reduceNeg, Int.reduceLE]
      refine VCall.of_contract (refsets_c ⟨4, d, a, b, k, base, size, n⟩) (SleL.pure rfl) fun r hr => ?_
      subst hr
      simp only [go_sem,Nat.reduceEqDiff,Nat.reduceAdd,Nat.reduceMul,↓reduceIte,↓dreduceIte,reduceCtorEq,Nat.reduceLeDiff,Nat.reduceLT,Nat.reduceSub,Int.reduceToNat,Int.reduceLE,Int.reduceLT, Int.reduceEq, Int.reduceBEq, setsL, SetsT, or_false, or_true, false_or, true_or, or_self, hus, one_imm', List.length_map, Int.reduceLT, Int.reduceNeg, Int.reduceLE, eq_true h0]
      refine VCall.of_contract (rwithin_c _ _) (SleL.pure rfl) fun r hr => ?_
      subst hr
      simp only [go_sem,Nat.reduceEqDiff,Nat.reduceAdd,Nat.reduceMul,↓reduceIte,↓dreduceIte,reduceCtorEq,Nat.reduceLeDiff,Nat.reduceLT,Nat.reduceSub,Int.reduceToNat,Int.reduceLE,Int.reduceLT, hd]
      exact ⟨_, Frz.pure rfl, rfl⟩
    · simp only [go_sem,Nat.reduceEqDiff,Nat.reduceAdd,Nat.reduceMul,↓reduceIte,↓dreduceIte,reduceCtorEq,Nat.reduceLeDiff,Nat.reduceLT,Nat.reduceSub,Int.reduceToNat,Int.reduceLE,Int.reduceLT, c_scref24_fits, Int.reduceEq, Int.reduceBEq, setsL, SetsT, or_false, or_true, false_or, true_or, or_self, hus, one_imm', List.length_map, Int.reduceLT, Int.reduceNeg, Int.reduceLE]
      refine VCall.of_contract (refsets_c ⟨4, d, a, b, k, base, size, n⟩) (SleL.pure rfl) fun r hr => ?_
      subst hr
      simp only [go_sem,Nat.reduceEqDiff,Nat.reduceAdd,Nat.reduceMul,↓reduceIte,↓dreduceIte,reduceCtorEq,Nat.reduceLeDiff,Nat.reduceLT,Nat.reduceSub,Int.reduceToNat,Int.reduceLE,Int.reduceLT, Int.reduceEq, Int.reduceBEq, setsL, SetsT, or_false, or_true, false_or, true_or, or_self, hus, one_imm', List.length_map, Int.reduceLT, Int.reduceNeg, Int.reduceLE, eq_false h0]
      refine VCall.of_contract (rwithin_c _ _) (SleL.pure rfl) fun r hr => ?_
      subst hr
      simp only [go_sem,Nat.reduceEqDiff,Nat.reduceAdd,Nat.reduceMul,↓reduceIte,↓dreduceIte,reduceCtorEq,Nat.reduceLeDiff,Nat.reduceLT,Nat.reduceSub,Int.reduceToNat,Int.reduceLE,Int.reduceLT, hd]
      exact ⟨_, Frz.pure rfl, rfl⟩
  have h0 := (of_decide_eq_true hd).1
  have h0' := (of_decide_eq_true hd).2
  simp only [go_sem,Nat.reduceEqDiff,Nat.reduceAdd,Nat.reduceMul,↓reduceIte,↓dreduceIte,reduceCtorEq,Nat.reduceLeDiff,Nat.reduceLT,Nat.reduceSub,Int.reduceToNat,Int.reduceLE,Int.reduceLT, c_scref24_fits, Int.reduceEq, Int.reduceBEq, setsL, SetsT, or_false, or_true, false_or, true_or, or_self, hus, one_imm', List.length_map, Int.reduceLT, Int.reduceNeg, Int.reduceLE]
  refine VCall.of_contract (refsets_c ⟨4, d, a, b, k, base, size, n⟩) (SleL.pure rfl) fun r hr => ?_
  subst hr
  simp only [go_sem,Nat.reduceEqDiff,Nat.reduceAdd,Nat.reduceMul,↓reduceIte,↓dreduceIte,reduceCtorEq,Nat.reduceLeDiff,Nat.reduceLT,Nat.reduceSub,Int.reduceToNat,Int.reduceLE,Int.reduceLT, Int.reduceEq, Int.reduceBEq, setsL, SetsT, or_false, or_true, false_or, true_or, or_self, hus, one_imm', List.length_map, Int.reduceLT, Int.reduceNeg, Int.reduceLE, eq_true h0]
  refine VCall.of_contract (rwithin_c _ _) (SleL.pure rfl) fun r hr => ?_
  subst hr
  simp only [go_sem,Nat.reduceEqDiff,Nat.reduceAdd,Nat.reduceMul,↓reduceIte,↓dreduceIte,reduceCtorEq,Nat.reduceLeDiff,Nat.reduceLT,Nat.reduceSub,Int.reduceToNat,Int.reduceLE,Int.reduceLT, Int.reduceEq, Int.reduceBEq, setsL, SetsT, or_false, or_true, false_or, true_or, or_self, hus, one_imm', List.length_map, Int.reduceLT, Int.reduceNeg, Int.reduceLE, hd]
  refine VCall.of_contractN (refuses_c ⟨4, d, a, b, k, base, size, n⟩) ?_ fun r hr => ?_
  · exact ⟨_, _, rfl, Frz.pure rfl, rfl⟩
  subst hr
  simp only [go_sem,Nat.reduceEqDiff,Nat.reduceAdd,Nat.reduceMul,↓reduceIte,↓dreduceIte,reduceCtorEq,Nat.reduceLeDiff,Nat.reduceLT,Nat.reduceSub,Int.reduceToNat,Int.reduceLE,Int.reduceLT, Int.reduceEq, Int.reduceBEq, setsL, SetsT, or_false, or_true, false_or, true_or, or_self, hus, one_imm', List.length_map, Int.reduceLT, Int.reduceNeg, Int.reduceLE]
  refine VW_loop (fun i : Nat => ⟨[(1, I f), (2, I regs), (3, I words), (4, .ptr 0 0 0), (9, .ptr 1 1 0), (10, ints []), (11, I i)], [⟨0, 47, 1, tacL ⟨4, d, a, b, k, base, size, n⟩⟩, ⟨1, 47, 1, [I 4, I d, I 0, I 0, I 0, I 0, I 0, U32 0]⟩], 2⟩)
    (fun i => i ≤ 0 ∧ ∀ j < i, inB (([] : List Int).getD j default) regs = true) (fun i => 0 - i) 0 (Wk.mk (by simp [get_cons]) ⟨[], rfl⟩ (Nat.le_refl _)) ⟨by omega, by omega⟩ ?_
  rintro i ⟨hi, hin⟩
  obtain rfl : i = 0 := by omega
  simp only [go_sem,Nat.reduceEqDiff,Nat.reduceAdd,Nat.reduceMul,↓reduceIte,↓dreduceIte,reduceCtorEq,Nat.reduceLeDiff,Nat.reduceLT,Nat.reduceSub,Int.reduceToNat,Int.reduceLE,Int.reduceLT, Int.reduceEq, Int.reduceBEq, setsL, SetsT, or_false, or_true, false_or, true_or, or_self, hus, one_imm', List.length_map, Int.reduceLT, Int.reduceNeg, Int.reduceLE, Int.cast_ofNat_Int, Nat.cast_zero', Nat.cast_one']
  refine VCall.of_contract (rwithin_c _ _) (SleL.pure rfl) fun r hr => ?_
  subst hr
  cases hb : inB base words
  · have hb' := of_decide_eq_false hb
    simp only [go_sem,Nat.reduceEqDiff,Nat.reduceAdd,Nat.reduceMul,↓reduceIte,↓dreduceIte,reduceCtorEq,Nat.reduceLeDiff,Nat.reduceLT,Nat.reduceSub,Int.reduceToNat,Int.reduceLE,Int.reduceLT, hb]
    refine ⟨_, Frz.pure rfl, ?_⟩
    congr 2
    rw [Bool.eq_iff_iff, hX]
    simp only [Bool.and_eq_true, beq_iff_eq, true_and, and_true, Bool.false_eq_true, false_iff, not_and, and_imp]
    first | omega | (intros; omega)
  · have hb' := of_decide_eq_true hb
    simp only [go_sem,Nat.reduceEqDiff,Nat.reduceAdd,Nat.reduceMul,↓reduceIte,↓dreduceIte,reduceCtorEq,Nat.reduceLeDiff,Nat.reduceLT,Nat.reduceSub,Int.reduceToNat,Int.reduceLE,Int.reduceLT, hb]
    refine ⟨_, Frz.pure rfl, ?_⟩
    congr 2
    rw [Bool.eq_iff_iff, hX]
    simp only [Bool.and_eq_true, beq_iff_eq, true_and, and_true, Bool.false_eq_true, false_iff, not_and, and_imp]
    first | omega | (intros; omega)
theorem rfits_5 (d a b k base size n f regs words : Int) (hw : 0 ≤ words ∧ words ≤ 1048576) : Contract Try.prog 57 [tacA ⟨5, d, a, b, k, base, size, n⟩, I f, I regs, I words] (fun r => r = B (fitsT ⟨5, d, a, b, k, base, size, n⟩ f regs words)) := by
  refine Contract.of_call (VCall.of_body hmix f_scref24_fits (by simp) ?_)
  have hus : usesL ⟨5, d, a, b, k, base, size, n⟩ = [a] := by simp [usesL]
  obtain ⟨x, hx⟩ : ∃ x, fitsT ⟨5, d, a, b, k, base, size, n⟩ f regs words = x := ⟨_, rfl⟩
  rw [hx]
  have hX : (x = true ↔ FitsT ⟨5, d, a, b, k, base, size, n⟩ f regs words) := by rw [← hx]; exact decide_eq_true_iff
  simp only [FitsT, hus, restT, SetsT, Int.reduceEq, or_false, or_true, false_or, true_or, or_self, if_true, if_false, List.mem_cons, List.not_mem_nil, forall_eq_or_imp, forall_eq, false_implies, implies_true, true_and, and_true, Int.reduceLE, List.length_cons, List.length_nil, Nat.reduceAdd, Nat.reduceLeDiff, Nat.le_refl, forall_const, reduceCtorEq, Nat.zero_le] at hX
  simp only [go_sem,Nat.reduceEqDiff,Nat.reduceAdd,Nat.reduceMul,↓reduceIte,↓dreduceIte,reduceCtorEq,Nat.reduceLeDiff,Nat.reduceLT,Nat.reduceSub,Int.reduceToNat,Int.reduceLE,Int.reduceLT, c_scref24_fits, Int.reduceEq, Int.reduceBEq, setsL, SetsT, or_false, or_true, false_or, true_or, or_self, hus, one_imm', List.length_map, Int.reduceLT, Int.reduceNeg, Int.reduceLE]
  refine VCall.of_contract (refsets_c ⟨5, d, a, b, k, base, size, n⟩) (SleL.pure rfl) fun r hr => ?_
  subst hr
  simp only [go_sem,Nat.reduceEqDiff,Nat.reduceAdd,Nat.reduceMul,↓reduceIte,↓dreduceIte,reduceCtorEq,Nat.reduceLeDiff,Nat.reduceLT,Nat.reduceSub,Int.reduceToNat,Int.reduceLE,Int.reduceLT, Int.reduceEq, Int.reduceBEq, setsL, SetsT, or_false, or_true, false_or, true_or, or_self, hus, one_imm', List.length_map, Int.reduceLT, Int.reduceNeg, Int.reduceLE]
  refine VCall.of_contractN (refuses_c ⟨5, d, a, b, k, base, size, n⟩) ?_ fun r hr => ?_
  · exact ⟨_, _, rfl, Frz.pure rfl, rfl⟩
  subst hr
  simp only [go_sem,Nat.reduceEqDiff,Nat.reduceAdd,Nat.reduceMul,↓reduceIte,↓dreduceIte,reduceCtorEq,Nat.reduceLeDiff,Nat.reduceLT,Nat.reduceSub,Int.reduceToNat,Int.reduceLE,Int.reduceLT, Int.reduceEq, Int.reduceBEq, setsL, SetsT, or_false, or_true, false_or, true_or, or_self, hus, one_imm', List.length_map, Int.reduceLT, Int.reduceNeg, Int.reduceLE]
  refine VW_loop (fun i : Nat => ⟨[(1, I f), (2, I regs), (3, I words), (4, .ptr 0 0 0), (9, .ptr 1 1 0), (10, ints [a]), (11, I i)], [⟨0, 47, 1, tacL ⟨5, d, a, b, k, base, size, n⟩⟩, ⟨1, 47, 1, [I 5, I 0, I 0, I 0, I 0, I 0, I 0, U32 0]⟩], 2⟩)
    (fun i => i ≤ 1 ∧ ∀ j < i, inB (([a] : List Int).getD j default) regs = true) (fun i => 1 - i) 0 (Wk.mk (by simp [get_cons]) ⟨[], rfl⟩ (Nat.le_refl _)) ⟨by omega, by omega⟩ ?_
  rintro i ⟨hi, hin⟩
  by_cases hi0 : i = 0
  · subst hi0
    simp only [go_sem,Nat.reduceEqDiff,Nat.reduceAdd,Nat.reduceMul,↓reduceIte,↓dreduceIte,reduceCtorEq,Nat.reduceLeDiff,Nat.reduceLT,Nat.reduceSub,Int.reduceToNat,Int.reduceLE,Int.reduceLT, Int.reduceEq, Int.reduceBEq, setsL, SetsT, or_false, or_true, false_or, true_or, or_self, hus, one_imm', List.length_map, Int.reduceLT, Int.reduceNeg, Int.reduceLE, Int.cast_ofNat_Int, Nat.cast_zero', Nat.cast_one']
    refine VCall.of_contract (rwithin_c _ _) (SleL.pure rfl) fun r hr => ?_
    subst hr
    cases hu : inB a regs
    · simp only [go_sem,Nat.reduceEqDiff,Nat.reduceAdd,Nat.reduceMul,↓reduceIte,↓dreduceIte,reduceCtorEq,Nat.reduceLeDiff,Nat.reduceLT,Nat.reduceSub,Int.reduceToNat,Int.reduceLE,Int.reduceLT, hu]
      refine ⟨_, Frz.pure rfl, ?_⟩
      have h2 := of_decide_eq_false hu
      cases x
      · rfl
      · have := hX.1 rfl; omega
    · simp only [go_sem,Nat.reduceEqDiff,Nat.reduceAdd,Nat.reduceMul,↓reduceIte,↓dreduceIte,reduceCtorEq,Nat.reduceLeDiff,Nat.reduceLT,Nat.reduceSub,Int.reduceToNat,Int.reduceLE,Int.reduceLT, hu, i64_lit1, i64_lit2]
      refine ⟨1, ⟨by omega, fun j hj => ?_⟩, by omega, Wk.mk (by simp [get_cons]) ⟨[], rfl⟩ (Nat.le_refl _)⟩
      by_cases e : j = 0
      · subst e; exact hu
      · exact hin j (by omega)
  obtain rfl : i = 1 := by omega
  have hu0 := of_decide_eq_true (hin 0 (by omega))
  simp only [List.getD_cons_zero, List.getD_cons_succ] at hu0
  simp only [go_sem,Nat.reduceEqDiff,Nat.reduceAdd,Nat.reduceMul,↓reduceIte,↓dreduceIte,reduceCtorEq,Nat.reduceLeDiff,Nat.reduceLT,Nat.reduceSub,Int.reduceToNat,Int.reduceLE,Int.reduceLT, Int.reduceEq, Int.reduceBEq, setsL, SetsT, or_false, or_true, false_or, true_or, or_self, hus, one_imm', List.length_map, Int.reduceLT, Int.reduceNeg, Int.reduceLE, Int.cast_ofNat_Int, Nat.cast_zero', Nat.cast_one']
  refine VCall.of_contract (rwithin_c _ _) (SleL.pure rfl) fun r hr => ?_
  subst hr
  cases hb : inB base words
  · have hb' := of_decide_eq_false hb
    simp only [go_sem,Nat.reduceEqDiff,Nat.reduceAdd,Nat.reduceMul,↓reduceIte,↓dreduceIte,reduceCtorEq,Nat.reduceLeDiff,Nat.reduceLT,Nat.reduceSub,Int.reduceToNat,Int.reduceLE,Int.reduceLT, hb]
    refine ⟨_, Frz.pure rfl, ?_⟩
    congr 2
    rw [Bool.eq_iff_iff, hX]
    simp only [Bool.and_eq_true, beq_iff_eq, true_and, and_true, Bool.false_eq_true, false_iff, not_and, and_imp]
    first | omega | (intros; omega)
  · have hb' := of_decide_eq_true hb
    simp only [go_sem,Nat.reduceEqDiff,Nat.reduceAdd,Nat.reduceMul,↓reduceIte,↓dreduceIte,reduceCtorEq,Nat.reduceLeDiff,Nat.reduceLT,Nat.reduceSub,Int.reduceToNat,Int.reduceLE,Int.reduceLT, hb]
    refine ⟨_, Frz.pure rfl, ?_⟩
    congr 2
    rw [Bool.eq_iff_iff, hX]
    simp only [Bool.and_eq_true, beq_iff_eq, true_and, and_true, Bool.false_eq_true, false_iff, not_and, and_imp]
    first | omega | (intros; omega)
theorem rfits_6 (d a b k base size n f regs words : Int) (hw : 0 ≤ words ∧ words ≤ 1048576) : Contract Try.prog 57 [tacA ⟨6, d, a, b, k, base, size, n⟩, I f, I regs, I words] (fun r => r = B (fitsT ⟨6, d, a, b, k, base, size, n⟩ f regs words)) := by
  refine Contract.of_call (VCall.of_body hmix f_scref24_fits (by simp) ?_)
  have hus : usesL ⟨6, d, a, b, k, base, size, n⟩ = [a] := by simp [usesL]
  obtain ⟨x, hx⟩ : ∃ x, fitsT ⟨6, d, a, b, k, base, size, n⟩ f regs words = x := ⟨_, rfl⟩
  rw [hx]
  have hX : (x = true ↔ FitsT ⟨6, d, a, b, k, base, size, n⟩ f regs words) := by rw [← hx]; exact decide_eq_true_iff
  simp only [FitsT, hus, restT, SetsT, Int.reduceEq, or_false, or_true, false_or, true_or, or_self, if_true, if_false, List.mem_cons, List.not_mem_nil, forall_eq_or_imp, forall_eq, false_implies, implies_true, true_and, and_true, Int.reduceLE, List.length_cons, List.length_nil, Nat.reduceAdd, Nat.reduceLeDiff, Nat.le_refl, forall_const, reduceCtorEq, Nat.zero_le] at hX
  cases hd : inB d regs
  · have hx0 : x = false := by
      cases x
      · rfl
      · have := hX.1 rfl; have h2 := of_decide_eq_false hd; omega
    subst hx0
    by_cases h0 : 0 ≤ d
    · simp only [go_sem,Nat.reduceEqDiff,Nat.reduceAdd,Nat.reduceMul,↓reduceIte,↓dreduceIte,reduceCtorEq,Nat.reduceLeDiff,Nat.reduceLT,Nat.reduceSub,Int.reduceToNat,Int.reduceLE,Int.reduceLT, c_scref24_fits, Int.reduceEq, Int.reduceBEq, setsL, SetsT, or_false, or_true, false_or, true_or, or_self, hus, one_imm', List.length_map, Int.reduceLT, Int.reduceNeg, Int.reduceLE]
      refine VCall.of_contract (refsets_c ⟨6, d, a, b, k, base, size, n⟩) (SleL.pure rfl) fun r hr => ?_
      subst hr
      simp only [go_sem,Nat.reduceEqDiff,Nat.reduceAdd,Nat.reduceMul,↓reduceIte,↓dreduceIte,reduceCtorEq,Nat.reduceLeDiff,Nat.reduceLT,Nat.reduceSub,Int.reduceToNat,Int.reduceLE,Int.reduceLT, Int.reduceEq, Int.reduceBEq, setsL, SetsT, or_false, or_true, false_or, true_or, or_self, hus, one_imm', List.length_map, Int.reduceLT, Int.reduceNeg, Int.reduceLE, eq_true h0]
      refine VCall.of_contract (rwithin_c _ _) (SleL.pure rfl) fun r hr => ?_
      subst hr
      simp only [go_sem,Nat.reduceEqDiff,Nat.reduceAdd,Nat.reduceMul,↓reduceIte,↓dreduceIte,reduceCtorEq,Nat.reduceLeDiff,Nat.reduceLT,Nat.reduceSub,Int.reduceToNat,Int.reduceLE,Int.reduceLT, hd]
      exact ⟨_, Frz.pure rfl, rfl⟩
    · simp only [go_sem,Nat.reduceEqDiff,Nat.reduceAdd,Nat.reduceMul,↓reduceIte,↓dreduceIte,reduceCtorEq,Nat.reduceLeDiff,Nat.reduceLT,Nat.reduceSub,Int.reduceToNat,Int.reduceLE,Int.reduceLT, c_scref24_fits, Int.reduceEq, Int.reduceBEq, setsL, SetsT, or_false, or_true, false_or, true_or, or_self, hus, one_imm', List.length_map, Int.reduceLT, Int.reduceNeg, Int.reduceLE]
      refine VCall.of_contract (refsets_c ⟨6, d, a, b, k, base, size, n⟩) (SleL.pure rfl) fun r hr => ?_
      subst hr
      simp only [go_sem,Nat.reduceEqDiff,Nat.reduceAdd,Nat.reduceMul,↓reduceIte,↓dreduceIte,reduceCtorEq,Nat.reduceLeDiff,Nat.reduceLT,Nat.reduceSub,Int.reduceToNat,Int.reduceLE,Int.reduceLT, Int.reduceEq, Int.reduceBEq, setsL, SetsT, or_false, or_true, false_or, true_or, or_self, hus, one_imm', List.length_map, Int.reduceLT, Int.reduceNeg, Int.reduceLE, eq_false h0]
      refine VCall.of_contract (rwithin_c _ _) (SleL.pure rfl) fun r hr => ?_
      subst hr
      simp only [go_sem,Nat.reduceEqDiff,Nat.reduceAdd,Nat.reduceMul,↓reduceIte,↓dreduceIte,reduceCtorEq,Nat.reduceLeDiff,Nat.reduceLT,Nat.reduceSub,Int.reduceToNat,Int.reduceLE,Int.reduceLT, hd]
      exact ⟨_, Frz.pure rfl, rfl⟩
  have h0 := (of_decide_eq_true hd).1
  have h0' := (of_decide_eq_true hd).2
  simp only [go_sem,Nat.reduceEqDiff,Nat.reduceAdd,Nat.reduceMul,↓reduceIte,↓dreduceIte,reduceCtorEq,Nat.reduceLeDiff,Nat.reduceLT,Nat.reduceSub,Int.reduceToNat,Int.reduceLE,Int.reduceLT, c_scref24_fits, Int.reduceEq, Int.reduceBEq, setsL, SetsT, or_false, or_true, false_or, true_or, or_self, hus, one_imm', List.length_map, Int.reduceLT, Int.reduceNeg, Int.reduceLE]
  refine VCall.of_contract (refsets_c ⟨6, d, a, b, k, base, size, n⟩) (SleL.pure rfl) fun r hr => ?_
  subst hr
  simp only [go_sem,Nat.reduceEqDiff,Nat.reduceAdd,Nat.reduceMul,↓reduceIte,↓dreduceIte,reduceCtorEq,Nat.reduceLeDiff,Nat.reduceLT,Nat.reduceSub,Int.reduceToNat,Int.reduceLE,Int.reduceLT, Int.reduceEq, Int.reduceBEq, setsL, SetsT, or_false, or_true, false_or, true_or, or_self, hus, one_imm', List.length_map, Int.reduceLT, Int.reduceNeg, Int.reduceLE, eq_true h0]
  refine VCall.of_contract (rwithin_c _ _) (SleL.pure rfl) fun r hr => ?_
  subst hr
  simp only [go_sem,Nat.reduceEqDiff,Nat.reduceAdd,Nat.reduceMul,↓reduceIte,↓dreduceIte,reduceCtorEq,Nat.reduceLeDiff,Nat.reduceLT,Nat.reduceSub,Int.reduceToNat,Int.reduceLE,Int.reduceLT, Int.reduceEq, Int.reduceBEq, setsL, SetsT, or_false, or_true, false_or, true_or, or_self, hus, one_imm', List.length_map, Int.reduceLT, Int.reduceNeg, Int.reduceLE, hd]
  refine VCall.of_contractN (refuses_c ⟨6, d, a, b, k, base, size, n⟩) ?_ fun r hr => ?_
  · exact ⟨_, _, rfl, Frz.pure rfl, rfl⟩
  subst hr
  simp only [go_sem,Nat.reduceEqDiff,Nat.reduceAdd,Nat.reduceMul,↓reduceIte,↓dreduceIte,reduceCtorEq,Nat.reduceLeDiff,Nat.reduceLT,Nat.reduceSub,Int.reduceToNat,Int.reduceLE,Int.reduceLT, Int.reduceEq, Int.reduceBEq, setsL, SetsT, or_false, or_true, false_or, true_or, or_self, hus, one_imm', List.length_map, Int.reduceLT, Int.reduceNeg, Int.reduceLE]
  refine VW_loop (fun i : Nat => ⟨[(1, I f), (2, I regs), (3, I words), (4, .ptr 0 0 0), (9, .ptr 1 1 0), (10, ints [a]), (11, I i)], [⟨0, 47, 1, tacL ⟨6, d, a, b, k, base, size, n⟩⟩, ⟨1, 47, 1, [I 6, I d, I 0, I 0, I 0, I 0, I 0, U32 0]⟩], 2⟩)
    (fun i => i ≤ 1 ∧ ∀ j < i, inB (([a] : List Int).getD j default) regs = true) (fun i => 1 - i) 0 (Wk.mk (by simp [get_cons]) ⟨[], rfl⟩ (Nat.le_refl _)) ⟨by omega, by omega⟩ ?_
  rintro i ⟨hi, hin⟩
  by_cases hi0 : i = 0
  · subst hi0
    simp only [go_sem,Nat.reduceEqDiff,Nat.reduceAdd,Nat.reduceMul,↓reduceIte,↓dreduceIte,reduceCtorEq,Nat.reduceLeDiff,Nat.reduceLT,Nat.reduceSub,Int.reduceToNat,Int.reduceLE,Int.reduceLT, Int.reduceEq, Int.reduceBEq, setsL, SetsT, or_false, or_true, false_or, true_or, or_self, hus, one_imm', List.length_map, Int.reduceLT, Int.reduceNeg, Int.reduceLE, Int.cast_ofNat_Int, Nat.cast_zero', Nat.cast_one']
    refine VCall.of_contract (rwithin_c _ _) (SleL.pure rfl) fun r hr => ?_
    subst hr
    cases hu : inB a regs
    · simp only [go_sem,Nat.reduceEqDiff,Nat.reduceAdd,Nat.reduceMul,↓reduceIte,↓dreduceIte,reduceCtorEq,Nat.reduceLeDiff,Nat.reduceLT,Nat.reduceSub,Int.reduceToNat,Int.reduceLE,Int.reduceLT, hu]
      refine ⟨_, Frz.pure rfl, ?_⟩
      have h2 := of_decide_eq_false hu
      cases x
      · rfl
      · have := hX.1 rfl; omega
    · simp only [go_sem,Nat.reduceEqDiff,Nat.reduceAdd,Nat.reduceMul,↓reduceIte,↓dreduceIte,reduceCtorEq,Nat.reduceLeDiff,Nat.reduceLT,Nat.reduceSub,Int.reduceToNat,Int.reduceLE,Int.reduceLT, hu, i64_lit1, i64_lit2]
      refine ⟨1, ⟨by omega, fun j hj => ?_⟩, by omega, Wk.mk (by simp [get_cons]) ⟨[], rfl⟩ (Nat.le_refl _)⟩
      by_cases e : j = 0
      · subst e; exact hu
      · exact hin j (by omega)
  obtain rfl : i = 1 := by omega
  have hu0 := of_decide_eq_true (hin 0 (by omega))
  simp only [List.getD_cons_zero, List.getD_cons_succ] at hu0
  simp only [go_sem,Nat.reduceEqDiff,Nat.reduceAdd,Nat.reduceMul,↓reduceIte,↓dreduceIte,reduceCtorEq,Nat.reduceLeDiff,Nat.reduceLT,Nat.reduceSub,Int.reduceToNat,Int.reduceLE,Int.reduceLT, Int.reduceEq, Int.reduceBEq, setsL, SetsT, or_false, or_true, false_or, true_or, or_self, hus, one_imm', List.length_map, Int.reduceLT, Int.reduceNeg, Int.reduceLE, Int.cast_ofNat_Int, Nat.cast_zero', Nat.cast_one']
  have hwr : 1 ≤ size → size ≤ 4096 → IntKind.i64.wrap (words - size) = words - size := fun h1 h2 => i64_in (by omega) (by omega)
  repeat' (first | (with_reducible apply And.intro) | (with_reducible intro _))
  all_goals
    refine ⟨_, Frz.pure rfl, ?_⟩
    try (rename_i h1 h2 h3 h4; rw [hwr (by omega) (by omega)] at h4)
    congr 2
    rw [Bool.eq_iff_iff, hX]
    simp only [Bool.and_eq_true, beq_iff_eq, true_and, and_true, Bool.false_eq_true, false_iff, not_and, and_imp]
    first | omega | (intros; omega)
theorem rfits_7 (d a b k base size n f regs words : Int) (hw : 0 ≤ words ∧ words ≤ 1048576) : Contract Try.prog 57 [tacA ⟨7, d, a, b, k, base, size, n⟩, I f, I regs, I words] (fun r => r = B (fitsT ⟨7, d, a, b, k, base, size, n⟩ f regs words)) := by
  refine Contract.of_call (VCall.of_body hmix f_scref24_fits (by simp) ?_)
  have hus : usesL ⟨7, d, a, b, k, base, size, n⟩ = [a, b] := by simp [usesL]
  obtain ⟨x, hx⟩ : ∃ x, fitsT ⟨7, d, a, b, k, base, size, n⟩ f regs words = x := ⟨_, rfl⟩
  rw [hx]
  have hX : (x = true ↔ FitsT ⟨7, d, a, b, k, base, size, n⟩ f regs words) := by rw [← hx]; exact decide_eq_true_iff
  simp only [FitsT, hus, restT, SetsT, Int.reduceEq, or_false, or_true, false_or, true_or, or_self, if_true, if_false, List.mem_cons, List.not_mem_nil, forall_eq_or_imp, forall_eq, false_implies, implies_true, true_and, and_true, Int.reduceLE, List.length_cons, List.length_nil, Nat.reduceAdd, Nat.reduceLeDiff, Nat.le_refl, forall_const, reduceCtorEq, Nat.zero_le] at hX
  simp only [go_sem,Nat.reduceEqDiff,Nat.reduceAdd,Nat.reduceMul,↓reduceIte,↓dreduceIte,reduceCtorEq,Nat.reduceLeDiff,Nat.reduceLT,Nat.reduceSub,Int.reduceToNat,Int.reduceLE,Int.reduceLT, c_scref24_fits, Int.reduceEq, Int.reduceBEq, setsL, SetsT, or_false, or_true, false_or, true_or, or_self, hus, one_imm', List.length_map, Int.reduceLT, Int.reduceNeg, Int.reduceLE]
  refine VCall.of_contract (refsets_c ⟨7, d, a, b, k, base, size, n⟩) (SleL.pure rfl) fun r hr => ?_
  subst hr
  simp only [go_sem,Nat.reduceEqDiff,Nat.reduceAdd,Nat.reduceMul,↓reduceIte,↓dreduceIte,reduceCtorEq,Nat.reduceLeDiff,Nat.reduceLT,Nat.reduceSub,Int.reduceToNat,Int.reduceLE,Int.reduceLT, Int.reduceEq, Int.reduceBEq, setsL, SetsT, or_false, or_true, false_or, true_or, or_self, hus, one_imm', List.length_map, Int.reduceLT, Int.reduceNeg, Int.reduceLE]
  refine VCall.of_contractN (refuses_c ⟨7, d, a, b, k, base, size, n⟩) ?_ fun r hr => ?_
  · exact ⟨_, _, rfl, Frz.pure rfl, rfl⟩
  subst hr
  simp only [go_sem,Nat.reduceEqDiff,Nat.reduceAdd,Nat.reduceMul,↓reduceIte,↓dreduceIte,reduceCtorEq,Nat.reduceLeDiff,Nat.reduceLT,Nat.reduceSub,Int.reduceToNat,Int.reduceLE,Int.reduceLT, Int.reduceEq, Int.reduceBEq, setsL, SetsT, or_false, or_true, false_or, true_or, or_self, hus, one_imm', List.length_map, Int.reduceLT, Int.reduceNeg, Int.reduceLE]
  refine VW_loop (fun i : Nat => ⟨[(1, I f), (2, I regs), (3, I words), (4, .ptr 0 0 0), (9, .ptr 1 1 0), (10, ints [a, b]), (11, I i)], [⟨0, 47, 1, tacL ⟨7, d, a, b, k, base, size, n⟩⟩, ⟨1, 47, 1, [I 7, I 0, I 0, I 0, I 0, I 0, I 0, U32 0]⟩], 2⟩)
    (fun i => i ≤ 2 ∧ ∀ j < i, inB (([a, b] : List Int).getD j default) regs = true) (fun i => 2 - i) 0 (Wk.mk (by simp [get_cons]) ⟨[], rfl⟩ (Nat.le_refl _)) ⟨by omega, by omega⟩ ?_
  rintro i ⟨hi, hin⟩
  by_cases hi0 : i = 0
  · subst hi0
    simp only [go_sem,Nat.reduceEqDiff,Nat.reduceAdd,Nat.reduceMul,↓reduceIte,↓dreduceIte,reduceCtorEq,Nat.reduceLeDiff,Nat.reduceLT,Nat.reduceSub,Int.reduceToNat,Int.reduceLE,Int.reduceLT, Int.reduceEq, Int.reduceBEq, setsL, SetsT, or_false, or_true, false_or, true_or, or_self, hus, one_imm', List.length_map, Int.reduceLT, Int.reduceNeg, Int.reduceLE, Int.cast_ofNat_Int, Nat.cast_zero', Nat.cast_one']
    refine VCall.of_contract (rwithin_c _ _) (SleL.pure rfl) fun r hr => ?_
    subst hr
    cases hu : inB a regs
    · simp only [go_sem,Nat.reduceEqDiff,Nat.reduceAdd,Nat.reduceMul,↓reduceIte,↓dreduceIte,reduceCtorEq,Nat.reduceLeDiff,Nat.reduceLT,Nat.reduceSub,Int.reduceToNat,Int.reduceLE,Int.reduceLT, hu]
      refine ⟨_, Frz.pure rfl, ?_⟩
      have h2 := of_decide_eq_false hu
      cases x
      · rfl
      · have := hX.1 rfl; omega
    · simp only [go_sem,Nat.reduceEqDiff,Nat.reduceAdd,Nat.reduceMul,↓reduceIte,↓dreduceIte,reduceCtorEq,Nat.reduceLeDiff,Nat.reduceLT,Nat.reduceSub,Int.reduceToNat,Int.reduceLE,Int.reduceLT, hu, i64_lit1, i64_lit2]
      refine ⟨1, ⟨by omega, fun j hj => ?_⟩, by omega, Wk.mk (by simp [get_cons]) ⟨[], rfl⟩ (Nat.le_refl _)⟩
      by_cases e : j = 0
      · subst e; exact hu
      · exact hin j (by omega)
  by_cases hi1 : i = 1
  · subst hi1
    simp only [go_sem,Nat.reduceEqDiff,Nat.reduceAdd,Nat.reduceMul,↓reduceIte,↓dreduceIte,reduceCtorEq,Nat.reduceLeDiff,Nat.reduceLT,Nat.reduceSub,Int.reduceToNat,Int.reduceLE,Int.reduceLT, Int.reduceEq, Int.reduceBEq, setsL, SetsT, or_false, or_true, false_or, true_or, or_self, hus, one_imm', List.length_map, Int.reduceLT, Int.reduceNeg, Int.reduceLE, Int.cast_ofNat_Int, Nat.cast_zero', Nat.cast_one']
    refine VCall.of_contract (rwithin_c _ _) (SleL.pure rfl) fun r hr => ?_
    subst hr
    cases hu : inB b regs
    · simp only [go_sem,Nat.reduceEqDiff,Nat.reduceAdd,Nat.reduceMul,↓reduceIte,↓dreduceIte,reduceCtorEq,Nat.reduceLeDiff,Nat.reduceLT,Nat.reduceSub,Int.reduceToNat,Int.reduceLE,Int.reduceLT, hu]
      refine ⟨_, Frz.pure rfl, ?_⟩
      have h2 := of_decide_eq_false hu
      cases x
      · rfl
      · have := hX.1 rfl; omega
    · simp only [go_sem,Nat.reduceEqDiff,Nat.reduceAdd,Nat.reduceMul,↓reduceIte,↓dreduceIte,reduceCtorEq,Nat.reduceLeDiff,Nat.reduceLT,Nat.reduceSub,Int.reduceToNat,Int.reduceLE,Int.reduceLT, hu, i64_lit1, i64_lit2]
      refine ⟨2, ⟨by omega, fun j hj => ?_⟩, by omega, Wk.mk (by simp [get_cons]) ⟨[], rfl⟩ (Nat.le_refl _)⟩
      by_cases e : j = 1
      · subst e; exact hu
      · exact hin j (by omega)
  obtain rfl : i = 2 := by omega
  have hu0 := of_decide_eq_true (hin 0 (by omega))
  simp only [List.getD_cons_zero, List.getD_cons_succ] at hu0
  have hu1 := of_decide_eq_true (hin 1 (by omega))
  simp only [List.getD_cons_zero, List.getD_cons_succ] at hu1
  simp only [go_sem,Nat.reduceEqDiff,Nat.reduceAdd,Nat.reduceMul,↓reduceIte,↓dreduceIte,reduceCtorEq,Nat.reduceLeDiff,Nat.reduceLT,Nat.reduceSub,Int.reduceToNat,Int.reduceLE,Int.reduceLT, Int.reduceEq, Int.reduceBEq, setsL, SetsT, or_false, or_true, false_or, true_or, or_self, hus, one_imm', List.length_map, Int.reduceLT, Int.reduceNeg, Int.reduceLE, Int.cast_ofNat_Int, Nat.cast_zero', Nat.cast_one']
  have hwr : 1 ≤ size → size ≤ 4096 → IntKind.i64.wrap (words - size) = words - size := fun h1 h2 => i64_in (by omega) (by omega)
  repeat' (first | (with_reducible apply And.intro) | (with_reducible intro _))
  all_goals
    refine ⟨_, Frz.pure rfl, ?_⟩
    try (rename_i h1 h2 h3 h4; rw [hwr (by omega) (by omega)] at h4)
    congr 2
    rw [Bool.eq_iff_iff, hX]
    simp only [Bool.and_eq_true, beq_iff_eq, true_and, and_true, Bool.false_eq_true, false_iff, not_and, and_imp]
    first | omega | (intros; omega)
theorem rfits_8 (d a b k base size n f regs words : Int) (hw : 0 ≤ words ∧ words ≤ 1048576) : Contract Try.prog 57 [tacA ⟨8, d, a, b, k, base, size, n⟩, I f, I regs, I words] (fun r => r = B (fitsT ⟨8, d, a, b, k, base, size, n⟩ f regs words)) := by
  refine Contract.of_call (VCall.of_body hmix f_scref24_fits (by simp) ?_)
  have hus : usesL ⟨8, d, a, b, k, base, size, n⟩ = [] := by simp [usesL]
  obtain ⟨x, hx⟩ : ∃ x, fitsT ⟨8, d, a, b, k, base, size, n⟩ f regs words = x := ⟨_, rfl⟩
  rw [hx]
  have hX : (x = true ↔ FitsT ⟨8, d, a, b, k, base, size, n⟩ f regs words) := by rw [← hx]; exact decide_eq_true_iff
  simp only [FitsT, hus, restT, SetsT, Int.reduceEq, or_false, or_true, false_or, true_or, or_self, if_true, if_false, List.mem_cons, List.not_mem_nil, forall_eq_or_imp, forall_eq, false_implies, implies_true, true_and, and_true, Int.reduceLE, List.length_cons, List.length_nil, Nat.reduceAdd, Nat.reduceLeDiff, Nat.le_refl, forall_const, reduceCtorEq, Nat.zero_le] at hX
  cases hd : inB d regs
  · have hx0 : x = false := by
      cases x
      · rfl
      · have := hX.1 rfl; have h2 := of_decide_eq_false hd; omega
    subst hx0
    by_cases h0 : 0 ≤ d
    · simp only [go_sem,Nat.reduceEqDiff,Nat.reduceAdd,Nat.reduceMul,↓reduceIte,↓dreduceIte,reduceCtorEq,Nat.reduceLeDiff,Nat.reduceLT,Nat.reduceSub,Int.reduceToNat,Int.reduceLE,Int.reduceLT, c_scref24_fits, Int.reduceEq, Int.reduceBEq, setsL, SetsT, or_false, or_true, false_or, true_or, or_self, hus, one_imm', List.length_map, Int.reduceLT, Int.reduceNeg, Int.reduceLE]
      refine VCall.of_contract (refsets_c ⟨8, d, a, b, k, base, size, n⟩) (SleL.pure rfl) fun r hr => ?_
      subst hr
      simp only [go_sem,Nat.reduceEqDiff,Nat.reduceAdd,Nat.reduceMul,↓reduceIte,↓dreduceIte,reduceCtorEq,Nat.reduceLeDiff,Nat.reduceLT,Nat.reduceSub,Int.reduceToNat,Int.reduceLE,Int.reduceLT, Int.reduceEq, Int.reduceBEq, setsL, SetsT, or_false, or_true, false_or, true_or, or_self, hus, one_imm', List.length_map, Int.reduceLT, Int.reduceNeg, Int.reduceLE, eq_true h0]
      refine VCall.of_contract (rwithin_c _ _) (SleL.pure rfl) fun r hr => ?_
      subst hr
      simp only [go_sem,Nat.reduceEqDiff,Nat.reduceAdd,Nat.reduceMul,↓reduceIte,↓dreduceIte,reduceCtorEq,Nat.reduceLeDiff,Nat.reduceLT,Nat.reduceSub,Int.reduceToNat,Int.reduceLE,Int.reduceLT, hd]
      exact ⟨_, Frz.pure rfl, rfl⟩
    · simp only [go_sem,Nat.reduceEqDiff,Nat.reduceAdd,Nat.reduceMul,↓reduceIte,↓dreduceIte,reduceCtorEq,Nat.reduceLeDiff,Nat.reduceLT,Nat.reduceSub,Int.reduceToNat,Int.reduceLE,Int.reduceLT, c_scref24_fits, Int.reduceEq, Int.reduceBEq, setsL, SetsT, or_false, or_true, false_or, true_or, or_self, hus, one_imm', List.length_map, Int.reduceLT, Int.reduceNeg, Int.reduceLE]
      refine VCall.of_contract (refsets_c ⟨8, d, a, b, k, base, size, n⟩) (SleL.pure rfl) fun r hr => ?_
      subst hr
      simp only [go_sem,Nat.reduceEqDiff,Nat.reduceAdd,Nat.reduceMul,↓reduceIte,↓dreduceIte,reduceCtorEq,Nat.reduceLeDiff,Nat.reduceLT,Nat.reduceSub,Int.reduceToNat,Int.reduceLE,Int.reduceLT, Int.reduceEq, Int.reduceBEq, setsL, SetsT, or_false, or_true, false_or, true_or, or_self, hus, one_imm', List.length_map, Int.reduceLT, Int.reduceNeg, Int.reduceLE, eq_false h0]
      refine VCall.of_contract (rwithin_c _ _) (SleL.pure rfl) fun r hr => ?_
      subst hr
      simp only [go_sem,Nat.reduceEqDiff,Nat.reduceAdd,Nat.reduceMul,↓reduceIte,↓dreduceIte,reduceCtorEq,Nat.reduceLeDiff,Nat.reduceLT,Nat.reduceSub,Int.reduceToNat,Int.reduceLE,Int.reduceLT, hd]
      exact ⟨_, Frz.pure rfl, rfl⟩
  have h0 := (of_decide_eq_true hd).1
  have h0' := (of_decide_eq_true hd).2
  simp only [go_sem,Nat.reduceEqDiff,Nat.reduceAdd,Nat.reduceMul,↓reduceIte,↓dreduceIte,reduceCtorEq,Nat.reduceLeDiff,Nat.reduceLT,Nat.reduceSub,Int.reduceToNat,Int.reduceLE,Int.reduceLT, c_scref24_fits, Int.reduceEq, Int.reduceBEq, setsL, SetsT, or_false, or_true, false_or, true_or, or_self, hus, one_imm', List.length_map, Int.reduceLT, Int.reduceNeg, Int.reduceLE]
  refine VCall.of_contract (refsets_c ⟨8, d, a, b, k, base, size, n⟩) (SleL.pure rfl) fun r hr => ?_
  subst hr
  simp only [go_sem,Nat.reduceEqDiff,Nat.reduceAdd,Nat.reduceMul,↓reduceIte,↓dreduceIte,reduceCtorEq,Nat.reduceLeDiff,Nat.reduceLT,Nat.reduceSub,Int.reduceToNat,Int.reduceLE,Int.reduceLT, Int.reduceEq, Int.reduceBEq, setsL, SetsT, or_false, or_true, false_or, true_or, or_self, hus, one_imm', List.length_map, Int.reduceLT, Int.reduceNeg, Int.reduceLE, eq_true h0]
  refine VCall.of_contract (rwithin_c _ _) (SleL.pure rfl) fun r hr => ?_
  subst hr
  simp only [go_sem,Nat.reduceEqDiff,Nat.reduceAdd,Nat.reduceMul,↓reduceIte,↓dreduceIte,reduceCtorEq,Nat.reduceLeDiff,Nat.reduceLT,Nat.reduceSub,Int.reduceToNat,Int.reduceLE,Int.reduceLT, Int.reduceEq, Int.reduceBEq, setsL, SetsT, or_false, or_true, false_or, true_or, or_self, hus, one_imm', List.length_map, Int.reduceLT, Int.reduceNeg, Int.reduceLE, hd]
  refine VCall.of_contractN (refuses_c ⟨8, d, a, b, k, base, size, n⟩) ?_ fun r hr => ?_
  · exact ⟨_, _, rfl, Frz.pure rfl, rfl⟩
  subst hr
  simp only [go_sem,Nat.reduceEqDiff,Nat.reduceAdd,Nat.reduceMul,↓reduceIte,↓dreduceIte,reduceCtorEq,Nat.reduceLeDiff,Nat.reduceLT,Nat.reduceSub,Int.reduceToNat,Int.reduceLE,Int.reduceLT, Int.reduceEq, Int.reduceBEq, setsL, SetsT, or_false, or_true, false_or, true_or, or_self, hus, one_imm', List.length_map, Int.reduceLT, Int.reduceNeg, Int.reduceLE]
  refine VW_loop (fun i : Nat => ⟨[(1, I f), (2, I regs), (3, I words), (4, .ptr 0 0 0), (9, .ptr 1 1 0), (10, ints []), (11, I i)], [⟨0, 47, 1, tacL ⟨8, d, a, b, k, base, size, n⟩⟩, ⟨1, 47, 1, [I 8, I d, I 0, I 0, I 0, I 0, I 0, U32 0]⟩], 2⟩)
    (fun i => i ≤ 0 ∧ ∀ j < i, inB (([] : List Int).getD j default) regs = true) (fun i => 0 - i) 0 (Wk.mk (by simp [get_cons]) ⟨[], rfl⟩ (Nat.le_refl _)) ⟨by omega, by omega⟩ ?_
  rintro i ⟨hi, hin⟩
  obtain rfl : i = 0 := by omega
  simp only [go_sem,Nat.reduceEqDiff,Nat.reduceAdd,Nat.reduceMul,↓reduceIte,↓dreduceIte,reduceCtorEq,Nat.reduceLeDiff,Nat.reduceLT,Nat.reduceSub,Int.reduceToNat,Int.reduceLE,Int.reduceLT, Int.reduceEq, Int.reduceBEq, setsL, SetsT, or_false, or_true, false_or, true_or, or_self, hus, one_imm', List.length_map, Int.reduceLT, Int.reduceNeg, Int.reduceLE, Int.cast_ofNat_Int, Nat.cast_zero', Nat.cast_one']
  have hwr : 1 ≤ size → size ≤ 4096 → IntKind.i64.wrap (words - size) = words - size := fun h1 h2 => i64_in (by omega) (by omega)
  repeat' (first | (with_reducible apply And.intro) | (with_reducible intro _))
  all_goals
    refine ⟨_, Frz.pure rfl, ?_⟩
    try (rename_i h1 h2 h3 h4; rw [hwr (by omega) (by omega)] at h4)
    congr 2
    rw [Bool.eq_iff_iff, hX]
    simp only [Bool.and_eq_true, beq_iff_eq, true_and, and_true, Bool.false_eq_true, false_iff, not_and, and_imp]
    first | omega | (intros; omega)
theorem rfits_9 (d a b k base size n f regs words : Int) (hw : 0 ≤ words ∧ words ≤ 1048576) : Contract Try.prog 57 [tacA ⟨9, d, a, b, k, base, size, n⟩, I f, I regs, I words] (fun r => r = B (fitsT ⟨9, d, a, b, k, base, size, n⟩ f regs words)) := by
  refine Contract.of_call (VCall.of_body hmix f_scref24_fits (by simp) ?_)
  have hus : usesL ⟨9, d, a, b, k, base, size, n⟩ = [a] := by simp [usesL]
  obtain ⟨x, hx⟩ : ∃ x, fitsT ⟨9, d, a, b, k, base, size, n⟩ f regs words = x := ⟨_, rfl⟩
  rw [hx]
  have hX : (x = true ↔ FitsT ⟨9, d, a, b, k, base, size, n⟩ f regs words) := by rw [← hx]; exact decide_eq_true_iff
  simp only [FitsT, hus, restT, SetsT, Int.reduceEq, or_false, or_true, false_or, true_or, or_self, if_true, if_false, List.mem_cons, List.not_mem_nil, forall_eq_or_imp, forall_eq, false_implies, implies_true, true_and, and_true, Int.reduceLE, List.length_cons, List.length_nil, Nat.reduceAdd, Nat.reduceLeDiff, Nat.le_refl, forall_const, reduceCtorEq, Nat.zero_le] at hX
  simp only [go_sem,Nat.reduceEqDiff,Nat.reduceAdd,Nat.reduceMul,↓reduceIte,↓dreduceIte,reduceCtorEq,Nat.reduceLeDiff,Nat.reduceLT,Nat.reduceSub,Int.reduceToNat,Int.reduceLE,Int.reduceLT, c_scref24_fits, Int.reduceEq, Int.reduceBEq, setsL, SetsT, or_false, or_true, false_or, true_or, or_self, hus, one_imm', List.length_map, Int.reduceLT, Int.reduceNeg, Int.reduceLE]
  refine VCall.of_contract (refsets_c ⟨9, d, a, b, k, base, size, n⟩) (SleL.pure rfl) fun r hr => ?_
  subst hr
  simp only [go_sem,Nat.reduceEqDiff,Nat.reduceAdd,Nat.reduceMul,↓reduceIte,↓dreduceIte,reduceCtorEq,Nat.reduceLeDiff,Nat.reduceLT,Nat.reduceSub,Int.reduceToNat,Int.reduceLE,Int.reduceLT, Int.reduceEq, Int.reduceBEq, setsL, SetsT, or_false, or_true, false_or, true_or, or_self, hus, one_imm', List.length_map, Int.reduceLT, Int.reduceNeg, Int.reduceLE]
  refine VCall.of_contractN (refuses_c ⟨9, d, a, b, k, base, size, n⟩) ?_ fun r hr => ?_
  · exact ⟨_, _, rfl, Frz.pure rfl, rfl⟩
  subst hr
  simp only [go_sem,Nat.reduceEqDiff,Nat.reduceAdd,Nat.reduceMul,↓reduceIte,↓dreduceIte,reduceCtorEq,Nat.reduceLeDiff,Nat.reduceLT,Nat.reduceSub,Int.reduceToNat,Int.reduceLE,Int.reduceLT, Int.reduceEq, Int.reduceBEq, setsL, SetsT, or_false, or_true, false_or, true_or, or_self, hus, one_imm', List.length_map, Int.reduceLT, Int.reduceNeg, Int.reduceLE]
  refine VW_loop (fun i : Nat => ⟨[(1, I f), (2, I regs), (3, I words), (4, .ptr 0 0 0), (9, .ptr 1 1 0), (10, ints [a]), (11, I i)], [⟨0, 47, 1, tacL ⟨9, d, a, b, k, base, size, n⟩⟩, ⟨1, 47, 1, [I 9, I 0, I 0, I 0, I 0, I 0, I 0, U32 0]⟩], 2⟩)
    (fun i => i ≤ 1 ∧ ∀ j < i, inB (([a] : List Int).getD j default) regs = true) (fun i => 1 - i) 0 (Wk.mk (by simp [get_cons]) ⟨[], rfl⟩ (Nat.le_refl _)) ⟨by omega, by omega⟩ ?_
  rintro i ⟨hi, hin⟩
  by_cases hi0 : i = 0
  · subst hi0
    simp only [go_sem,Nat.reduceEqDiff,Nat.reduceAdd,Nat.reduceMul,↓reduceIte,↓dreduceIte,reduceCtorEq,Nat.reduceLeDiff,Nat.reduceLT,Nat.reduceSub,Int.reduceToNat,Int.reduceLE,Int.reduceLT, Int.reduceEq, Int.reduceBEq, setsL, SetsT, or_false, or_true, false_or, true_or, or_self, hus, one_imm', List.length_map, Int.reduceLT, Int.reduceNeg, Int.reduceLE, Int.cast_ofNat_Int, Nat.cast_zero', Nat.cast_one']
    refine VCall.of_contract (rwithin_c _ _) (SleL.pure rfl) fun r hr => ?_
    subst hr
    cases hu : inB a regs
    · simp only [go_sem,Nat.reduceEqDiff,Nat.reduceAdd,Nat.reduceMul,↓reduceIte,↓dreduceIte,reduceCtorEq,Nat.reduceLeDiff,Nat.reduceLT,Nat.reduceSub,Int.reduceToNat,Int.reduceLE,Int.reduceLT, hu]
      refine ⟨_, Frz.pure rfl, ?_⟩
      have h2 := of_decide_eq_false hu
      cases x
      · rfl
      · have := hX.1 rfl; omega
    · simp only [go_sem,Nat.reduceEqDiff,Nat.reduceAdd,Nat.reduceMul,↓reduceIte,↓dreduceIte,reduceCtorEq,Nat.reduceLeDiff,Nat.reduceLT,Nat.reduceSub,Int.reduceToNat,Int.reduceLE,Int.reduceLT, hu, i64_lit1, i64_lit2]
      refine ⟨1, ⟨by omega, fun j hj => ?_⟩, by omega, Wk.mk (by simp [get_cons]) ⟨[], rfl⟩ (Nat.le_refl _)⟩
      by_cases e : j = 0
      · subst e; exact hu
      · exact hin j (by omega)
  obtain rfl : i = 1 := by omega
  have hu0 := of_decide_eq_true (hin 0 (by omega))
  simp only [List.getD_cons_zero, List.getD_cons_succ] at hu0
  simp only [go_sem,Nat.reduceEqDiff,Nat.reduceAdd,Nat.reduceMul,↓reduceIte,↓dreduceIte,reduceCtorEq,Nat.reduceLeDiff,Nat.reduceLT,Nat.reduceSub,Int.reduceToNat,Int.reduceLE,Int.reduceLT, Int.reduceEq, Int.reduceBEq, setsL, SetsT, or_false, or_true, false_or, true_or, or_self, hus, one_imm', List.length_map, Int.reduceLT, Int.reduceNeg, Int.reduceLE, Int.cast_ofNat_Int, Nat.cast_zero', Nat.cast_one']
  have hwr : 1 ≤ size → size ≤ 4096 → IntKind.i64.wrap (words - size) = words - size := fun h1 h2 => i64_in (by omega) (by omega)
  repeat' (first | (with_reducible apply And.intro) | (with_reducible intro _))
  all_goals
    refine ⟨_, Frz.pure rfl, ?_⟩
    try (rename_i h1 h2 h3 h4; rw [hwr (by omega) (by omega)] at h4)
    congr 2
    rw [Bool.eq_iff_iff, hX]
    simp only [Bool.and_eq_true, beq_iff_eq, true_and, and_true, Bool.false_eq_true, false_iff, not_and, and_imp]
    first | omega | (intros; omega)
theorem rfits_10 (d a b k base size n f regs words : Int) (hw : 0 ≤ words ∧ words ≤ 1048576) : Contract Try.prog 57 [tacA ⟨10, d, a, b, k, base, size, n⟩, I f, I regs, I words] (fun r => r = B (fitsT ⟨10, d, a, b, k, base, size, n⟩ f regs words)) := by
  refine Contract.of_call (VCall.of_body hmix f_scref24_fits (by simp) ?_)
  have hus : usesL ⟨10, d, a, b, k, base, size, n⟩ = [] := by simp [usesL]
  obtain ⟨x, hx⟩ : ∃ x, fitsT ⟨10, d, a, b, k, base, size, n⟩ f regs words = x := ⟨_, rfl⟩
  rw [hx]
  have hX : (x = true ↔ FitsT ⟨10, d, a, b, k, base, size, n⟩ f regs words) := by rw [← hx]; exact decide_eq_true_iff
  simp only [FitsT, hus, restT, SetsT, Int.reduceEq, or_false, or_true, false_or, true_or, or_self, if_true, if_false, List.mem_cons, List.not_mem_nil, forall_eq_or_imp, forall_eq, false_implies, implies_true, true_and, and_true, Int.reduceLE, List.length_cons, List.length_nil, Nat.reduceAdd, Nat.reduceLeDiff, Nat.le_refl, forall_const, reduceCtorEq, Nat.zero_le] at hX
  simp only [go_sem,Nat.reduceEqDiff,Nat.reduceAdd,Nat.reduceMul,↓reduceIte,↓dreduceIte,reduceCtorEq,Nat.reduceLeDiff,Nat.reduceLT,Nat.reduceSub,Int.reduceToNat,Int.reduceLE,Int.reduceLT, c_scref24_fits, Int.reduceEq, Int.reduceBEq, setsL, SetsT, or_false, or_true, false_or, true_or, or_self, hus, one_imm', List.length_map, Int.reduceLT, Int.reduceNeg, Int.reduceLE]
  refine VCall.of_contract (refsets_c ⟨10, d, a, b, k, base, size, n⟩) (SleL.pure rfl) fun r hr => ?_
  subst hr
  simp only [go_sem,Nat.reduceEqDiff,Nat.reduceAdd,Nat.reduceMul,↓reduceIte,↓dreduceIte,reduceCtorEq,Nat.reduceLeDiff,Nat.reduceLT,Nat.reduceSub,Int.reduceToNat,Int.reduceLE,Int.reduceLT, Int.reduceEq, Int.reduceBEq, setsL, SetsT, or_false, or_true, false_or, true_or, or_self, hus, one_imm', List.length_map, Int.reduceLT, Int.reduceNeg, Int.reduceLE]
  refine VCall.of_contractN (refuses_c ⟨10, d, a, b, k, base, size, n⟩) ?_ fun r hr => ?_
  · exact ⟨_, _, rfl, Frz.pure rfl, rfl⟩
  subst hr
  simp only [go_sem,Nat.reduceEqDiff,Nat.reduceAdd,Nat.reduceMul,↓reduceIte,↓dreduceIte,reduceCtorEq,Nat.reduceLeDiff,Nat.reduceLT,Nat.reduceSub,Int.reduceToNat,Int.reduceLE,Int.reduceLT, Int.reduceEq, Int.reduceBEq, setsL, SetsT, or_false, or_true, false_or, true_or, or_self, hus, one_imm', List.length_map, Int.reduceLT, Int.reduceNeg, Int.reduceLE]
  refine VW_loop (fun i : Nat => ⟨[(1, I f), (2, I regs), (3, I words), (4, .ptr 0 0 0), (9, .ptr 1 1 0), (10, ints []), (11, I i)], [⟨0, 47, 1, tacL ⟨10, d, a, b, k, base, size, n⟩⟩, ⟨1, 47, 1, [I 10, I 0, I 0, I 0, I 0, I 0, I 0, U32 0]⟩], 2⟩)
    (fun i => i ≤ 0 ∧ ∀ j < i, inB (([] : List Int).getD j default) regs = true) (fun i => 0 - i) 0 (Wk.mk (by simp [get_cons]) ⟨[], rfl⟩ (Nat.le_refl _)) ⟨by omega, by omega⟩ ?_
  rintro i ⟨hi, hin⟩
  obtain rfl : i = 0 := by omega
  simp only [go_sem,Nat.reduceEqDiff,Nat.reduceAdd,Nat.reduceMul,↓reduceIte,↓dreduceIte,reduceCtorEq,Nat.reduceLeDiff,Nat.reduceLT,Nat.reduceSub,Int.reduceToNat,Int.reduceLE,Int.reduceLT, Int.reduceEq, Int.reduceBEq, setsL, SetsT, or_false, or_true, false_or, true_or, or_self, hus, one_imm', List.length_map, Int.reduceLT, Int.reduceNeg, Int.reduceLE, Int.cast_ofNat_Int, Nat.cast_zero', Nat.cast_one']
  refine VCall.of_contract (rwithin_c _ _) (SleL.pure rfl) fun r hr => ?_
  subst hr
  cases hb : inB base f
  · have hb' := of_decide_eq_false hb
    simp only [go_sem,Nat.reduceEqDiff,Nat.reduceAdd,Nat.reduceMul,↓reduceIte,↓dreduceIte,reduceCtorEq,Nat.reduceLeDiff,Nat.reduceLT,Nat.reduceSub,Int.reduceToNat,Int.reduceLE,Int.reduceLT, hb]
    refine ⟨_, Frz.pure rfl, ?_⟩
    congr 2
    rw [Bool.eq_iff_iff, hX]
    simp only [Bool.and_eq_true, beq_iff_eq, true_and, and_true, Bool.false_eq_true, false_iff, not_and, and_imp]
    first | omega | (intros; omega)
  · have hb' := of_decide_eq_true hb
    simp only [go_sem,Nat.reduceEqDiff,Nat.reduceAdd,Nat.reduceMul,↓reduceIte,↓dreduceIte,reduceCtorEq,Nat.reduceLeDiff,Nat.reduceLT,Nat.reduceSub,Int.reduceToNat,Int.reduceLE,Int.reduceLT, hb]
    refine ⟨_, Frz.pure rfl, ?_⟩
    congr 2
    rw [Bool.eq_iff_iff, hX]
    simp only [Bool.and_eq_true, beq_iff_eq, true_and, and_true, Bool.false_eq_true, false_iff, not_and, and_imp]
    first | omega | (intros; omega)
theorem rfits_c (t : Tac) (f regs words : Int) (hw : 0 ≤ words ∧ words ≤ 1048576) : Contract Try.prog 57 [tacA t, I f, I regs, I words] (fun r => r = B (fitsT t f regs words)) := by
  obtain ⟨op, d, a, b, k, base, size, n⟩ := t
  by_cases ho : op < 1 ∨ op > 10
  · refine Contract.of_call (VCall.of_body hmix f_scref24_fits (by simp) ?_)
    have e : fitsT ⟨op, d, a, b, k, base, size, n⟩ f regs words = false := decide_eq_false (by unfold FitsT; simp only; omega)
    rw [e]
    rcases ho with h | h
    · simp only [go_sem,Nat.reduceEqDiff,Nat.reduceAdd,Nat.reduceMul,↓reduceIte,↓dreduceIte,reduceCtorEq,Nat.reduceLeDiff,Nat.reduceLT,Nat.reduceSub,Int.reduceToNat,Int.reduceLE,Int.reduceLT, c_scref24_fits, eq_true h]
      exact ⟨_, Frz.pure rfl, rfl⟩
    · simp only [go_sem,Nat.reduceEqDiff,Nat.reduceAdd,Nat.reduceMul,↓reduceIte,↓dreduceIte,reduceCtorEq,Nat.reduceLeDiff,Nat.reduceLT,Nat.reduceSub,Int.reduceToNat,Int.reduceLE,Int.reduceLT, c_scref24_fits, eq_false (show ¬ op < 1 by omega), eq_true (show 10 < op by omega)]
      exact ⟨_, Frz.pure rfl, rfl⟩
  have hop : op = 1 ∨ op = 2 ∨ op = 3 ∨ op = 4 ∨ op = 5 ∨ op = 6 ∨ op = 7 ∨ op = 8 ∨ op = 9 ∨ op = 10 := by omega
  rcases hop with rfl | rfl | rfl | rfl | rfl | rfl | rfl | rfl | rfl | rfl
  · exact rfits_1 d a b k base size n f regs words hw
  · exact rfits_2 d a b k base size n f regs words hw
  · exact rfits_3 d a b k base size n f regs words hw
  · exact rfits_4 d a b k base size n f regs words hw
  · exact rfits_5 d a b k base size n f regs words hw
  · exact rfits_6 d a b k base size n f regs words hw
  · exact rfits_7 d a b k base size n f regs words hw
  · exact rfits_8 d a b k base size n f regs words hw
  · exact rfits_9 d a b k base size n f regs words hw
  · exact rfits_10 d a b k base size n f regs words hw
-- END-OF-FITS
end Go.Proofs.Ytjdeediehmhdoaa
namespace Go.Proofs.Ytjdeediehmhdoaa
set_option linter.unusedSimpArgs false
set_option linter.unusedVariables false
open Go.V

theorem one_imm {sz : Nat} {xs : List AV} : (AV.imm sz xs).one = true := rfl
theorem one_ref {id s off len : Nat} : (AV.ref id s off len).one = true := rfl
theorem cellT_U32 {xs : List Int} {off : Nat} {C : AV → Prop} : cellT (xs.map U32) off false 1 C .mk = (off < xs.length ∧ C (U32 (xs.getD off default))) := cellT_map fun _ => rfl
/-- A word made of any number. -/
abbrev w32 (n : Int) : Int := IntKind.u32.wrap n
def andW (a b : Int) : Int := w32 (BitVec.ofInt IntKind.u32.bits a &&& BitVec.ofInt IntKind.u32.bits b).toNat
def orW (a b : Int) : Int := w32 (BitVec.ofInt IntKind.u32.bits a ||| BitVec.ofInt IntKind.u32.bits b).toNat
def xorW (a b : Int) : Int := w32 (BitVec.ofInt IntKind.u32.bits a ^^^ BitVec.ofInt IntKind.u32.bits b).toNat
def shlW (a b : Int) : Int := w32 (a * 2 ^ (min b.toNat IntKind.u32.bits))
def shrW (a b : Int) : Int := a.fdiv (2 ^ (min b.toNat IntKind.u32.bits))

/-- What an operation makes of two words, and the error. -/
def applyW (op a b : Int) : Int × Int :=
  if op = 4 then (w32 (a + b), 0) else if op = 5 then (w32 (a - b), 0) else if op = 6 then (w32 (a * b), 0)
  else if op = 7 then (if b = 0 then (0, 14) else (w32 (a.tdiv b), 0))
  else if op = 8 then (if b = 0 then (0, 14) else (a.tmod b, 0))
  else if op = 9 then (andW a b, 0) else if op = 10 then (orW a b, 0) else if op = 11 then (xorW a b, 0)
  else if op = 12 then (if 31 < b then 0 else shlW a b, 0)
  else if op = 13 then (if 31 < b then 0 else shrW a b, 0)
  else if op = 14 then (if a < b then 1 else 0, 0)
  else if op = 15 then (if a = b then 1 else 0, 0)
  else (0, 1)

abbrev tup2 (p : Int × Int) : AV := .tup [U32 p.1, I p.2]

end Go.Proofs.Ytjdeediehmhdoaa
