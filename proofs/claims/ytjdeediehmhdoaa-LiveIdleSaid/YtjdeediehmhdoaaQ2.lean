/-
  The document's word on what matters: contracts of its small functions. No condition. What follows a block: contracts. No condition. The program's word on what matters: contracts of its small functions. No condition. The numbers below one, the greatest first: the loop's function; what a block makes of a row: contract. No condition. The document's word on three-address code: may an end, a function, a program be: contracts; what such a function is. No condition. Three-address code and tables of truths as arguments. No condition. What matters: the checks of both, rows that are the same, small functions: contracts. No condition. What matters behind each instruction: contracts of both. No condition. Rows as words; objects in memory, what of them stays: what is often asked. No condition. Tables of the call's own; the document's empty one: contract. No condition. Rows as words of the program's own: contracts. No condition. What a block reads ahead of setting it, and what it sets; a row told truth by truth: contracts. No condition. A row told truth by truth: contract. No condition.
-/
import Derived.Test.YtjdeediehmhdoaaQ1
import Derived.Test.YtjdeediehmhdoaaVG
import Derived.SizedLaws
namespace Go.Proofs.Ytjdeediehmhdoaa
set_option linter.unusedSimpArgs false
set_option linter.unusedVariables false
set_option maxRecDepth 10000
open Go.V

theorem cells_B (l : List Bool) : allCells (l.map B) = l.map B := allCells_map1 (fun _ => rfl) l
theorem laid_B (l : List Bool) : ∀ y ∈ l.map B, y.laid = true := fun y hy => by
  obtain ⟨x, _, rfl⟩ := List.mem_map.1 hy; rfl
theorem set_B (l : List Bool) (i : Nat) (x : Bool) : (l.map B).set i (.val (.bool x)) = (l.set i x).map B := set_map B l i x

def withinB (a b : List Bool) : Bool := decide (∀ i < a.length, gB a i = true → gB b i = true)
theorem gB_getD (l : List Bool) (i : Nat) : l.getD i default = gB l i := rfl

theorem rwithin27_c (a b : List Bool) (h : a.length ≤ b.length) (ha : a.length ≤ 140737488355328) : Contract Try.prog 36 [bools a, bools b] (fun r => r = B (withinB a b)) := by
  refine Contract.of_call (VCall.of_body hmix f_scref27_within (by simp) ?_)
  simp only [go_sem,Nat.reduceEqDiff,Nat.reduceAdd,Nat.reduceMul,↓reduceIte,↓dreduceIte,reduceCtorEq,Nat.reduceLeDiff,Nat.reduceLT,Nat.reduceSub,Int.reduceToNat,Int.reduceLE,Int.reduceLT, c_scref27_within]
  refine VW_loop (fun k : Nat => ⟨[(0, bools a), (1, bools b), (5, I k)], [], 0⟩) (fun k => k ≤ a.length ∧ ∀ i < k, gB a i = true → gB b i = true) (fun k => a.length - k) 0 (Wk.mk (by simp [get_cons]) ⟨[], rfl⟩ (Nat.le_refl _)) ⟨by omega, by omega⟩ ?_
  rintro k ⟨hk, hp⟩
  by_cases h1 : k < a.length
  · have hx : ∀ k', ((k' : Nat) : Int) = k → k' = k := fun k' e => by omega
    cases h2 : gB a k
    · simp only [go_sem,Nat.reduceEqDiff,Nat.reduceAdd,Nat.reduceMul,↓reduceIte,↓dreduceIte,reduceCtorEq,Nat.reduceLeDiff,Nat.reduceLT,Nat.reduceSub,Int.reduceToNat,Int.reduceLE,Int.reduceLT, eq_true (show (k : Int) < a.length by omega), gB_getD, h2]
      rw [i64_in (by omega) (by omega)]
      refine ⟨by omega, k + 1, ⟨by omega, fun i hi e => ?_⟩, by omega, Wk.mk (by simp [get_cons]) ⟨[], rfl⟩ (Nat.le_refl _)⟩
      by_cases e2 : i = k
      · rw [e2, h2] at e; cases e
      · exact hp i (by omega) e
    · cases h3 : gB b k
      · simp only [go_sem,Nat.reduceEqDiff,Nat.reduceAdd,Nat.reduceMul,↓reduceIte,↓dreduceIte,reduceCtorEq,Nat.reduceLeDiff,Nat.reduceLT,Nat.reduceSub,Int.reduceToNat,Int.reduceLE,Int.reduceLT, eq_true (show (k : Int) < a.length by omega), gB_getD, h2, h3]
        refine ⟨by omega, by omega, _, Frz.pure rfl, ?_⟩
        rw [show withinB a b = false from decide_eq_false fun e => by have := e k h1 h2; rw [h3] at this; cases this]
      · simp only [go_sem,Nat.reduceEqDiff,Nat.reduceAdd,Nat.reduceMul,↓reduceIte,↓dreduceIte,reduceCtorEq,Nat.reduceLeDiff,Nat.reduceLT,Nat.reduceSub,Int.reduceToNat,Int.reduceLE,Int.reduceLT, eq_true (show (k : Int) < a.length by omega), gB_getD, h2, h3]
        rw [i64_in (by omega) (by omega)]
        refine ⟨by omega, by omega, k + 1, ⟨by omega, fun i hi e => ?_⟩, by omega, Wk.mk (by simp [get_cons]) ⟨[], rfl⟩ (Nat.le_refl _)⟩
        by_cases e2 : i = k
        · rw [e2]; exact h3
        · exact hp i (by omega) e
  · simp only [go_sem,Nat.reduceEqDiff,Nat.reduceAdd,Nat.reduceMul,↓reduceIte,↓dreduceIte,reduceCtorEq,Nat.reduceLeDiff,Nat.reduceLT,Nat.reduceSub,Int.reduceToNat,Int.reduceLE,Int.reduceLT, eq_false (show ¬ (k : Int) < a.length by omega)]
    refine ⟨_, Frz.pure rfl, ?_⟩
    rw [show withinB a b = true from decide_eq_true fun i hi => hp i (by omega)]

theorem rlast_c (b : Bk) (l : List Bool) (hl : l.length ≤ 100000) (hv : b.e = 2 → 0 ≤ b.v ∧ b.v < l.length) : ContractN Try.prog 44 [bkA b, bools l] (fun r => r = bools (lastL b l)) := by
  refine ContractN.of_call (VCall.of_body hmix f_scref27_last (by simp) ?_)
  have hmx : (200000 : Nat) ≤ maxLen := by decide
  by_cases h : b.e = 2
  · obtain ⟨v0, v1⟩ := hv h
    simp only [go_sem,Nat.reduceEqDiff,Nat.reduceAdd,Nat.reduceMul,↓reduceIte,↓dreduceIte,reduceCtorEq,Nat.reduceLeDiff,Nat.reduceLT,Nat.reduceSub,Int.reduceToNat,Int.reduceLE,Int.reduceLT, c_scref27_last, cells_B, set_B, eq_true h, one_imm, one_ref, List.length_map]
    repeat ((with_reducible refine And.intro ?_ ?_); · first | exact laid_B l | omega | exact Nat.le_trans hl (by decide))
    exact ⟨_, frzN_bools rfl (by simp), by rw [lastL, if_pos h]⟩
  · simp only [go_sem,Nat.reduceEqDiff,Nat.reduceAdd,Nat.reduceMul,↓reduceIte,↓dreduceIte,reduceCtorEq,Nat.reduceLeDiff,Nat.reduceLT,Nat.reduceSub,Int.reduceToNat,Int.reduceLE,Int.reduceLT, c_scref27_last, cells_B, set_B, eq_false h, one_imm, one_ref, List.length_map]
    repeat ((with_reducible refine And.intro ?_ ?_); · first | exact laid_B l | omega | exact Nat.le_trans hl (by decide))
    exact ⟨_, frzN_bools rfl (by simp), by rw [lastL, if_neg h]⟩

theorem useL_take (l : List Bool) (us : List Int) {k : Nat} (hk : k < us.length) : useL l (us.take (k + 1)) = (useL l (us.take k)).set (us.getD k default).toNat true := by
  have e : us.take (k + 1) = us.take k ++ [us.getD k default] := by rw [List.take_add_one]; simp [List.getD, List.getElem?_eq_getElem hk]
  rw [e]; simp [useL]
theorem rback_c (t : Tac) (l : List Bool) (hl : l.length ≤ 100000) (hr : RegT t l.length) : ContractN Try.prog 45 [tacA t, bools l] (fun r => r = bools (backL t l)) := by
  refine ContractN.of_call (VCall.of_body hmix f_scref27_back (by simp) ?_)
  have hmx : (200000 : Nat) ≤ maxLen := by decide
  have hu2 := usesL_len t
  have done_ : ∀ (env : List (Nat × AV)) (H : List VObj), True := fun _ _ => trivial
  have hcl : (clearL t l).length = l.length := clearL_len t l
  have hloop : ∀ (x : Nat) (us : List Int), useL (clearL t l) (us.take 0) = clearL t l := fun _ _ => rfl
  by_cases h : 0 ≤ setsL t
  all_goals
    have hs1 : 0 ≤ setsL t → setsL t < l.length := fun h => by rcases hr.sets with e | e <;> omega
    have hce : 0 ≤ setsL t → l.set (setsL t).toNat false = clearL t l := fun h => (if_pos h).symm
    have hce' : ¬ 0 ≤ setsL t → l = clearL t l := fun h => (if_neg h).symm
    simp only [go_sem,Nat.reduceEqDiff,Nat.reduceAdd,Nat.reduceMul,↓reduceIte,↓dreduceIte,reduceCtorEq,Nat.reduceLeDiff,Nat.reduceLT,Nat.reduceSub,Int.reduceToNat,Int.reduceLE,Int.reduceLT, c_scref27_back, cells_B, one_imm, one_ref, List.length_map]
    repeat ((with_reducible refine And.intro ?_ ?_); · first | exact laid_B l | omega | exact Nat.le_trans hl (by decide))
    refine VCall.of_contract (refsets_c t) (SleL.pure rfl) fun r hr' => ?_
    subst hr'
    first
    | simp only [go_sem,Nat.reduceEqDiff,Nat.reduceAdd,Nat.reduceMul,↓reduceIte,↓dreduceIte,reduceCtorEq,Nat.reduceLeDiff,Nat.reduceLT,Nat.reduceSub,Int.reduceToNat,Int.reduceLE,Int.reduceLT, cells_B, one_imm, one_ref, List.length_map, eq_true h, set_B, hce h]
    | simp only [go_sem,Nat.reduceEqDiff,Nat.reduceAdd,Nat.reduceMul,↓reduceIte,↓dreduceIte,reduceCtorEq,Nat.reduceLeDiff,Nat.reduceLT,Nat.reduceSub,Int.reduceToNat,Int.reduceLE,Int.reduceLT, cells_B, one_imm, one_ref, List.length_map, eq_false h, ← hce' h]
    repeat ((with_reducible refine And.intro ?_ ?_); · first | exact h | exact hs1 h | (have := hs1 h; omega) | omega)
    refine VCall.of_contractN (refuses_c t) ?_ fun r hr' => ?_
    · exact ⟨_, _, rfl, Frz.pure rfl, rfl⟩
    subst hr'
    simp only [go_sem,Nat.reduceEqDiff,Nat.reduceAdd,Nat.reduceMul,↓reduceIte,↓dreduceIte,reduceCtorEq,Nat.reduceLeDiff,Nat.reduceLT,Nat.reduceSub,Int.reduceToNat,Int.reduceLE,Int.reduceLT, one_imm, one_ref, List.length_map]
    refine VW_loop (fun k : Nat => ⟨[(5, .ref 1 2 0 l.length), (7, ints (usesL t)), (8, I k)], [⟨0, 47, 1, tacL t⟩, ⟨2, 4, 1, (useL (clearL t l) ((usesL t).take k)).map B⟩], 3⟩)
      (fun k => k ≤ (usesL t).length) (fun k => (usesL t).length - k) 0 (Wk.mk (by simp [get_cons]) ⟨[], by first | rfl | (simp [useL, ← hce' h])⟩ (Nat.le_refl _)) (by omega) ?_
    intro k hk
    by_cases hlt : k < (usesL t).length
    · have hu := hr.1 _ (mem_getD hlt)
      simp only [go_sem,Nat.reduceEqDiff,Nat.reduceAdd,Nat.reduceMul,↓reduceIte,↓dreduceIte,reduceCtorEq,Nat.reduceLeDiff,Nat.reduceLT,Nat.reduceSub,Int.reduceToNat,Int.reduceLE,Int.reduceLT, one_imm, one_ref, List.length_map, eq_true (show (k : Int) < (usesL t).length by omega), set_B, ← useL_take _ _ hlt, useL_len, hcl]
      repeat ((with_reducible refine And.intro ?_ ?_); · omega)
      rw [i64_in (by omega) (by omega)]
      exact ⟨k + 1, by omega, by omega, Wk.mk (by simp [get_cons]) ⟨[], rfl⟩ (Nat.le_refl _)⟩
    · simp only [go_sem,Nat.reduceEqDiff,Nat.reduceAdd,Nat.reduceMul,↓reduceIte,↓dreduceIte,reduceCtorEq,Nat.reduceLeDiff,Nat.reduceLT,Nat.reduceSub,Int.reduceToNat,Int.reduceLE,Int.reduceLT, one_imm, one_ref, List.length_map, eq_false (show ¬ (k : Int) < (usesL t).length by omega)]
      refine ⟨_, frzN_bools rfl (by simp [useL_len, hcl]), ?_⟩
      rw [List.take_of_length_le (by omega)]; rfl

theorem drop_back (ins : List Tac) (l : List Bool) {k : Nat} (hk : k < ins.length) : thruL (ins.drop k) l = backL (ins.getD k default) (thruL (ins.drop (k + 1)) l) := by
  have e : ins.getD k default = ins[k] := by simp [List.getD, List.getElem?_eq_getElem hk]
  rw [e]
  conv => lhs; rw [List.drop_eq_getElem_cons hk]
  rfl
theorem rahead_v (b : Bk) (l : List Bool) (x : AV) (H : List VObj) (nx : Nat) (hl : l.length ≤ 100000) (hn : b.ins.length ≤ 1000000) (hv : b.e = 2 → 0 ≤ b.v ∧ b.v < l.length) (hr : ∀ t ∈ b.ins, RegT t l.length)
    (hx : ∀ R nx', Frz 0 (H ++ R) nx' x (bools l)) (C : AV → List VObj → Nat → Prop) (hC : ∀ R nx', C (bools (aheadL b l)) (H ++ R) nx') : VCall Try.prog 35 [bkA b, x] H nx C := by
  refine VCall.of_body hmix f_scref27_ahead (by simp) ?_
  have hg : ∀ (o : VObj), (H ++ [o])[H.length]? = some o := fun o => by simp
  simp only [go_sem,Nat.reduceEqDiff,Nat.reduceAdd,Nat.reduceMul,↓reduceIte,↓dreduceIte,reduceCtorEq,Nat.reduceLeDiff,Nat.reduceLT,Nat.reduceSub,Int.reduceToNat,Int.reduceLE,Int.reduceLT, c_scref27_ahead, one_imm, one_ref, hg]
  refine VCall.of_contractN (rlast_c b l hl hv) ?_ fun r hr' => ?_
  · exact ⟨_, _, rfl, Frz.pure rfl, _, _, rfl, hx _ _, rfl⟩
  subst hr'
  simp only [go_sem,Nat.reduceEqDiff,Nat.reduceAdd,Nat.reduceMul,↓reduceIte,↓dreduceIte,reduceCtorEq,Nat.reduceLeDiff,Nat.reduceLT,Nat.reduceSub,Int.reduceToNat,Int.reduceLE,Int.reduceLT, one_imm, one_ref, hg, List.length_map]
  rw [i64_in (by omega) (by omega)]
  refine VW_loop (fun k : Nat => ⟨[(2, .ptr H.length nx 0), (5, bools (thruL (b.ins.drop (b.ins.length - k)) (lastL b l))), (6, I ((b.ins.length : Int) - 1 - k))], H ++ [⟨nx, 42, 1, bkL b⟩], nx + 1⟩)
    (fun k => k ≤ b.ins.length) (fun k => b.ins.length - k) 0 (Wk.mk (by simp [get_cons, thruL]) ⟨[], by simp⟩ (Nat.le_refl _)) (by omega) ?_
  intro k hk
  by_cases hlt : k < b.ins.length
  · simp only [go_sem,Nat.reduceEqDiff,Nat.reduceAdd,Nat.reduceMul,↓reduceIte,↓dreduceIte,reduceCtorEq,Nat.reduceLeDiff,Nat.reduceLT,Nat.reduceSub,Int.reduceToNat,Int.reduceLE,Int.reduceLT, one_imm, one_ref, hg, List.length_map, eq_true (show (0 : Int) ≤ (b.ins.length : Int) - 1 - k by omega)]
    refine ⟨by omega, ?_⟩
    have e1 : ((b.ins.length : Int) - 1 - k).toNat = b.ins.length - k - 1 := by omega
    rw [e1]
    refine VCall.of_contractN (rback_c (b.ins.getD (b.ins.length - k - 1) default) (thruL (b.ins.drop (b.ins.length - k)) (lastL b l)) (by rw [thruL_len, lastL_len]; exact hl) (by rw [thruL_len, lastL_len]; exact hr _ (mem_getD (show b.ins.length - k - 1 < b.ins.length by omega)))) ?_ fun r hr' => ?_
    · exact ⟨_, _, rfl, Frz.pure rfl, _, _, rfl, Frz.pure rfl, rfl⟩
    subst hr'
    simp only [go_sem,Nat.reduceEqDiff,Nat.reduceAdd,Nat.reduceMul,↓reduceIte,↓dreduceIte,reduceCtorEq,Nat.reduceLeDiff,Nat.reduceLT,Nat.reduceSub,Int.reduceToNat,Int.reduceLE,Int.reduceLT, one_imm, one_ref, hg, List.length_map]
    rw [i64_in (by omega) (by omega)]
    have e3 : backL (b.ins.getD (b.ins.length - k - 1) default) (thruL (b.ins.drop (b.ins.length - k)) (lastL b l)) = thruL (b.ins.drop (b.ins.length - (k + 1))) (lastL b l) := by
      rw [show b.ins.length - (k + 1) = b.ins.length - k - 1 by omega, drop_back _ _ (show b.ins.length - k - 1 < b.ins.length by omega), show b.ins.length - k - 1 + 1 = b.ins.length - k by omega]
    rw [e3, show (b.ins.length : Int) - 1 - k - 1 = (b.ins.length : Int) - 1 - ((k + 1 : Nat) : Int) by omega]
    exact ⟨k + 1, by omega, by omega, Wk.mk (by simp [get_cons]) ⟨[], by simp⟩ (Nat.le_refl _)⟩
  · simp only [go_sem,Nat.reduceEqDiff,Nat.reduceAdd,Nat.reduceMul,↓reduceIte,↓dreduceIte,reduceCtorEq,Nat.reduceLeDiff,Nat.reduceLT,Nat.reduceSub,Int.reduceToNat,Int.reduceLE,Int.reduceLT, one_imm, one_ref, hg, List.length_map, eq_false (show ¬ (0 : Int) ≤ (b.ins.length : Int) - 1 - k by omega)]
    have := hC [⟨nx, 42, 1, bkL b⟩] (nx + 1)
    rw [show b.ins.length - k = 0 by omega, List.drop_zero]
    exact this
theorem rahead_c (b : Bk) (l : List Bool) (hl : l.length ≤ 100000) (hn : b.ins.length ≤ 1000000) (hv : b.e = 2 → 0 ≤ b.v ∧ b.v < l.length) (hr : ∀ t ∈ b.ins, RegT t l.length) :
    Contract Try.prog 35 [bkA b, bools l] (fun r => r = bools (aheadL b l)) :=
  Contract.of_call (rahead_v b l (bools l) [] 0 hl hn hv hr (fun _ _ => Frz.pure rfl) _ fun R nx' => ⟨_, Frz.pure rfl, rfl⟩)

theorem rsized_c (m : List (List Bool)) (n r : Int) (hm : m.length ≤ 140737488355328) : Contract Try.prog 42 [rowsA m, I n, I r] (fun x => x = B (sizedL m n r)) := by
  refine Contract.of_call (VCall.of_body hmix f_scref27_sized (by simp) ?_)
  by_cases h : (m.length : Int) = n
  · subst h
    simp only [go_sem,Nat.reduceEqDiff,Nat.reduceAdd,Nat.reduceMul,↓reduceIte,↓dreduceIte,reduceCtorEq,Nat.reduceLeDiff,Nat.reduceLT,Nat.reduceSub,Int.reduceToNat,Int.reduceLE,Int.reduceLT, c_scref27_sized, one_imm, List.length_map]
    refine VW_loop (fun k : Nat => ⟨[(0, rowsA m), (1, I m.length), (2, I r), (7, I k)], [], 0⟩) (fun k => k ≤ m.length ∧ (m.take k).all (fun l => decide ((l.length : Int) = r)) = true) (fun k => m.length - k) 0 (Wk.mk (by simp [get_cons]) ⟨[], rfl⟩ (Nat.le_refl _)) ⟨by omega, rfl⟩ ?_
    rintro k ⟨hk, hp⟩
    by_cases h1 : k < m.length
    · by_cases h2 : ((m.getD k default).length : Int) = r
      · simp only [go_sem,Nat.reduceEqDiff,Nat.reduceAdd,Nat.reduceMul,↓reduceIte,↓dreduceIte,reduceCtorEq,Nat.reduceLeDiff,Nat.reduceLT,Nat.reduceSub,Int.reduceToNat,Int.reduceLE,Int.reduceLT, one_imm, List.length_map, eq_true (show (k : Int) < m.length by omega), eq_true h2]
        rw [i64_in (by omega) (by omega)]
        exact ⟨by omega, k + 1, ⟨by omega, all_step h1 hp (decide_eq_true h2)⟩, by omega, Wk.mk (by simp [get_cons]) ⟨[], rfl⟩ (Nat.le_refl _)⟩
      · simp only [go_sem,Nat.reduceEqDiff,Nat.reduceAdd,Nat.reduceMul,↓reduceIte,↓dreduceIte,reduceCtorEq,Nat.reduceLeDiff,Nat.reduceLT,Nat.reduceSub,Int.reduceToNat,Int.reduceLE,Int.reduceLT, one_imm, List.length_map, eq_true (show (k : Int) < m.length by omega), eq_false h2]
        refine ⟨by omega, _, Frz.pure rfl, ?_⟩
        unfold sizedL
        rw [all_stop h1 (decide_eq_false h2)]; simp
    · simp only [go_sem,Nat.reduceEqDiff,Nat.reduceAdd,Nat.reduceMul,↓reduceIte,↓dreduceIte,reduceCtorEq,Nat.reduceLeDiff,Nat.reduceLT,Nat.reduceSub,Int.reduceToNat,Int.reduceLE,Int.reduceLT, one_imm, List.length_map, eq_false (show ¬ (k : Int) < m.length by omega)]
      refine ⟨_, Frz.pure rfl, ?_⟩
      unfold sizedL
      rw [all_end (by omega) hp]; simp
  · simp only [go_sem,Nat.reduceEqDiff,Nat.reduceAdd,Nat.reduceMul,↓reduceIte,↓dreduceIte,reduceCtorEq,Nat.reduceLeDiff,Nat.reduceLT,Nat.reduceSub,Int.reduceToNat,Int.reduceLE,Int.reduceLT, c_scref27_sized, one_imm, List.length_map, eq_false h]
    refine ⟨_, Frz.pure rfl, ?_⟩
    unfold sizedL
    rw [decide_eq_false h]; rfl
theorem rSized_c (f : BF) (L : LD) (h1 : L.inn.length ≤ 140737488355328) (h2 : L.out.length ≤ 140737488355328) : Contract Try.prog 20 [bfA f, liveA L] (fun x => x = B (sizedB f L)) := by
  refine Contract.of_call (VCall.of_body hmix f_scref27_Sized (by simp) ?_)
  simp only [go_sem,Nat.reduceEqDiff,Nat.reduceAdd,Nat.reduceMul,↓reduceIte,↓dreduceIte,reduceCtorEq,Nat.reduceLeDiff,Nat.reduceLT,Nat.reduceSub,Int.reduceToNat,Int.reduceLE,Int.reduceLT, c_scref27_Sized, one_imm, List.length_map]
  refine VCall.of_contract (rsized_c L.inn f.bks.length f.regs h1) (SleL.pure rfl) fun x hx => ?_
  subst hx
  cases h : sizedL L.inn f.bks.length f.regs
  · simp only [go_sem,Nat.reduceEqDiff,Nat.reduceAdd,Nat.reduceMul,↓reduceIte,↓dreduceIte,reduceCtorEq,Nat.reduceLeDiff,Nat.reduceLT,Nat.reduceSub,Int.reduceToNat,Int.reduceLE,Int.reduceLT, one_imm, List.length_map]
    exact ⟨_, Frz.pure rfl, by simp [sizedB, h]⟩
  · simp only [go_sem,Nat.reduceEqDiff,Nat.reduceAdd,Nat.reduceMul,↓reduceIte,↓dreduceIte,reduceCtorEq,Nat.reduceLeDiff,Nat.reduceLT,Nat.reduceSub,Int.reduceToNat,Int.reduceLE,Int.reduceLT, one_imm, List.length_map]
    refine VCall.of_contract (rsized_c L.out f.bks.length f.regs h2) (SleL.pure rfl) fun x hx => ?_
    subst hx
    simp only [go_sem,Nat.reduceEqDiff,Nat.reduceAdd,Nat.reduceMul,↓reduceIte,↓dreduceIte,reduceCtorEq,Nat.reduceLeDiff,Nat.reduceLT,Nat.reduceSub,Int.reduceToNat,Int.reduceLE,Int.reduceLT, one_imm, List.length_map]
    exact ⟨_, Frz.pure rfl, by simp [sizedB, h]⟩
end Go.Proofs.Ytjdeediehmhdoaa
namespace Go.Proofs.Ytjdeediehmhdoaa
set_option linter.unusedSimpArgs false
set_option linter.unusedVariables false
open Go.V

/-- The same as a cell of the object where it is gathered. -/
def nxtv (b : Bk) : AV := if b.e = 1 then ints [b.to] else if b.e = 2 then ints [b.to, b.el] else nilv
theorem nxtv_one (b : Bk) : (nxtv b).one = true := by unfold nxtv; (split; rfl; split <;> rfl)
theorem nxtv_frz (n : Nat) (H : List VObj) (nx : Nat) (b : Bk) : Frz n H nx (nxtv b) (ints (nxt b)) := by
  unfold nxtv nxt
  split
  · exact Frz.pure rfl
  · split
    · exact Frz.pure rfl
    · exact Frz.nil 1

theorem next_c (f : BF) (hb : f.bks.length ≤ 500) : Contract Try.prog 38 [bfA f] (fun x => x = .imm 1 (f.bks.map fun b => ints (nxt b))) := by
  obtain ⟨r, bs⟩ := f
  simp only at hb ⊢
  refine Contract.of_call (VCall.of_body hmix f_flow_Next (by simp) ?_)
  simp only [go_sem,Nat.reduceEqDiff,Nat.reduceAdd,Nat.reduceMul,↓reduceIte,↓dreduceIte,reduceCtorEq,Nat.reduceLeDiff,Nat.reduceLT,Nat.reduceSub,Int.reduceToNat,Int.reduceLE,Int.reduceLT, c_flow_Next]
  repeat (refine And.intro (by omega) ?_)
  refine VW_loop (fun q : Nat × Nat => ⟨[(1, .ptr 0 0 0), (3, .ref 1 1 0 bs.length), (11, .imm 5 (bs.map bkA)), (12, I bs.length), (13, I q.1)],
    [⟨0, 24, 1, [I r, .imm 5 (bs.map bkA)]⟩, ⟨1, 43, 1, filled nxtv nilv bs q.1⟩], q.2⟩) (fun q => q.1 ≤ bs.length ∧ 2 ≤ q.2) (fun q => bs.length - q.1) (0, 2)
    (Wk.mk (by simp [get_cons]) ⟨[], by simp [flat_rep, filled_zero]⟩ (Nat.le_refl _)) ⟨by omega, by omega⟩ ?_
  rintro ⟨k, nx⟩ ⟨hk, hnx⟩
  simp only [go_sem,Nat.reduceEqDiff,Nat.reduceAdd,Nat.reduceMul,↓reduceIte,↓dreduceIte,reduceCtorEq,Nat.reduceLeDiff,Nat.reduceLT,Nat.reduceSub,Int.reduceToNat,Int.reduceLE,Int.reduceLT]
  refine ⟨fun h => ?_, fun h => ?_⟩
  · have hl := filled_length nxtv nilv bs (show k ≤ bs.length by omega)
    rw [i64_in (by omega) (by omega)]
    have hs := filled_set nxtv nilv bs (show k < bs.length by omega)
    have hsk := filled_skip nxtv nilv bs (show k < bs.length by omega)
    generalize hx : bs.getD k default = b at *
    refine ⟨by omega, fun h1 => ?_, fun h1 => ⟨fun h2 => ?_, fun h2 => ?_⟩⟩
    · repeat (refine And.intro (by omega) ?_)
      refine ⟨(k + 1, nx + 1 + 1), ⟨by simp; omega, by simp⟩, by simp; omega, Wk.give (by simp [get_cons]) ?_ (Nat.le_refl _)⟩
      simp only [OW, CW.refl, Nat.reduceEqDiff, false_implies, true_and, and_true]
      rw [← hs, show nxtv b = ints [b.to] by simp [nxtv, h1]]
      exact CW.set (frz_ints (by simp) rfl rfl)
    · have h1 : b.e ≠ 1 := by simpa using h1
      repeat (refine And.intro (by omega) ?_)
      refine ⟨(k + 1, nx + 1 + 1), ⟨by simp; omega, by simp⟩, by simp; omega, Wk.give (by simp [get_cons]) ?_ (Nat.le_refl _)⟩
      simp only [OW, CW.refl, Nat.reduceEqDiff, false_implies, true_and, and_true]
      rw [← hs, show nxtv b = ints [b.to, b.el] by simp [nxtv, h2]]
      exact CW.set (frz_ints (by simp) rfl rfl)
    · refine ⟨(k + 1, nx + 1), ⟨by simp; omega, by simp; omega⟩, by simp; omega, Wk.give (by simp [get_cons]) ?_ (Nat.le_refl _)⟩
      simp only [OW, CW.refl, Nat.reduceEqDiff, false_implies, true_and, and_true]
      rw [← hsk (by (try simp at h1 h2); simp [nxtv, h1, h2])]
      exact CW.refl _
  · refine ⟨_, ?_, rfl⟩
    rw [filled_all nxtv nilv bs (by omega)]
    exact frz_map (by omega) rfl rfl nxtv_one (fun b _ => nxtv_frz _ _ _ b)

theorem refnext_c (f : BF) (hb : f.bks.length ≤ 500) : Contract Try.prog 25 [bfA f] (fun x => x = .imm 1 (f.bks.map fun b => ints (nxt b))) := by
  obtain ⟨r, bs⟩ := f
  simp only at hb ⊢
  refine Contract.of_call (VCall.of_body hmix f_scref26_Next (by simp) ?_)
  simp only [go_sem,Nat.reduceEqDiff,Nat.reduceAdd,Nat.reduceMul,↓reduceIte,↓dreduceIte,reduceCtorEq,Nat.reduceLeDiff,Nat.reduceLT,Nat.reduceSub,Int.reduceToNat,Int.reduceLE,Int.reduceLT, c_scref26_Next]
  repeat (refine And.intro (by omega) ?_)
  refine VW_loop (fun q : Nat × Nat => ⟨[(1, .ptr 0 0 0), (3, .ref 1 1 0 bs.length), (4, I q.1)],
    [⟨0, 24, 1, [I r, .imm 5 (bs.map bkA)]⟩, ⟨1, 43, 1, filled nxtv nilv bs q.1⟩], q.2⟩) (fun q => q.1 ≤ bs.length ∧ 2 ≤ q.2) (fun q => bs.length - q.1) (0, 2)
    (Wk.mk (by simp [get_cons]) ⟨[], by simp [flat_rep, filled_zero]⟩ (Nat.le_refl _)) ⟨by omega, by omega⟩ ?_
  rintro ⟨k, nx⟩ ⟨hk, hnx⟩
  simp only [go_sem,Nat.reduceEqDiff,Nat.reduceAdd,Nat.reduceMul,↓reduceIte,↓dreduceIte,reduceCtorEq,Nat.reduceLeDiff,Nat.reduceLT,Nat.reduceSub,Int.reduceToNat,Int.reduceLE,Int.reduceLT]
  refine ⟨fun h => ?_, fun h => ?_⟩
  · have hl := filled_length nxtv nilv bs (show k ≤ bs.length by omega)
    rw [i64_in (by omega) (by omega)]
    have hs := filled_set nxtv nilv bs (show k < bs.length by omega)
    have hsk := filled_skip nxtv nilv bs (show k < bs.length by omega)
    generalize hx : bs.getD k default = b at *
    refine ⟨by omega, fun h1 => ?_, fun h1 => ⟨fun h2 => ?_, fun h2 => ?_⟩⟩
    · repeat (refine And.intro (by omega) ?_)
      intro _
      refine ⟨(k + 1, nx + 1 + 1), ⟨by simp; omega, by simp⟩, by simp; omega, Wk.give (by simp [get_cons]) ?_ (Nat.le_refl _)⟩
      simp only [OW, CW.refl, Nat.reduceEqDiff, false_implies, true_and, and_true]
      rw [← hs, show nxtv b = ints [b.to] by simp [nxtv, h1]]
      exact CW.set (frz_ints (by simp) rfl rfl)
    · have h1 : b.e ≠ 1 := by simpa using h1
      repeat (refine And.intro (by omega) ?_)
      refine ⟨(k + 1, nx + 1 + 1), ⟨by simp; omega, by simp⟩, by simp; omega, Wk.give (by simp [get_cons]) ?_ (Nat.le_refl _)⟩
      simp only [OW, CW.refl, Nat.reduceEqDiff, false_implies, true_and, and_true]
      rw [← hs, show nxtv b = ints [b.to, b.el] by simp [nxtv, h2]]
      exact CW.set (frz_ints (by simp) rfl rfl)
    · refine ⟨(k + 1, nx + 1), ⟨by simp; omega, by simp; omega⟩, by simp; omega, Wk.give (by simp [get_cons]) ?_ (Nat.le_refl _)⟩
      simp only [OW, CW.refl, Nat.reduceEqDiff, false_implies, true_and, and_true]
      rw [← hsk (by (try simp at h1 h2); simp [nxtv, h1, h2])]
      exact CW.refl _
  · refine ⟨_, ?_, rfl⟩
    rw [filled_all nxtv nilv bs (by omega)]
    exact frz_map (by omega) rfl rfl nxtv_one (fun b _ => nxtv_frz _ _ _ b)

end Go.Proofs.Ytjdeediehmhdoaa
namespace Go.Proofs.Ytjdeediehmhdoaa
set_option linter.unusedSimpArgs false
set_option linter.unusedVariables false
set_option maxRecDepth 10000
open Go.V

theorem within_c (a b : List Bool) (h : a.length ≤ b.length) (ha : a.length ≤ 140737488355328) : Contract Try.prog 39 [bools a, bools b] (fun r => r = B (withinB a b)) := by
  refine Contract.of_call (VCall.of_body hmix f_live_within (by simp) ?_)
  simp only [go_sem,Nat.reduceEqDiff,Nat.reduceAdd,Nat.reduceMul,↓reduceIte,↓dreduceIte,reduceCtorEq,Nat.reduceLeDiff,Nat.reduceLT,Nat.reduceSub,Int.reduceToNat,Int.reduceLE,Int.reduceLT, c_live_within]
  refine VW_loop (fun k : Nat => ⟨[(0, bools a), (1, bools b), (7, bools a), (8, I a.length), (9, I k)], [], 0⟩) (fun k => k ≤ a.length ∧ ∀ i < k, gB a i = true → gB b i = true) (fun k => a.length - k) 0 (Wk.mk (by simp [get_cons]) ⟨[], rfl⟩ (Nat.le_refl _)) ⟨by omega, by omega⟩ ?_
  rintro k ⟨hk, hp⟩
  by_cases h1 : k < a.length
  · cases h2 : gB a k
    · simp only [go_sem,Nat.reduceEqDiff,Nat.reduceAdd,Nat.reduceMul,↓reduceIte,↓dreduceIte,reduceCtorEq,Nat.reduceLeDiff,Nat.reduceLT,Nat.reduceSub,Int.reduceToNat,Int.reduceLE,Int.reduceLT, eq_true (show (k : Int) < a.length by omega), gB_getD, h2]
      rw [i64_in (by omega) (by omega)]
      refine ⟨by omega, k + 1, ⟨by omega, fun i hi e => ?_⟩, by omega, Wk.mk (by simp [get_cons]) ⟨[], rfl⟩ (Nat.le_refl _)⟩
      by_cases e2 : i = k
      · rw [e2, h2] at e; cases e
      · exact hp i (by omega) e
    · cases h3 : gB b k
      · simp only [go_sem,Nat.reduceEqDiff,Nat.reduceAdd,Nat.reduceMul,↓reduceIte,↓dreduceIte,reduceCtorEq,Nat.reduceLeDiff,Nat.reduceLT,Nat.reduceSub,Int.reduceToNat,Int.reduceLE,Int.reduceLT, eq_true (show (k : Int) < a.length by omega), gB_getD, h2, h3]
        refine ⟨by omega, by omega, _, Frz.pure rfl, ?_⟩
        rw [show withinB a b = false from decide_eq_false fun e => by have := e k h1 h2; rw [h3] at this; cases this]
      · simp only [go_sem,Nat.reduceEqDiff,Nat.reduceAdd,Nat.reduceMul,↓reduceIte,↓dreduceIte,reduceCtorEq,Nat.reduceLeDiff,Nat.reduceLT,Nat.reduceSub,Int.reduceToNat,Int.reduceLE,Int.reduceLT, eq_true (show (k : Int) < a.length by omega), gB_getD, h2, h3]
        rw [i64_in (by omega) (by omega)]
        refine ⟨by omega, by omega, k + 1, ⟨by omega, fun i hi e => ?_⟩, by omega, Wk.mk (by simp [get_cons]) ⟨[], rfl⟩ (Nat.le_refl _)⟩
        by_cases e2 : i = k
        · rw [e2]; exact h3
        · exact hp i (by omega) e
  · simp only [go_sem,Nat.reduceEqDiff,Nat.reduceAdd,Nat.reduceMul,↓reduceIte,↓dreduceIte,reduceCtorEq,Nat.reduceLeDiff,Nat.reduceLT,Nat.reduceSub,Int.reduceToNat,Int.reduceLE,Int.reduceLT, eq_false (show ¬ (k : Int) < a.length by omega)]
    refine ⟨_, Frz.pure rfl, ?_⟩
    rw [show withinB a b = true from decide_eq_true fun i hi => hp i (by omega)]

theorem fits_c (f : BF) (m : List (List Bool)) (hm : m.length ≤ 140737488355328) : Contract Try.prog 37 [bfA f, rowsA m] (fun x => x = B (sizedL m f.bks.length f.regs)) := by
  refine Contract.of_call (VCall.of_body hmix f_live_fits (by simp) ?_)
  by_cases h : (m.length : Int) = f.bks.length
  · simp only [go_sem,Nat.reduceEqDiff,Nat.reduceAdd,Nat.reduceMul,↓reduceIte,↓dreduceIte,reduceCtorEq,Nat.reduceLeDiff,Nat.reduceLT,Nat.reduceSub,Int.reduceToNat,Int.reduceLE,Int.reduceLT, c_live_fits, one_imm, List.length_map, eq_true h]
    refine VW_loop (fun k : Nat => ⟨[(2, .ptr 0 0 0), (13, rowsA m), (14, I m.length), (15, I k)], [⟨0, 24, 1, [I f.regs, bksA f.bks]⟩], 1⟩) (fun k => k ≤ m.length ∧ (m.take k).all (fun l => decide ((l.length : Int) = f.regs)) = true) (fun k => m.length - k) 0 (Wk.mk (by simp [get_cons]) ⟨[], rfl⟩ (Nat.le_refl _)) ⟨by omega, rfl⟩ ?_
    rintro k ⟨hk, hp⟩
    by_cases h1 : k < m.length
    · by_cases h2 : ((m.getD k default).length : Int) = f.regs
      · simp only [go_sem,Nat.reduceEqDiff,Nat.reduceAdd,Nat.reduceMul,↓reduceIte,↓dreduceIte,reduceCtorEq,Nat.reduceLeDiff,Nat.reduceLT,Nat.reduceSub,Int.reduceToNat,Int.reduceLE,Int.reduceLT, one_imm, List.length_map, eq_true (show (k : Int) < m.length by omega), eq_true h2]
        rw [i64_in (by omega) (by omega)]
        exact ⟨by omega, k + 1, ⟨by omega, all_step h1 hp (decide_eq_true h2)⟩, by omega, Wk.mk (by simp [get_cons]) ⟨[], rfl⟩ (Nat.le_refl _)⟩
      · simp only [go_sem,Nat.reduceEqDiff,Nat.reduceAdd,Nat.reduceMul,↓reduceIte,↓dreduceIte,reduceCtorEq,Nat.reduceLeDiff,Nat.reduceLT,Nat.reduceSub,Int.reduceToNat,Int.reduceLE,Int.reduceLT, one_imm, List.length_map, eq_true (show (k : Int) < m.length by omega), eq_false h2]
        refine ⟨by omega, _, Frz.pure rfl, ?_⟩
        unfold sizedL
        rw [all_stop h1 (decide_eq_false h2)]; simp
    · simp only [go_sem,Nat.reduceEqDiff,Nat.reduceAdd,Nat.reduceMul,↓reduceIte,↓dreduceIte,reduceCtorEq,Nat.reduceLeDiff,Nat.reduceLT,Nat.reduceSub,Int.reduceToNat,Int.reduceLE,Int.reduceLT, one_imm, List.length_map, eq_false (show ¬ (k : Int) < m.length by omega)]
      refine ⟨_, Frz.pure rfl, ?_⟩
      unfold sizedL
      rw [all_end (by omega) hp]; simp [h]
  · simp only [go_sem,Nat.reduceEqDiff,Nat.reduceAdd,Nat.reduceMul,↓reduceIte,↓dreduceIte,reduceCtorEq,Nat.reduceLeDiff,Nat.reduceLT,Nat.reduceSub,Int.reduceToNat,Int.reduceLE,Int.reduceLT, c_live_fits, one_imm, List.length_map, eq_false h]
    refine ⟨_, Frz.pure rfl, ?_⟩
    unfold sizedL
    rw [decide_eq_false h]; rfl

theorem take_ext {α : Type} [Inhabited α] {a b : List α} {k : Nat} (ha : k < a.length) (hb : k < b.length) (h : a.take k = b.take k) (e : a.getD k default = b.getD k default) : a.take (k + 1) = b.take (k + 1) := by
  simp only [List.getD, List.getElem?_eq_getElem ha, List.getElem?_eq_getElem hb, Option.getD_some] at e
  rw [List.take_add_one, List.take_add_one, h, List.getElem?_eq_getElem ha, List.getElem?_eq_getElem hb, e]
theorem take_all {α : Type} {a b : List α} {k : Nat} (ha : a.length ≤ k) (hb : b.length ≤ k) (h : a.take k = b.take k) : a = b := by
  rwa [List.take_of_length_le ha, List.take_of_length_le hb] at h

theorem same_c (a b : List (List Bool)) (ha : a.length ≤ 140737488355328) (hr : ∀ l ∈ a, l.length ≤ 140737488355328) : Contract Try.prog 41 [rowsA a, rowsA b] (fun r => r = B (decide (a = b))) := by
  refine Contract.of_call (VCall.of_body hmix f_live_same (by simp) ?_)
  by_cases h : (a.length : Int) = b.length
  · have hl : a.length = b.length := by omega
    simp only [go_sem,Nat.reduceEqDiff,Nat.reduceAdd,Nat.reduceMul,↓reduceIte,↓dreduceIte,reduceCtorEq,Nat.reduceLeDiff,Nat.reduceLT,Nat.reduceSub,Int.reduceToNat,Int.reduceLE,Int.reduceLT, c_live_same, one_imm, List.length_map, eq_true h]
    refine VW_loop (fun k : Nat => ⟨[(0, rowsA a), (1, rowsA b), (14, rowsA a), (15, I a.length), (16, I k)], [], 0⟩) (fun k => k ≤ a.length ∧ a.take k = b.take k) (fun k => a.length - k) 0 (Wk.mk (by simp [get_cons]) ⟨[], rfl⟩ (Nat.le_refl _)) ⟨by omega, rfl⟩ ?_
    rintro k ⟨hk, hp⟩
    by_cases h1 : k < a.length
    · have hrk := hr _ (mem_getD h1)
      have hcong : a = b → a.getD k default = b.getD k default := fun e => by rw [e]
      generalize hx : a.getD k default = x at hrk hcong
      generalize hy : b.getD k default = y at hcong
      by_cases h2 : (x.length : Int) = y.length
      · simp only [go_sem,Nat.reduceEqDiff,Nat.reduceAdd,Nat.reduceMul,↓reduceIte,↓dreduceIte,reduceCtorEq,Nat.reduceLeDiff,Nat.reduceLT,Nat.reduceSub,Int.reduceToNat,Int.reduceLE,Int.reduceLT, one_imm, List.length_map, eq_true (show (k : Int) < a.length by omega), hx, hy, eq_true h2]
        refine ⟨by omega, by omega, ?_⟩
        refine VW_loop (fun j : Nat => ⟨[(0, rowsA a), (1, rowsA b), (14, rowsA a), (15, I a.length), (16, I k), (5, I k), (29, bools x), (30, I x.length), (31, I j)], [], 0⟩) (fun j => j ≤ x.length ∧ x.take j = y.take j) (fun j => x.length - j) 0 (Wk.mk (by simp [get_cons]) ⟨[], rfl⟩ (Nat.le_refl _)) ⟨by omega, rfl⟩ ?_
        rintro j ⟨hj, hq⟩
        by_cases h3 : j < x.length
        · have hcg : x = y → gB x j = gB y j := fun e => by rw [e]
          by_cases h4 : gB x j = gB y j
          · simp only [go_sem,Nat.reduceEqDiff,Nat.reduceAdd,Nat.reduceMul,↓reduceIte,↓dreduceIte,reduceCtorEq,Nat.reduceLeDiff,Nat.reduceLT,Nat.reduceSub,Int.reduceToNat,Int.reduceLE,Int.reduceLT, one_imm, List.length_map, eq_true (show (j : Int) < x.length by omega), hy, gB_getD, h4]
            rw [i64_in (by omega) (by omega)]
            repeat (with_reducible refine And.intro (by omega) ?_)
            cases h5 : gB y j
            all_goals
              try simp only [go_sem,Nat.reduceEqDiff,Nat.reduceAdd,Nat.reduceMul,↓reduceIte,↓dreduceIte,reduceCtorEq,Nat.reduceLeDiff,Nat.reduceLT,Nat.reduceSub,Int.reduceToNat,Int.reduceLE,Int.reduceLT]
              exact ⟨j + 1, ⟨by omega, take_ext (by omega) (by omega) hq h4⟩, by omega, Wk.mk (by simp [get_cons]) ⟨[], rfl⟩ (Nat.le_refl _)⟩
          · have hab : a ≠ b := fun e => h4 (hcg (hcong e))
            cases h5 : gB x j <;> cases h6 : gB y j
            · exact absurd (h5.trans h6.symm) h4
            · simp only [go_sem,Nat.reduceEqDiff,Nat.reduceAdd,Nat.reduceMul,↓reduceIte,↓dreduceIte,reduceCtorEq,Nat.reduceLeDiff,Nat.reduceLT,Nat.reduceSub,Int.reduceToNat,Int.reduceLE,Int.reduceLT, one_imm, List.length_map, eq_true (show (j : Int) < x.length by omega), hy, gB_getD, h5, h6]
              repeat (with_reducible refine And.intro (by omega) ?_)
              exact ⟨_, Frz.pure rfl, by rw [decide_eq_false hab]⟩
            · simp only [go_sem,Nat.reduceEqDiff,Nat.reduceAdd,Nat.reduceMul,↓reduceIte,↓dreduceIte,reduceCtorEq,Nat.reduceLeDiff,Nat.reduceLT,Nat.reduceSub,Int.reduceToNat,Int.reduceLE,Int.reduceLT, one_imm, List.length_map, eq_true (show (j : Int) < x.length by omega), hy, gB_getD, h5, h6]
              repeat (with_reducible refine And.intro (by omega) ?_)
              exact ⟨_, Frz.pure rfl, by rw [decide_eq_false hab]⟩
            · exact absurd (h5.trans h6.symm) h4
        · simp only [go_sem,Nat.reduceEqDiff,Nat.reduceAdd,Nat.reduceMul,↓reduceIte,↓dreduceIte,reduceCtorEq,Nat.reduceLeDiff,Nat.reduceLT,Nat.reduceSub,Int.reduceToNat,Int.reduceLE,Int.reduceLT, one_imm, List.length_map, eq_false (show ¬ (j : Int) < x.length by omega)]
          rw [i64_in (by omega) (by omega)]
          have hxy : x = y := take_all (by omega) (by omega) hq
          exact ⟨k + 1, ⟨by omega, take_ext h1 (by omega) hp (by rw [hx, hy, hxy])⟩, by omega, Wk.mk (by simp [get_cons]) ⟨[], rfl⟩ (Nat.le_refl _)⟩
      · simp only [go_sem,Nat.reduceEqDiff,Nat.reduceAdd,Nat.reduceMul,↓reduceIte,↓dreduceIte,reduceCtorEq,Nat.reduceLeDiff,Nat.reduceLT,Nat.reduceSub,Int.reduceToNat,Int.reduceLE,Int.reduceLT, one_imm, List.length_map, eq_true (show (k : Int) < a.length by omega), hx, hy, eq_false h2]
        refine ⟨by omega, by omega, _, Frz.pure rfl, ?_⟩
        have hab : a ≠ b := fun e => h2 (by rw [hcong e])
        rw [decide_eq_false hab]
    · simp only [go_sem,Nat.reduceEqDiff,Nat.reduceAdd,Nat.reduceMul,↓reduceIte,↓dreduceIte,reduceCtorEq,Nat.reduceLeDiff,Nat.reduceLT,Nat.reduceSub,Int.reduceToNat,Int.reduceLE,Int.reduceLT, one_imm, List.length_map, eq_false (show ¬ (k : Int) < a.length by omega)]
      refine ⟨_, Frz.pure rfl, ?_⟩
      rw [decide_eq_true (take_all (by omega) (by omega) hp)]
  · simp only [go_sem,Nat.reduceEqDiff,Nat.reduceAdd,Nat.reduceMul,↓reduceIte,↓dreduceIte,reduceCtorEq,Nat.reduceLeDiff,Nat.reduceLT,Nat.reduceSub,Int.reduceToNat,Int.reduceLE,Int.reduceLT, c_live_same, one_imm, List.length_map, eq_false h]
    refine ⟨_, Frz.pure rfl, ?_⟩
    rw [decide_eq_false (fun e => h (by rw [e]))]
end Go.Proofs.Ytjdeediehmhdoaa
namespace Go.Proofs.Ytjdeediehmhdoaa
set_option linter.unusedSimpArgs false
set_option linter.unusedVariables false
set_option maxRecDepth 10000
open Go.V

theorem down_v (n idY sy idN sN : Nat) (Inv : Nat → List VObj → Nat → Prop) (H0 : List VObj) (nx0 : Nat) (C : AV → List VObj → Nat → Prop) (hn : n ≤ 1000000)
    (hbox : ∀ k H nx, Inv k H nx → H[idN]? = some ⟨sN, 3, 1, [I n]⟩)
    (hy : ∀ k H nx (C' : AV → List VObj → Nat → Prop), k < n → Inv k H nx → (∀ H' nx', Inv (k + 1) H' nx' → C' (B true) H' nx') → YCall Try.prog idY sy [I ((n : Int) - 1 - k)] H nx C')
    (h0 : Inv 0 H0 nx0) (hC : ∀ r H nx, Inv n H nx → C r H nx) : VCall Try.prog 60 [.yld idY sy, .ptr idN sN 0] H0 nx0 C := by
  refine VCall.of_bodyB hmix f_live_down_1 (by simp) ?_
  simp only [go_sem,Nat.reduceEqDiff,Nat.reduceAdd,Nat.reduceMul,↓reduceIte,↓dreduceIte,reduceCtorEq,Nat.reduceLeDiff,Nat.reduceLT,Nat.reduceSub,Int.reduceToNat,Int.reduceLE,Int.reduceLT, c_live_down_1, hbox _ _ _ h0]
  rw [i64_in (by omega) (by omega)]
  refine VW_loop (fun q : Nat × List VObj × Nat => ⟨[(0, .yld idY sy), (1, .ptr idN sN 0), (3, I ((n : Int) - 1 - q.1))], q.2.1, q.2.2⟩) (fun q => q.1 ≤ n ∧ Inv q.1 q.2.1 q.2.2) (fun q => n - q.1) (0, H0, nx0)
    (Wk.mk (by simp [get_cons]) ⟨[], by simp⟩ (Nat.le_refl _)) ⟨by omega, h0⟩ ?_
  rintro ⟨k, H, nx⟩ ⟨hk, hI⟩
  simp only at hk hI
  by_cases h1 : k < n
  · simp only [go_sem,Nat.reduceEqDiff,Nat.reduceAdd,Nat.reduceMul,↓reduceIte,↓dreduceIte,reduceCtorEq,Nat.reduceLeDiff,Nat.reduceLT,Nat.reduceSub,Int.reduceToNat,Int.reduceLE,Int.reduceLT, eq_true (show (0 : Int) ≤ (n : Int) - 1 - k by omega)]
    refine hy k H nx _ h1 hI fun H' nx' hI' => ?_
    simp only [go_sem,Nat.reduceEqDiff,Nat.reduceAdd,Nat.reduceMul,↓reduceIte,↓dreduceIte,reduceCtorEq,Nat.reduceLeDiff,Nat.reduceLT,Nat.reduceSub,Int.reduceToNat,Int.reduceLE,Int.reduceLT]
    rw [i64_in (by omega) (by omega)]
    exact ⟨(k + 1, H', nx'), ⟨by simp; omega, hI'⟩, by simp; omega, Wk.mk (by simp [get_cons]; omega) ⟨[], by simp⟩ (Nat.le_refl _)⟩
  · simp only [go_sem,Nat.reduceEqDiff,Nat.reduceAdd,Nat.reduceMul,↓reduceIte,↓dreduceIte,reduceCtorEq,Nat.reduceLeDiff,Nat.reduceLT,Nat.reduceSub,Int.reduceToNat,Int.reduceLE,Int.reduceLT, eq_false (show ¬ (0 : Int) ≤ (n : Int) - 1 - k by omega)]
    obtain rfl : k = n := by omega
    exact hC _ _ _ hI

theorem cpy_B (l : List Bool) : (List.take (min l.length l.length) (List.map B l) ++ List.drop (min l.length l.length) (List.map B (List.replicate l.length false))) = l.map B := by
  rw [List.take_of_length_le (by simp), List.drop_of_length_le (by simp), List.append_nil]
theorem rep_B (n : Nat) : (List.replicate n [AV.val (.bool false)]).flatten = (List.replicate n false).map B := by rw [flat_rep]; simp
theorem clear_pos {t : Tac} {l : List Bool} (h : 0 ≤ setsL t) : l.set (setsL t).toNat false = clearL t l := (if_pos h).symm
theorem clear_neg {t : Tac} {l : List Bool} (h : ¬ 0 ≤ setsL t) : clearL t l = l := if_neg h
theorem last_pos {b : Bk} {l : List Bool} (h : b.e = 2) : l.set b.v.toNat true = lastL b l := (if_pos h).symm
theorem last_neg {b : Bk} {l : List Bool} (h : ¬ b.e = 2) : lastL b l = l := if_neg h

/-- What matters behind the instructions from the k-th last on. -/
abbrev atL (b : Bk) (l : List Bool) (k : Nat) : List Bool := thruL (b.ins.drop (b.ins.length - k)) (lastL b l)
theorem atL_len (b : Bk) (l : List Bool) (k : Nat) : (atL b l k).length = l.length := by rw [atL, thruL_len, lastL_len]
theorem atL_step (b : Bk) (l : List Bool) {k : Nat} (h : k < b.ins.length) : backL (b.ins.getD (b.ins.length - k - 1) default) (atL b l k) = atL b l (k + 1) := by
  unfold atL
  rw [show b.ins.length - (k + 1) = b.ins.length - k - 1 by omega, drop_back _ _ (show b.ins.length - k - 1 < b.ins.length by omega), show b.ins.length - k - 1 + 1 = b.ins.length - k by omega]
theorem atL_zero (b : Bk) (l : List Bool) : atL b l 0 = lastL b l := by simp [atL, thruL]
theorem atL_all (b : Bk) (l : List Bool) : atL b l b.ins.length = aheadL b l := by simp [atL, aheadL]

/-- The objects of the loop over a block's instructions; the row is l. -/
abbrev thH (b : Bk) (n : Nat) (l : List Bool) (R : VObj) : List VObj := [⟨0, 42, 1, bkL b⟩, ⟨1, 78, 1, [.val .nilFunc]⟩, ⟨2, 4, 1, l.map B⟩, ⟨3, 39, 1, [.ref 2 2 0 n]⟩, ⟨4, 3, 1, [I b.ins.length]⟩, R]
theorem through_c (b : Bk) (l : List Bool) (hl : l.length ≤ 100000) (hn : b.ins.length ≤ 1000000) (hv : b.e = 2 → 0 ≤ b.v ∧ b.v < l.length) (hr : ∀ t ∈ b.ins, RegT t l.length) :
    Contract Try.prog 40 [bkA b, bools l, .val .nilFunc] (fun r => r = bools (aheadL b l)) := by
  refine Contract.of_call (VCall.of_bodyB hmix f_live_through (by simp) ?_)
  have hmx : (200000 : Nat) ≤ maxLen := by decide
  by_cases h : b.e = 2
  all_goals
    have hv1 := hv
    first
    | simp only [go_sem,Nat.reduceEqDiff,Nat.reduceAdd,Nat.reduceMul,↓reduceIte,↓dreduceIte,reduceCtorEq,Nat.reduceLeDiff,Nat.reduceLT,Nat.reduceSub,Int.reduceToNat,Int.reduceLE,Int.reduceLT, c_live_through, one_imm, one_ref, List.length_map, cells_B, rep_B, cpy_B, eq_true h, set_B, last_pos h]
    | simp only [go_sem,Nat.reduceEqDiff,Nat.reduceAdd,Nat.reduceMul,↓reduceIte,↓dreduceIte,reduceCtorEq,Nat.reduceLeDiff,Nat.reduceLT,Nat.reduceSub,Int.reduceToNat,Int.reduceLE,Int.reduceLT, c_live_through, one_imm, one_ref, List.length_map, cells_B, rep_B, cpy_B, eq_false h]
    repeat ((with_reducible refine And.intro ?_ ?_); · first | exact laid_B l | omega | exact Nat.le_trans hl (by decide))
    refine VCall.of_body hmix f_live_down (by simp) ?_
    simp only [go_sem,Nat.reduceEqDiff,Nat.reduceAdd,Nat.reduceMul,↓reduceIte,↓dreduceIte,reduceCtorEq,Nat.reduceLeDiff,Nat.reduceLT,Nat.reduceSub,Int.reduceToNat,Int.reduceLE,Int.reduceLT, c_live_down, one_imm, one_ref, List.length_map]
    intro R Bo E hz hY
    refine down_v b.ins.length 5 5 4 4 (fun k H nx => H = thH b l.length (atL b l k) R ∧ nx = 6) _ _ _ hn (fun k H nx hI => by rw [hI.1]; rfl) (fun k H nx C' hk hI hC' => ?_) ⟨by simp only [atL_zero, thH]; first | rfl | (rw [last_neg h]; rfl), rfl⟩ fun r H nx hI => ?_
    · obtain ⟨rfl, rfl⟩ := hI
      refine hY _ _ _ _ rfl rfl ?_
      have e1 : ((b.ins.length : Int) - 1 - k).toNat = b.ins.length - k - 1 := by omega
      have hrt := hr _ (mem_getD (show b.ins.length - k - 1 < b.ins.length by omega))
      simp only [go_sem,Nat.reduceEqDiff,Nat.reduceAdd,Nat.reduceMul,↓reduceIte,↓dreduceIte,reduceCtorEq,Nat.reduceLeDiff,Nat.reduceLT,Nat.reduceSub,Int.reduceToNat,Int.reduceLE,Int.reduceLT, one_imm, one_ref, List.length_map, e1, List.zip_cons_cons, List.zip_nil_left]
      repeat ((with_reducible refine And.intro ?_ ?_); · omega)
      refine VCall.of_contract (bSets_c _) (SleL.pure rfl) fun r hr' => ?_
      subst hr'
      have hst := atL_step b l hk
      have hlk := atL_len b l k
      generalize hgt : b.ins.getD (b.ins.length - k - 1) default = t at hrt hst ⊢
      generalize hgx : atL b l k = x at hst hlk ⊢
      have hcl : (clearL t x).length = l.length := by rw [clearL_len, hlk]
      by_cases h0 : 0 ≤ setsL t
      all_goals
        have hs1 : 0 ≤ setsL t → setsL t < l.length := fun h => by rcases hrt.sets with e | e <;> omega
        first
        | simp only [go_sem,Nat.reduceEqDiff,Nat.reduceAdd,Nat.reduceMul,↓reduceIte,↓dreduceIte,reduceCtorEq,Nat.reduceLeDiff,Nat.reduceLT,Nat.reduceSub,Int.reduceToNat,Int.reduceLE,Int.reduceLT, one_imm, one_ref, List.length_map, e1, eq_true h0, set_B, clear_pos h0, hgt]
        | simp only [go_sem,Nat.reduceEqDiff,Nat.reduceAdd,Nat.reduceMul,↓reduceIte,↓dreduceIte,reduceCtorEq,Nat.reduceLeDiff,Nat.reduceLT,Nat.reduceSub,Int.reduceToNat,Int.reduceLE,Int.reduceLT, one_imm, one_ref, List.length_map, e1, eq_false h0, hgt]
        repeat ((with_reducible refine And.intro ?_ ?_); · first | omega | (have := hs1 h0; omega))
        refine VCall.of_contractN (bUses_c t) ?_ fun r hr' => ?_
        · exact ⟨_, _, rfl, Frz.pure rfl, rfl⟩
        subst hr'
        simp only [go_sem,Nat.reduceEqDiff,Nat.reduceAdd,Nat.reduceMul,↓reduceIte,↓dreduceIte,reduceCtorEq,Nat.reduceLeDiff,Nat.reduceLT,Nat.reduceSub,Int.reduceToNat,Int.reduceLE,Int.reduceLT, one_imm, one_ref, List.length_map]
        refine VW_loop (fun j : Nat => ⟨[(3, .ptr 0 0 0), (7, .ptr 3 3 0), (52, ints (usesL t)), (53, I (usesL t).length), (54, I j)], thH b l.length (useL (clearL t x) ((usesL t).take j)) Bo, 6⟩)
          (fun j => j ≤ (usesL t).length) (fun j => (usesL t).length - j) 0 (Wk.mk (by simp [get_cons]) ⟨[], by first | rfl | (rw [clear_neg h0]; rfl)⟩ (Nat.le_refl _)) (by omega) ?_
        intro j hj
        have hu2 := usesL_len t
        by_cases hlt : j < (usesL t).length
        · have hu := hrt.1 _ (mem_getD hlt)
          simp only [go_sem,Nat.reduceEqDiff,Nat.reduceAdd,Nat.reduceMul,↓reduceIte,↓dreduceIte,reduceCtorEq,Nat.reduceLeDiff,Nat.reduceLT,Nat.reduceSub,Int.reduceToNat,Int.reduceLE,Int.reduceLT, one_imm, one_ref, List.length_map, eq_true (show (j : Int) < (usesL t).length by omega), set_B, ← useL_take _ _ hlt, useL_len, hcl]
          repeat ((with_reducible refine And.intro ?_ ?_); · omega)
          rw [i64_in (by omega) (by omega)]
          exact ⟨j + 1, by omega, by omega, Wk.mk (by simp [get_cons]) ⟨[], rfl⟩ (Nat.le_refl _)⟩
        · simp only [go_sem,Nat.reduceEqDiff,Nat.reduceAdd,Nat.reduceMul,↓reduceIte,↓dreduceIte,reduceCtorEq,Nat.reduceLeDiff,Nat.reduceLT,Nat.reduceSub,Int.reduceToNat,Int.reduceLE,Int.reduceLT, one_imm, one_ref, List.length_map, eq_false (show ¬ (j : Int) < (usesL t).length by omega)]
          refine hC' _ _ ⟨?_, rfl⟩
          rw [List.take_of_length_le (by omega), ← hst]
          rfl
    · obtain ⟨rfl, rfl⟩ := hI
      refine ⟨rfl, ?_⟩
      clear hY
      rw [atL_all]
      simp only [go_sem,Nat.reduceEqDiff,Nat.reduceAdd,Nat.reduceMul,↓reduceIte,↓dreduceIte,reduceCtorEq,Nat.reduceLeDiff,Nat.reduceLT,Nat.reduceSub,Int.reduceToNat,Int.reduceLE,Int.reduceLT, one_imm, one_ref, List.length_map]
      exact ⟨_, frz_bools (Nat.zero_le _) rfl (by rw [aheadL_len]), rfl⟩
end Go.Proofs.Ytjdeediehmhdoaa
namespace Go.Proofs.Ytjdeediehmhdoaa
set_option linter.unusedSimpArgs false
set_option linter.unusedVariables false
set_option maxRecDepth 10000
open Go.V

def EndsP (b : Bk) (blocks regs : Int) : Prop :=
  if b.e = 1 then 0 ≤ b.to ∧ b.to < blocks ∧ b.v = 0 ∧ b.el = 0
  else if b.e = 2 then 0 ≤ b.to ∧ b.to < blocks ∧ 0 ≤ b.el ∧ b.el < blocks ∧ 0 ≤ b.v ∧ b.v < regs
  else b.e = 3 ∧ b.v = 0 ∧ b.to = 0 ∧ b.el = 0
instance (b : Bk) (n r : Int) : Decidable (EndsP b n r) := by unfold EndsP; exact inferInstance
def endsB (b : Bk) (n r : Int) : Bool := decide (EndsP b n r)
theorem rends_c (b : Bk) (n r : Int) : Contract Try.prog 56 [bkA b, I n, I r] (fun x => x = B (endsB b n r)) := by
  refine Contract.of_call (VCall.of_body hmix f_scref24_ends (by simp) ?_)
  obtain ⟨ins, e, v, to, el⟩ := b
  obtain ⟨x, hx⟩ : ∃ x, endsB ⟨ins, e, v, to, el⟩ n r = x := ⟨_, rfl⟩
  rw [hx]
  have hX : (x = true ↔ EndsP ⟨ins, e, v, to, el⟩ n r) := by rw [← hx]; exact decide_eq_true_iff
  have he : e = 1 ∨ e = 2 ∨ e = 3 ∨ (e ≠ 1 ∧ e ≠ 2 ∧ e ≠ 3) := by omega
  rcases he with rfl | rfl | rfl | ⟨h1, h2, h3⟩
  · simp only [EndsP, if_true] at hX
    simp only [go_sem,Nat.reduceEqDiff,Nat.reduceAdd,Nat.reduceMul,↓reduceIte,↓dreduceIte,reduceCtorEq,Nat.reduceLeDiff,Nat.reduceLT,Nat.reduceSub,Int.reduceToNat,Int.reduceLE,Int.reduceLT, c_scref24_ends, one_imm', Int.reduceEq, Int.reduceBEq]
    refine VCall.of_contract (rwithin_c _ _) (SleL.pure rfl) fun y hy => ?_
    subst hy
    cases hb : inB to n
    · have hb' := of_decide_eq_false hb
      simp only [go_sem,Nat.reduceEqDiff,Nat.reduceAdd,Nat.reduceMul,↓reduceIte,↓dreduceIte,reduceCtorEq,Nat.reduceLeDiff,Nat.reduceLT,Nat.reduceSub,Int.reduceToNat,Int.reduceLE,Int.reduceLT, hb]
      refine ⟨_, Frz.pure rfl, ?_⟩
      congr 2
      rw [Bool.eq_iff_iff, hX]
      simp only [Bool.false_eq_true, false_iff, not_and, and_imp]
      intros; omega
    · have hb' := of_decide_eq_true hb
      simp only [go_sem,Nat.reduceEqDiff,Nat.reduceAdd,Nat.reduceMul,↓reduceIte,↓dreduceIte,reduceCtorEq,Nat.reduceLeDiff,Nat.reduceLT,Nat.reduceSub,Int.reduceToNat,Int.reduceLE,Int.reduceLT, hb]
      repeat' (first | (with_reducible apply And.intro) | (with_reducible intro _))
      all_goals
        refine ⟨_, Frz.pure rfl, ?_⟩
        congr 2
        rw [Bool.eq_iff_iff, hX]
        simp only [Bool.and_eq_true, beq_iff_eq, true_and, and_true, Bool.false_eq_true, false_iff, not_and, and_imp]
        first | omega | (intros; omega)
  · simp only [EndsP, if_true, Int.reduceEq, if_false] at hX
    simp only [go_sem,Nat.reduceEqDiff,Nat.reduceAdd,Nat.reduceMul,↓reduceIte,↓dreduceIte,reduceCtorEq,Nat.reduceLeDiff,Nat.reduceLT,Nat.reduceSub,Int.reduceToNat,Int.reduceLE,Int.reduceLT, c_scref24_ends, one_imm', Int.reduceEq, Int.reduceBEq]
    refine VCall.of_contract (rwithin_c _ _) (SleL.pure rfl) fun y hy => ?_
    subst hy
    cases hb : inB to n
    · have hb' := of_decide_eq_false hb
      simp only [go_sem,Nat.reduceEqDiff,Nat.reduceAdd,Nat.reduceMul,↓reduceIte,↓dreduceIte,reduceCtorEq,Nat.reduceLeDiff,Nat.reduceLT,Nat.reduceSub,Int.reduceToNat,Int.reduceLE,Int.reduceLT, hb]
      refine ⟨_, Frz.pure rfl, ?_⟩
      congr 2
      rw [Bool.eq_iff_iff, hX]
      simp only [Bool.false_eq_true, false_iff, not_and, and_imp]
      intros; omega
    · have hb' := of_decide_eq_true hb
      simp only [go_sem,Nat.reduceEqDiff,Nat.reduceAdd,Nat.reduceMul,↓reduceIte,↓dreduceIte,reduceCtorEq,Nat.reduceLeDiff,Nat.reduceLT,Nat.reduceSub,Int.reduceToNat,Int.reduceLE,Int.reduceLT, hb]
      refine VCall.of_contract (rwithin_c _ _) (SleL.pure rfl) fun y hy => ?_
      subst hy
      cases hc : inB el n
      · have hc' := of_decide_eq_false hc
        simp only [go_sem,Nat.reduceEqDiff,Nat.reduceAdd,Nat.reduceMul,↓reduceIte,↓dreduceIte,reduceCtorEq,Nat.reduceLeDiff,Nat.reduceLT,Nat.reduceSub,Int.reduceToNat,Int.reduceLE,Int.reduceLT, hc]
        refine ⟨_, Frz.pure rfl, ?_⟩
        congr 2
        rw [Bool.eq_iff_iff, hX]
        simp only [Bool.false_eq_true, false_iff, not_and, and_imp]
        intros; omega
      · have hc' := of_decide_eq_true hc
        simp only [go_sem,Nat.reduceEqDiff,Nat.reduceAdd,Nat.reduceMul,↓reduceIte,↓dreduceIte,reduceCtorEq,Nat.reduceLeDiff,Nat.reduceLT,Nat.reduceSub,Int.reduceToNat,Int.reduceLE,Int.reduceLT, hc]
        refine VCall.of_contract (rwithin_c _ _) (SleL.pure rfl) fun y hy => ?_
        subst hy
        simp only [go_sem,Nat.reduceEqDiff,Nat.reduceAdd,Nat.reduceMul,↓reduceIte,↓dreduceIte,reduceCtorEq,Nat.reduceLeDiff,Nat.reduceLT,Nat.reduceSub,Int.reduceToNat,Int.reduceLE,Int.reduceLT]
        refine ⟨_, Frz.pure rfl, ?_⟩
        congr 2
        rw [Bool.eq_iff_iff, hX]
        unfold inB
        rw [decide_eq_true_iff]
        omega
  · simp only [EndsP, if_true, Int.reduceEq, if_false] at hX
    simp only [go_sem,Nat.reduceEqDiff,Nat.reduceAdd,Nat.reduceMul,↓reduceIte,↓dreduceIte,reduceCtorEq,Nat.reduceLeDiff,Nat.reduceLT,Nat.reduceSub,Int.reduceToNat,Int.reduceLE,Int.reduceLT, c_scref24_ends, one_imm', Int.reduceEq, Int.reduceBEq]
    repeat' (first | (with_reducible apply And.intro) | (with_reducible intro _))
    all_goals
      refine ⟨_, Frz.pure rfl, ?_⟩
      congr 2
      rw [Bool.eq_iff_iff, hX]
      simp only [Bool.and_eq_true, beq_iff_eq, true_and, and_true, Bool.false_eq_true, false_iff, not_and, and_imp]
      first | omega | (intros; omega)
  · simp only [EndsP, if_neg h1, if_neg h2] at hX
    simp only [go_sem,Nat.reduceEqDiff,Nat.reduceAdd,Nat.reduceMul,↓reduceIte,↓dreduceIte,reduceCtorEq,Nat.reduceLeDiff,Nat.reduceLT,Nat.reduceSub,Int.reduceToNat,Int.reduceLE,Int.reduceLT, c_scref24_ends, one_imm', eq_false h1, eq_false h2, eq_false h3, beq_false_of_ne h1, beq_false_of_ne h2, beq_false_of_ne h3]
    refine ⟨_, Frz.pure rfl, ?_⟩
    congr 2
    rw [Bool.eq_iff_iff, hX]
    simp only [Bool.false_eq_true, false_iff, not_and, and_imp]
    intros; omega

def insB (l : List Tac) (number regs words : Int) : Bool := l.all fun t => fitsT t number regs words
def blkB (n regs number words : Int) (b : Bk) : Bool := endsB b n regs && insB b.ins number regs words
def oneB (f : BF) (number words : Int) : Bool := decide (0 ≤ f.regs ∧ f.regs ≤ 4000 ∧ f.bks ≠ []) && f.bks.all (blkB f.bks.length f.regs number words)
theorem rone_c (f : BF) (number words : Int) (hw : 0 ≤ words ∧ words ≤ 1048576) (hb : f.bks.length ≤ 140737488355328) (hi : ∀ b ∈ f.bks, b.ins.length ≤ 140737488355328) :
    Contract Try.prog 47 [bfA f, I number, I words] (fun x => x = B (oneB f number words)) := by
  refine Contract.of_call (VCall.of_body hmix f_scref24_One (by simp) ?_)
  by_cases h : 0 ≤ f.regs ∧ f.regs ≤ 4000 ∧ f.bks ≠ []
  · obtain ⟨h1, h2, h3⟩ := h
    have h4 : (f.bks.length : Int) ≠ 0 := by intro e; exact h3 (List.eq_nil_of_length_eq_zero (by omega))
    simp only [go_sem,Nat.reduceEqDiff,Nat.reduceAdd,Nat.reduceMul,↓reduceIte,↓dreduceIte,reduceCtorEq,Nat.reduceLeDiff,Nat.reduceLT,Nat.reduceSub,Int.reduceToNat,Int.reduceLE,Int.reduceLT, c_scref24_One, one_imm', List.length_map, eq_false (show ¬ f.regs < 0 by omega), eq_false (show ¬ 4000 < f.regs by omega), eq_false h4, beq_false_of_ne h4]
    refine VW_loop (fun k : Nat => ⟨[(1, I number), (2, I words), (3, .ptr 0 0 0), (7, I k)], [⟨0, 24, 1, [I f.regs, bksA f.bks]⟩], 1⟩) (fun k => k ≤ f.bks.length ∧ (f.bks.take k).all (blkB f.bks.length f.regs number words) = true) (fun k => f.bks.length - k) 0
      (Wk.mk (by simp [get_cons]) ⟨[], rfl⟩ (Nat.le_refl _)) ⟨by omega, rfl⟩ ?_
    rintro k ⟨hk, hp⟩
    by_cases hlt : k < f.bks.length
    · have hbi := hi _ (mem_getD hlt)
      have hstop : blkB f.bks.length f.regs number words (f.bks.getD k default) = false → oneB f number words = false := fun e => by unfold oneB; rw [all_stop hlt e]; simp
      have hstep : blkB f.bks.length f.regs number words (f.bks.getD k default) = true → (f.bks.take (k + 1)).all (blkB f.bks.length f.regs number words) = true := fun e => all_step hlt hp e
      simp only [go_sem,Nat.reduceEqDiff,Nat.reduceAdd,Nat.reduceMul,↓reduceIte,↓dreduceIte,reduceCtorEq,Nat.reduceLeDiff,Nat.reduceLT,Nat.reduceSub,Int.reduceToNat,Int.reduceLE,Int.reduceLT, one_imm', List.length_map, eq_true (show (k : Int) < f.bks.length by omega)]
      generalize hbk : f.bks.getD k default = b at hbi hstop hstep ⊢
      repeat (with_reducible refine And.intro (by omega) ?_)
      refine VCall.of_contract (rends_c b _ _) (SleL.pure rfl) fun y hy => ?_
      subst hy
      cases he : endsB b f.bks.length f.regs
      · simp only [go_sem,Nat.reduceEqDiff,Nat.reduceAdd,Nat.reduceMul,↓reduceIte,↓dreduceIte,reduceCtorEq,Nat.reduceLeDiff,Nat.reduceLT,Nat.reduceSub,Int.reduceToNat,Int.reduceLE,Int.reduceLT, he]
        refine ⟨_, Frz.pure rfl, ?_⟩
        rw [hstop (by unfold blkB; rw [he]; rfl)]
      · simp only [go_sem,Nat.reduceEqDiff,Nat.reduceAdd,Nat.reduceMul,↓reduceIte,↓dreduceIte,reduceCtorEq,Nat.reduceLeDiff,Nat.reduceLT,Nat.reduceSub,Int.reduceToNat,Int.reduceLE,Int.reduceLT, he]
        refine VW_loop (fun j : Nat => ⟨[(1, I number), (2, I words), (3, .ptr 0 0 0), (7, I k), (8, I j)], [⟨0, 24, 1, [I f.regs, bksA f.bks]⟩], 1⟩) (fun j => j ≤ b.ins.length ∧ (b.ins.take j).all (fun t => fitsT t number f.regs words) = true) (fun j => b.ins.length - j) 0
          (Wk.mk (by simp [get_cons]) ⟨[], rfl⟩ (Nat.le_refl _)) ⟨by omega, rfl⟩ ?_
        rintro j ⟨hj, hq⟩
        by_cases hl2 : j < b.ins.length
        · simp only [go_sem,Nat.reduceEqDiff,Nat.reduceAdd,Nat.reduceMul,↓reduceIte,↓dreduceIte,reduceCtorEq,Nat.reduceLeDiff,Nat.reduceLT,Nat.reduceSub,Int.reduceToNat,Int.reduceLE,Int.reduceLT, one_imm', List.length_map, hbk, eq_true (show (j : Int) < b.ins.length by omega)]
          repeat (with_reducible refine And.intro (by omega) ?_)
          refine VCall.of_contract (rfits_c _ number f.regs words hw) (SleL.pure rfl) fun y hy => ?_
          subst hy
          cases hf : fitsT (b.ins.getD j default) number f.regs words
          · simp only [go_sem,Nat.reduceEqDiff,Nat.reduceAdd,Nat.reduceMul,↓reduceIte,↓dreduceIte,reduceCtorEq,Nat.reduceLeDiff,Nat.reduceLT,Nat.reduceSub,Int.reduceToNat,Int.reduceLE,Int.reduceLT, hf]
            refine ⟨_, Frz.pure rfl, ?_⟩
            rw [hstop (by unfold blkB insB; rw [all_stop hl2 hf]; simp)]
          · simp only [go_sem,Nat.reduceEqDiff,Nat.reduceAdd,Nat.reduceMul,↓reduceIte,↓dreduceIte,reduceCtorEq,Nat.reduceLeDiff,Nat.reduceLT,Nat.reduceSub,Int.reduceToNat,Int.reduceLE,Int.reduceLT, hf]
            rw [i64_in (by omega) (by omega)]
            exact ⟨j + 1, ⟨by omega, all_step hl2 hq hf⟩, by omega, Wk.mk (by simp [get_cons]) ⟨[], rfl⟩ (Nat.le_refl _)⟩
        · simp only [go_sem,Nat.reduceEqDiff,Nat.reduceAdd,Nat.reduceMul,↓reduceIte,↓dreduceIte,reduceCtorEq,Nat.reduceLeDiff,Nat.reduceLT,Nat.reduceSub,Int.reduceToNat,Int.reduceLE,Int.reduceLT, one_imm', List.length_map, hbk, eq_false (show ¬ (j : Int) < b.ins.length by omega)]
          repeat (with_reducible refine And.intro (by omega) ?_)
          rw [i64_in (by omega) (by omega)]
          exact ⟨k + 1, ⟨by omega, hstep (by unfold blkB insB; rw [he, all_end (by omega) hq]; rfl)⟩, by omega, Wk.mk (by simp [get_cons]) ⟨[], rfl⟩ (Nat.le_refl _)⟩
    · simp only [go_sem,Nat.reduceEqDiff,Nat.reduceAdd,Nat.reduceMul,↓reduceIte,↓dreduceIte,reduceCtorEq,Nat.reduceLeDiff,Nat.reduceLT,Nat.reduceSub,Int.reduceToNat,Int.reduceLE,Int.reduceLT, one_imm', List.length_map, eq_false (show ¬ (k : Int) < f.bks.length by omega)]
      refine ⟨_, Frz.pure rfl, ?_⟩
      unfold oneB
      rw [all_end (by omega) hp, decide_eq_true ⟨h1, h2, h3⟩]; rfl
  · have e : oneB f number words = false := by unfold oneB; rw [decide_eq_false h]; rfl
    rw [e]
    by_cases h1 : f.regs < 0
    · simp only [go_sem,Nat.reduceEqDiff,Nat.reduceAdd,Nat.reduceMul,↓reduceIte,↓dreduceIte,reduceCtorEq,Nat.reduceLeDiff,Nat.reduceLT,Nat.reduceSub,Int.reduceToNat,Int.reduceLE,Int.reduceLT, c_scref24_One, one_imm', List.length_map, eq_true h1]
      exact ⟨_, Frz.pure rfl, rfl⟩
    · by_cases h2 : 4000 < f.regs
      · simp only [go_sem,Nat.reduceEqDiff,Nat.reduceAdd,Nat.reduceMul,↓reduceIte,↓dreduceIte,reduceCtorEq,Nat.reduceLeDiff,Nat.reduceLT,Nat.reduceSub,Int.reduceToNat,Int.reduceLE,Int.reduceLT, c_scref24_One, one_imm', List.length_map, eq_false h1, eq_true h2]
        exact ⟨_, Frz.pure rfl, rfl⟩
      · have h3 : f.bks = [] := Classical.byContradiction fun e => h ⟨by omega, by omega, e⟩
        simp only [go_sem,Nat.reduceEqDiff,Nat.reduceAdd,Nat.reduceMul,↓reduceIte,↓dreduceIte,reduceCtorEq,Nat.reduceLeDiff,Nat.reduceLT,Nat.reduceSub,Int.reduceToNat,Int.reduceLE,Int.reduceLT, c_scref24_One, one_imm', List.length_map, eq_false h1, eq_false h2, h3, List.map_nil, List.length_nil, Nat.cast_zero', Int.reduceEq]
        exact ⟨_, Frz.pure rfl, rfl⟩

theorem one_fine {f : BF} {number words : Int} (h : oneB f number words = true) (hb : f.bks.length ≤ 500) (hi : ∀ b ∈ f.bks, b.ins.length ≤ 1000) : Fine f := by
  unfold oneB at h
  simp only [Bool.and_eq_true, decide_eq_true_eq, List.all_eq_true] at h
  obtain ⟨⟨h1, h2, h3⟩, h4⟩ := h
  have he : ∀ b ∈ f.bks, EndsP b f.bks.length f.regs := fun b hbm => by
    have := h4 b hbm
    unfold blkB endsB at this
    simp only [Bool.and_eq_true, decide_eq_true_eq] at this
    exact this.1
  have ht : ∀ b ∈ f.bks, ∀ t ∈ b.ins, FitsT t number f.regs words := fun b hbm t htm => by
    have := h4 b hbm
    unfold blkB insB at this
    simp only [Bool.and_eq_true, List.all_eq_true] at this
    exact of_decide_eq_true (this.2 t htm)
  refine ⟨h1, h2, h3, hb, fun b hbm t htm => ?_, hi, fun b hbm h => ?_, fun b hbm k hk => ?_⟩
  · obtain ⟨_, _, g1, g2, _⟩ := ht b hbm t htm
    exact ⟨g2, fun hs => by rw [if_pos hs] at g1; exact g1⟩
  · have := he b hbm
    unfold EndsP at this
    rw [h, if_neg (by decide), if_pos rfl] at this
    exact ⟨this.2.2.2.2.1, this.2.2.2.2.2⟩
  · have := he b hbm
    unfold EndsP at this
    unfold nxt at hk
    split at hk
    · rename_i h1; rw [if_pos h1] at this; simp at hk; subst hk; exact ⟨this.1, this.2.1⟩
    · rename_i h1
      split at hk
      · rename_i h2; rw [if_neg h1, if_pos h2] at this; simp at hk
        rcases hk with rfl | rfl
        · exact ⟨this.1, this.2.1⟩
        · exact ⟨this.2.2.1, this.2.2.2.1⟩
      · simp at hk

/-- Programs. -/
structure BP where
  words : Int
  funcs : List BF
deriving Inhabited, DecidableEq
abbrev bfL (f : BF) : List AV := [I f.regs, bksA f.bks]
abbrev bpA (b : BP) : AV := .agg [I b.words, .imm 2 (b.funcs.map bfA)]
def rightB (b : BP) : Bool := decide (0 ≤ b.words ∧ b.words ≤ 1048576 ∧ b.funcs ≠ []) && (List.range b.funcs.length).all fun i => oneB (b.funcs.getD i default) i b.words
theorem rright_c (b : BP) (hn : b.funcs.length ≤ 140737488355328) (hb : ∀ f ∈ b.funcs, f.bks.length ≤ 140737488355328) (hi : ∀ f ∈ b.funcs, ∀ b ∈ f.bks, b.ins.length ≤ 140737488355328) :
    Contract Try.prog 29 [bpA b] (fun x => x = B (rightB b)) := by
  refine Contract.of_call (VCall.of_body hmix f_scref24_Right (by simp) ?_)
  by_cases h : 0 ≤ b.words ∧ b.words ≤ 1048576 ∧ b.funcs ≠ []
  · obtain ⟨h1, h2, h3⟩ := h
    have h4 : (b.funcs.length : Int) ≠ 0 := by intro e; exact h3 (List.eq_nil_of_length_eq_zero (by omega))
    simp only [go_sem,Nat.reduceEqDiff,Nat.reduceAdd,Nat.reduceMul,↓reduceIte,↓dreduceIte,reduceCtorEq,Nat.reduceLeDiff,Nat.reduceLT,Nat.reduceSub,Int.reduceToNat,Int.reduceLE,Int.reduceLT, c_scref24_Right, one_imm', List.length_map, eq_false (show ¬ b.words < 0 by omega), eq_false (show ¬ 1048576 < b.words by omega), eq_false h4, beq_false_of_ne h4]
    refine VW_loop (fun k : Nat => ⟨[(1, .ptr 0 0 0), (3, I k)], [⟨0, 58, 1, [I b.words, .imm 2 (b.funcs.map bfA)]⟩], 1⟩) (fun k => k ≤ b.funcs.length ∧ ∀ i < k, oneB (b.funcs.getD i default) i b.words = true) (fun k => b.funcs.length - k) 0
      (Wk.mk (by simp [get_cons]) ⟨[], rfl⟩ (Nat.le_refl _)) ⟨by omega, by omega⟩ ?_
    rintro k ⟨hk, hp⟩
    by_cases hlt : k < b.funcs.length
    · simp only [go_sem,Nat.reduceEqDiff,Nat.reduceAdd,Nat.reduceMul,↓reduceIte,↓dreduceIte,reduceCtorEq,Nat.reduceLeDiff,Nat.reduceLT,Nat.reduceSub,Int.reduceToNat,Int.reduceLE,Int.reduceLT, one_imm', List.length_map, eq_true (show (k : Int) < b.funcs.length by omega)]
      repeat (with_reducible refine And.intro (by omega) ?_)
      refine VCall.of_contract (rone_c (b.funcs.getD k default) k b.words ⟨h1, h2⟩ (hb _ (mem_getD hlt)) (hi _ (mem_getD hlt))) (SleL.pure rfl) fun y hy => ?_
      subst hy
      cases ho : oneB (b.funcs.getD k default) k b.words
      · simp only [go_sem,Nat.reduceEqDiff,Nat.reduceAdd,Nat.reduceMul,↓reduceIte,↓dreduceIte,reduceCtorEq,Nat.reduceLeDiff,Nat.reduceLT,Nat.reduceSub,Int.reduceToNat,Int.reduceLE,Int.reduceLT, ho]
        refine ⟨_, Frz.pure rfl, ?_⟩
        rw [show rightB b = false from ?_]
        unfold rightB
        rw [show (List.range b.funcs.length).all (fun i => oneB (b.funcs.getD i default) i b.words) = false from List.all_eq_false.2 ⟨k, List.mem_range.2 hlt, by rw [ho]; decide⟩]
        simp
      · simp only [go_sem,Nat.reduceEqDiff,Nat.reduceAdd,Nat.reduceMul,↓reduceIte,↓dreduceIte,reduceCtorEq,Nat.reduceLeDiff,Nat.reduceLT,Nat.reduceSub,Int.reduceToNat,Int.reduceLE,Int.reduceLT, ho]
        rw [i64_in (by omega) (by omega)]
        refine ⟨k + 1, ⟨by omega, fun i hi => ?_⟩, by omega, Wk.mk (by simp [get_cons]) ⟨[], rfl⟩ (Nat.le_refl _)⟩
        by_cases e : i = k
        · rw [e]; exact ho
        · exact hp i (by omega)
    · simp only [go_sem,Nat.reduceEqDiff,Nat.reduceAdd,Nat.reduceMul,↓reduceIte,↓dreduceIte,reduceCtorEq,Nat.reduceLeDiff,Nat.reduceLT,Nat.reduceSub,Int.reduceToNat,Int.reduceLE,Int.reduceLT, one_imm', List.length_map, eq_false (show ¬ (k : Int) < b.funcs.length by omega)]
      refine ⟨_, Frz.pure rfl, ?_⟩
      rw [show rightB b = true from ?_]
      unfold rightB
      rw [decide_eq_true ⟨h1, h2, h3⟩, Bool.true_and, List.all_eq_true]
      exact fun i hi => hp i (by have := List.mem_range.1 hi; omega)
  · have e : rightB b = false := by unfold rightB; rw [decide_eq_false h]; rfl
    rw [e]
    by_cases h1 : b.words < 0
    · simp only [go_sem,Nat.reduceEqDiff,Nat.reduceAdd,Nat.reduceMul,↓reduceIte,↓dreduceIte,reduceCtorEq,Nat.reduceLeDiff,Nat.reduceLT,Nat.reduceSub,Int.reduceToNat,Int.reduceLE,Int.reduceLT, c_scref24_Right, one_imm', List.length_map, eq_true h1]
      exact ⟨_, Frz.pure rfl, rfl⟩
    · by_cases h2 : 1048576 < b.words
      · simp only [go_sem,Nat.reduceEqDiff,Nat.reduceAdd,Nat.reduceMul,↓reduceIte,↓dreduceIte,reduceCtorEq,Nat.reduceLeDiff,Nat.reduceLT,Nat.reduceSub,Int.reduceToNat,Int.reduceLE,Int.reduceLT, c_scref24_Right, one_imm', List.length_map, eq_false h1, eq_true h2]
        exact ⟨_, Frz.pure rfl, rfl⟩
      · have h3 : b.funcs = [] := Classical.byContradiction fun e => h ⟨by omega, by omega, e⟩
        simp only [go_sem,Nat.reduceEqDiff,Nat.reduceAdd,Nat.reduceMul,↓reduceIte,↓dreduceIte,reduceCtorEq,Nat.reduceLeDiff,Nat.reduceLT,Nat.reduceSub,Int.reduceToNat,Int.reduceLE,Int.reduceLT, c_scref24_Right, one_imm', List.length_map, eq_false h1, eq_false h2, h3, List.map_nil, List.length_nil, Nat.cast_zero', Int.reduceEq]
        exact ⟨_, Frz.pure rfl, rfl⟩
end Go.Proofs.Ytjdeediehmhdoaa
namespace Go.Proofs.Ytjdeediehmhdoaa
set_option linter.unusedSimpArgs false
set_option linter.unusedVariables false
set_option maxRecDepth 10000
open Go.V Go.ChangeShapes Go.WideShapes Go.ChangeAt Go.RowKit

theorem Try.own : ownKnob Try.prog.godebug = none := by kernel_rfl
theorem Try.laidOut : laidOutB Try.prog = true := by kernel_rfl

/-- A word. -/
def W32 (n : Int) : Prop := 0 ≤ n ∧ n < 4294967296
abbrev tacSh : Sh := .agg [.int .i64, .int .i64, .int .i64, .int .i64, .int .i64, .int .i64, .int .i64, .int .u32]
abbrev bkSh : Sh := .agg [.sl 8 64 tacSh, .int .i64, .int .i64, .int .i64, .int .i64]
abbrev bfSh : Sh := .agg [.int .i64, .sl 5 56 bkSh]
abbrev rowSh : Sh := .sl 1 1 .bool
abbrev rowsSh : Sh := .sl 1 24 rowSh
abbrev liveSh : Sh := .agg [rowsSh, rowsSh]

theorem fit_w {x : AV} (h : Sh.fit (.int .u32) x) : ∃ n : Int, x = U32 n ∧ W32 n := by
  simp only [Sh.fit] at h
  obtain ⟨n, rfl, h⟩ := h
  simp [Lit.wf, IntKind.min, IntKind.max, IntKind.bits, IntKind.signed] at h
  exact ⟨n, rfl, by unfold W32; omega⟩
abbrev Y8 (n : Int) : AV := .val (.int .u8 n)
theorem fit_y {x : AV} (h : Sh.fit (.int .u8) x) : ∃ n : Int, x = Y8 n ∧ 0 ≤ n ∧ n ≤ 255 := by
  simp only [Sh.fit] at h
  obtain ⟨n, rfl, h⟩ := h
  simp [Lit.wf, IntKind.min, IntKind.max, IntKind.bits, IntKind.signed] at h
  exact ⟨n, rfl, by omega⟩
theorem fit_b {x : AV} (h : Sh.fit .bool x) : ∃ b : Bool, x = B b := by
  simp only [Sh.fit] at h; exact h
structure TacOk (t : Tac) : Prop where
  op : Int64 t.op
  d : Int64 t.d
  a : Int64 t.a
  b : Int64 t.b
  k : Int64 t.k
  base : Int64 t.base
  size : Int64 t.size
  n : W32 t.n
theorem tac_of {x : AV} (h : Sh.fit tacSh x) : ∃ t : Tac, x = tacA t ∧ TacOk t := by
  simp only [tacSh, Sh.fit.eq_5, Sh.fitL] at h
  obtain ⟨ys, rfl, a, _, rfl, ha, b, _, rfl, hb, c, _, rfl, hc, d, _, rfl, hd, e, _, rfl, he, f, _, rfl, hf, g, _, rfl, hg, i, _, rfl, hi, rfl⟩ := h
  obtain ⟨_, rfl, k1⟩ := fit_int ha
  obtain ⟨_, rfl, k2⟩ := fit_int hb
  obtain ⟨_, rfl, k3⟩ := fit_int hc
  obtain ⟨_, rfl, k4⟩ := fit_int hd
  obtain ⟨_, rfl, k5⟩ := fit_int he
  obtain ⟨_, rfl, k6⟩ := fit_int hf
  obtain ⟨_, rfl, k7⟩ := fit_int hg
  obtain ⟨_, rfl, k8⟩ := fit_w hi
  exact ⟨⟨_, _, _, _, _, _, _, _⟩, rfl, k1, k2, k3, k4, k5, k6, k7, k8⟩
structure BkOk (b : Bk) : Prop where
  len : b.ins.length ≤ 140737488355328
  ins : ∀ t ∈ b.ins, TacOk t
  e : Int64 b.e
  v : Int64 b.v
  to : Int64 b.to
  el : Int64 b.el
theorem bk_of {x : AV} (h : Sh.fit bkSh x) : ∃ b : Bk, x = bkA b ∧ BkOk b := by
  simp only [bkSh, Sh.fit.eq_5, Sh.fitL] at h
  obtain ⟨ys, rfl, a, _, rfl, ha, b, _, rfl, hb, c, _, rfl, hc, d, _, rfl, hd, e, _, rfl, he, rfl⟩ := h
  obtain ⟨_, rfl, k2⟩ := fit_int hb
  obtain ⟨_, rfl, k3⟩ := fit_int hc
  obtain ⟨_, rfl, k4⟩ := fit_int hd
  obtain ⟨_, rfl, k5⟩ := fit_int he
  simp only [Sh.fit.eq_4] at ha
  obtain ⟨xs, rfl, _, h1, h2⟩ := ha
  obtain ⟨l, rfl, h3⟩ := maps_of (f := tacA) (p := TacOk) (fun y hy => tac_of hy) xs h2
  exact ⟨⟨l, _, _, _, _⟩, rfl, by simp [reachBytes] at h1 ⊢; omega, h3, k2, k3, k4, k5⟩
structure BfOk (f : BF) : Prop where
  r : Int64 f.regs
  len : f.bks.length ≤ 140737488355328
  bk : ∀ b ∈ f.bks, BkOk b
theorem bf_of {x : AV} (h : Sh.fit bfSh x) : ∃ f : BF, x = bfA f ∧ BfOk f := by
  simp only [bfSh, Sh.fit.eq_5, Sh.fitL] at h
  obtain ⟨ys, rfl, a, _, rfl, ha, e, _, rfl, he, rfl⟩ := h
  obtain ⟨r, rfl, k1⟩ := fit_int ha
  simp only [Sh.fit.eq_4] at he
  obtain ⟨xs, rfl, _, h1, h2⟩ := he
  obtain ⟨l, rfl, h3⟩ := maps_of (f := bkA) (p := BkOk) (fun y hy => bk_of hy) xs h2
  exact ⟨⟨r, l⟩, rfl, k1, by simp [reachBytes] at h1 ⊢; omega, h3⟩
theorem row_of {x : AV} (h : Sh.fit rowSh x) : ∃ l : List Bool, x = bools l ∧ l.length ≤ 140737488355328 := by
  simp only [rowSh, Sh.fit.eq_4] at h
  obtain ⟨xs, rfl, _, h1, h2⟩ := h
  obtain ⟨l, rfl, _⟩ := maps_of (f := B) (p := fun _ => True) (fun y hy => by obtain ⟨b, rfl⟩ := fit_b hy; exact ⟨b, rfl, trivial⟩) xs h2
  exact ⟨l, rfl, by simp [reachBytes] at h1 ⊢; omega⟩
theorem rows_of {x : AV} (h : Sh.fit rowsSh x) : ∃ m : List (List Bool), x = rowsA m ∧ m.length ≤ 140737488355328 ∧ ∀ l ∈ m, l.length ≤ 140737488355328 := by
  simp only [rowsSh, Sh.fit.eq_4] at h
  obtain ⟨xs, rfl, _, h1, h2⟩ := h
  obtain ⟨m, rfl, h3⟩ := maps_of (f := bools) (p := fun l => l.length ≤ 140737488355328) (fun y hy => row_of hy) xs h2
  exact ⟨m, rfl, by simp [reachBytes] at h1 ⊢; omega, h3⟩
/-- Tables whose rows are no longer than may be. -/
structure LOK (L : LD) : Prop where
  i : L.inn.length ≤ 140737488355328
  o : L.out.length ≤ 140737488355328
  ir : ∀ l ∈ L.inn, l.length ≤ 140737488355328
  or : ∀ l ∈ L.out, l.length ≤ 140737488355328
theorem live_of {x : AV} (h : Sh.fit liveSh x) : ∃ L : LD, x = liveA L ∧ LOK L := by
  simp only [liveSh, Sh.fit.eq_5, Sh.fitL] at h
  obtain ⟨ys, rfl, a, _, rfl, ha, e, _, rfl, he, rfl⟩ := h
  obtain ⟨i, rfl, h1, h2⟩ := rows_of ha
  obtain ⟨o, rfl, h3, h4⟩ := rows_of he
  exact ⟨⟨i, o⟩, rfl, h1, h3, h2, h4⟩
theorem fitS_cons {s : Sh} {ss : List Sh} {ys : List AV} (h : Sh.fitL (s :: ss) ys) : ∃ y ys', ys = y :: ys' ∧ s.fit y ∧ Sh.fitL ss ys' := by
  simp only [Sh.fitL] at h; exact h
end Go.Proofs.Ytjdeediehmhdoaa
namespace Go.Proofs.Ytjdeediehmhdoaa
set_option linter.unusedSimpArgs false
set_option linter.unusedVariables false
set_option maxRecDepth 10000
open Go.V

theorem within_both {x y : List Bool} (hl : x.length = y.length) (h1 : withinB x y = true) (h2 : withinB y x = true) : x = y := by
  have g1 := of_decide_eq_true h1
  have g2 := of_decide_eq_true h2
  refine gB_ext hl fun v hv => ?_
  cases hx : gB x v <;> cases hy : gB y v
  · rfl
  · have := g2 v (by omega) hy; rw [hx] at this; cases this
  · have := g1 v hv hx; rw [hy] at this; cases this
  · rfl
theorem within_self (x : List Bool) : withinB x x = true := decide_eq_true fun _ _ h => h

theorem rrows_c (a b : List (List Bool)) (ha : a.length ≤ 140737488355328) (hr : ∀ l ∈ a, l.length ≤ 140737488355328) : Contract Try.prog 21 [rowsA a, rowsA b] (fun r => r = B (decide (a = b))) := by
  refine Contract.of_call (VCall.of_body hmix f_scref27_Rows (by simp) ?_)
  by_cases h : (a.length : Int) = b.length
  · have hl : a.length = b.length := by omega
    simp only [go_sem,Nat.reduceEqDiff,Nat.reduceAdd,Nat.reduceMul,↓reduceIte,↓dreduceIte,reduceCtorEq,Nat.reduceLeDiff,Nat.reduceLT,Nat.reduceSub,Int.reduceToNat,Int.reduceLE,Int.reduceLT, c_scref27_Rows, one_imm, List.length_map, eq_true h]
    refine VW_loop (fun k : Nat => ⟨[(0, rowsA a), (1, rowsA b), (5, I k)], [], 0⟩) (fun k => k ≤ a.length ∧ a.take k = b.take k) (fun k => a.length - k) 0 (Wk.mk (by simp [get_cons]) ⟨[], rfl⟩ (Nat.le_refl _)) ⟨by omega, rfl⟩ ?_
    rintro k ⟨hk, hp⟩
    by_cases h1 : k < a.length
    · have hrk := hr _ (mem_getD h1)
      have hcong : a = b → a.getD k default = b.getD k default := fun e => by rw [e]
      generalize hx : a.getD k default = x at hrk hcong
      generalize hy : b.getD k default = y at hcong
      by_cases h2 : (x.length : Int) = y.length
      · simp only [go_sem,Nat.reduceEqDiff,Nat.reduceAdd,Nat.reduceMul,↓reduceIte,↓dreduceIte,reduceCtorEq,Nat.reduceLeDiff,Nat.reduceLT,Nat.reduceSub,Int.reduceToNat,Int.reduceLE,Int.reduceLT, one_imm, List.length_map, eq_true (show (k : Int) < a.length by omega), hx, hy, eq_true h2]
        repeat ((with_reducible refine And.intro ?_ ?_); · omega)
        refine ECall.of (rwithin27_c x y (by omega) hrk) (SleL.pure rfl) ⟨_, fun _ => Iff.rfl⟩ fun r hr' => ?_
        subst hr'
        cases h3 : withinB x y
        · simp only [go_sem,Nat.reduceEqDiff,Nat.reduceAdd,Nat.reduceMul,↓reduceIte,↓dreduceIte,reduceCtorEq,Nat.reduceLeDiff,Nat.reduceLT,Nat.reduceSub,Int.reduceToNat,Int.reduceLE,Int.reduceLT, one_imm, List.length_map]
          refine ⟨_, Frz.pure rfl, ?_⟩
          rw [decide_eq_false fun e => by rw [hcong e, within_self] at h3; cases h3]
        · simp only [go_sem,Nat.reduceEqDiff,Nat.reduceAdd,Nat.reduceMul,↓reduceIte,↓dreduceIte,reduceCtorEq,Nat.reduceLeDiff,Nat.reduceLT,Nat.reduceSub,Int.reduceToNat,Int.reduceLE,Int.reduceLT, one_imm, List.length_map, hx, hy]
          repeat ((with_reducible refine And.intro ?_ ?_); · omega)
          refine ECall.of (rwithin27_c y x (by omega) (by omega)) (SleL.pure rfl) ⟨_, fun _ => Iff.rfl⟩ fun r hr' => ?_
          subst hr'
          cases h4 : withinB y x
          · simp only [go_sem,Nat.reduceEqDiff,Nat.reduceAdd,Nat.reduceMul,↓reduceIte,↓dreduceIte,reduceCtorEq,Nat.reduceLeDiff,Nat.reduceLT,Nat.reduceSub,Int.reduceToNat,Int.reduceLE,Int.reduceLT, one_imm, List.length_map]
            refine ⟨_, Frz.pure rfl, ?_⟩
            rw [decide_eq_false fun e => by rw [hcong e, within_self] at h4; cases h4]
          · simp only [go_sem,Nat.reduceEqDiff,Nat.reduceAdd,Nat.reduceMul,↓reduceIte,↓dreduceIte,reduceCtorEq,Nat.reduceLeDiff,Nat.reduceLT,Nat.reduceSub,Int.reduceToNat,Int.reduceLE,Int.reduceLT, one_imm, List.length_map]
            rw [i64_in (by omega) (by omega)]
            exact ⟨k + 1, ⟨by omega, take_ext h1 (by omega) hp (by rw [hx, hy, within_both (by omega) h3 h4])⟩, by omega, Wk.mk (by simp [get_cons]) ⟨[], rfl⟩ (Nat.le_refl _)⟩
      · simp only [go_sem,Nat.reduceEqDiff,Nat.reduceAdd,Nat.reduceMul,↓reduceIte,↓dreduceIte,reduceCtorEq,Nat.reduceLeDiff,Nat.reduceLT,Nat.reduceSub,Int.reduceToNat,Int.reduceLE,Int.reduceLT, one_imm, List.length_map, eq_true (show (k : Int) < a.length by omega), hx, hy, eq_false h2]
        repeat ((with_reducible refine And.intro ?_ ?_); · omega)
        refine ⟨_, Frz.pure rfl, ?_⟩
        have hab : a ≠ b := fun e => h2 (by rw [hcong e])
        rw [decide_eq_false hab]
    · simp only [go_sem,Nat.reduceEqDiff,Nat.reduceAdd,Nat.reduceMul,↓reduceIte,↓dreduceIte,reduceCtorEq,Nat.reduceLeDiff,Nat.reduceLT,Nat.reduceSub,Int.reduceToNat,Int.reduceLE,Int.reduceLT, one_imm, List.length_map, eq_false (show ¬ (k : Int) < a.length by omega)]
      refine ⟨_, Frz.pure rfl, ?_⟩
      rw [decide_eq_true (take_all (by omega) (by omega) hp)]
  · simp only [go_sem,Nat.reduceEqDiff,Nat.reduceAdd,Nat.reduceMul,↓reduceIte,↓dreduceIte,reduceCtorEq,Nat.reduceLeDiff,Nat.reduceLT,Nat.reduceSub,Int.reduceToNat,Int.reduceLE,Int.reduceLT, c_scref27_Rows, one_imm, List.length_map, eq_false h]
    refine ⟨_, Frz.pure rfl, ?_⟩
    rw [decide_eq_false (fun e => h (by rw [e]))]

def sameB (L M : LD) : Bool := decide (L.inn = M.inn) && decide (L.out = M.out)
theorem sameB_self (L : LD) : sameB L L = true := by simp [sameB]
theorem rSame_c (L M : LD) (h : LOK L) : Contract Try.prog 14 [liveA L, liveA M] (fun x => x = B (sameB L M)) := by
  refine Contract.of_call (VCall.of_body hmix f_scref27_Same (by simp) ?_)
  simp only [go_sem,Nat.reduceEqDiff,Nat.reduceAdd,Nat.reduceMul,↓reduceIte,↓dreduceIte,reduceCtorEq,Nat.reduceLeDiff,Nat.reduceLT,Nat.reduceSub,Int.reduceToNat,Int.reduceLE,Int.reduceLT, c_scref27_Same, one_imm, List.length_map]
  refine VCall.of_contract (rrows_c L.inn M.inn h.i h.ir) (SleL.pure rfl) fun x hx => ?_
  subst hx
  by_cases h1 : L.inn = M.inn
  · simp only [go_sem,Nat.reduceEqDiff,Nat.reduceAdd,Nat.reduceMul,↓reduceIte,↓dreduceIte,reduceCtorEq,Nat.reduceLeDiff,Nat.reduceLT,Nat.reduceSub,Int.reduceToNat,Int.reduceLE,Int.reduceLT, one_imm, List.length_map, eq_true h1]
    refine VCall.of_contract (rrows_c L.out M.out h.o h.or) (SleL.pure rfl) fun x hx => ?_
    subst hx
    simp only [go_sem,Nat.reduceEqDiff,Nat.reduceAdd,Nat.reduceMul,↓reduceIte,↓dreduceIte,reduceCtorEq,Nat.reduceLeDiff,Nat.reduceLT,Nat.reduceSub,Int.reduceToNat,Int.reduceLE,Int.reduceLT, one_imm, List.length_map]
    exact ⟨_, Frz.pure rfl, by simp [sameB, h1]⟩
  · simp only [go_sem,Nat.reduceEqDiff,Nat.reduceAdd,Nat.reduceMul,↓reduceIte,↓dreduceIte,reduceCtorEq,Nat.reduceLeDiff,Nat.reduceLT,Nat.reduceSub,Int.reduceToNat,Int.reduceLE,Int.reduceLT, one_imm, List.length_map, eq_false h1]
    exact ⟨_, Frz.pure rfl, by simp [sameB, h1]⟩
theorem Same_c (L M : LD) (h : LOK L) : Contract Try.prog 19 [liveA L, liveA M] (fun x => x = B (sameB L M)) := by
  refine Contract.of_call (VCall.of_body hmix f_live_Same (by simp) ?_)
  simp only [go_sem,Nat.reduceEqDiff,Nat.reduceAdd,Nat.reduceMul,↓reduceIte,↓dreduceIte,reduceCtorEq,Nat.reduceLeDiff,Nat.reduceLT,Nat.reduceSub,Int.reduceToNat,Int.reduceLE,Int.reduceLT, c_live_Same, one_imm, List.length_map]
  refine VCall.of_contract (same_c L.inn M.inn h.i h.ir) (SleL.pure rfl) fun x hx => ?_
  subst hx
  by_cases h1 : L.inn = M.inn
  · simp only [go_sem,Nat.reduceEqDiff,Nat.reduceAdd,Nat.reduceMul,↓reduceIte,↓dreduceIte,reduceCtorEq,Nat.reduceLeDiff,Nat.reduceLT,Nat.reduceSub,Int.reduceToNat,Int.reduceLE,Int.reduceLT, one_imm, List.length_map, eq_true h1]
    refine VCall.of_contract (same_c L.out M.out h.o h.or) (SleL.pure rfl) fun x hx => ?_
    subst hx
    simp only [go_sem,Nat.reduceEqDiff,Nat.reduceAdd,Nat.reduceMul,↓reduceIte,↓dreduceIte,reduceCtorEq,Nat.reduceLeDiff,Nat.reduceLT,Nat.reduceSub,Int.reduceToNat,Int.reduceLE,Int.reduceLT, one_imm, List.length_map]
    exact ⟨_, Frz.pure rfl, by simp [sameB, h1]⟩
  · simp only [go_sem,Nat.reduceEqDiff,Nat.reduceAdd,Nat.reduceMul,↓reduceIte,↓dreduceIte,reduceCtorEq,Nat.reduceLeDiff,Nat.reduceLT,Nat.reduceSub,Int.reduceToNat,Int.reduceLE,Int.reduceLT, one_imm, List.length_map, eq_false h1]
    exact ⟨_, Frz.pure rfl, by simp [sameB, h1]⟩

def blkC (f : BF) (L : LD) (b : Nat) : Bool := (nxt (f.bk b)).all (fun k => withinB (L.inn.getD k.toNat default) (L.out.getD b default)) && withinB (aheadL (f.bk b) (L.out.getD b default)) (L.inn.getD b default)
def checkB (f : BF) (L : LD) : Bool := sizedB f L && (List.range f.n).all (blkC f L)
theorem checkB_iff {f : BF} (hf : Fine f) (L : LD) : checkB f L = true ↔ ClosedP f L := by
  unfold checkB
  rw [Bool.and_eq_true, sizedB_iff hf.r0, List.all_eq_true]
  have hrow : ∀ (m : List (List Bool)) b, m.getD b default = m.getD b [] := fun _ _ => rfl
  refine ⟨fun ⟨hs, h⟩ => ⟨hs, ⟨fun b hb k hk v hv h1 => ?_, fun b hb v hv h1 => ?_⟩⟩, fun h => ⟨h.sz, fun b hb => ?_⟩⟩
  · have := h b (List.mem_range.2 hb)
    unfold blkC at this
    rw [Bool.and_eq_true, List.all_eq_true] at this
    have hk' := hf.to _ (BF.mem hb) k hk
    exact of_decide_eq_true (this.1 k hk) v (by rw [hrow, hs.il (show k.toNat < f.n by unfold BF.n; omega)]; exact hv) h1
  · have := h b (List.mem_range.2 hb)
    unfold blkC at this
    rw [Bool.and_eq_true, List.all_eq_true] at this
    refine of_decide_eq_true this.2 v (by rw [aheadL_len, hrow, hs.ol hb]; exact hv) ?_
    rw [hrow, gB_ahead hf hb _ (hs.ol hb) hv]
    exact h1
  · have hb := List.mem_range.1 hb
    unfold blkC
    rw [Bool.and_eq_true, List.all_eq_true]
    refine ⟨fun k hk => ?_, ?_⟩
    · have hk' := hf.to _ (BF.mem hb) k hk
      refine decide_eq_true fun v hv h1 => h.cl.way b hb k hk v ?_ h1
      rw [hrow, h.sz.il (show k.toNat < f.n by unfold BF.n; omega)] at hv
      exact hv
    · refine decide_eq_true fun v hv h1 => h.cl.ahead b hb v ?_ ?_
      · rw [aheadL_len, hrow, h.sz.ol hb] at hv; exact hv
      · rw [aheadL_len, hrow, h.sz.ol hb] at hv
        have := gB_ahead hf hb _ (h.sz.ol hb) hv
        rw [hrow] at h1
        rw [h1] at this
        exact this.symm

theorem Fine.regs {f : BF} (hf : Fine f) {b : Nat} (hb : b < f.n) {l : List Bool} (hl : l.length = f.r) : (∀ t ∈ (f.bk b).ins, RegT t l.length) ∧ ((f.bk b).e = 2 → 0 ≤ (f.bk b).v ∧ (f.bk b).v < l.length) := by
  have h0 := hf.r0
  have e : (l.length : Int) = f.regs := by rw [hl]; unfold BF.r; omega
  rw [e]
  exact ⟨hf.ins _ (BF.mem hb), hf.v _ (BF.mem hb)⟩
theorem next_at {f : BF} {b : Nat} (hb : b < f.n) : (f.bks.map fun b => ints (nxt b)).getD b .dead = ints (nxt (f.bk b)) := by
  simp [BF.bk, List.getD, List.getElem?_eq_getElem (show b < f.bks.length from hb)]

theorem rcheck_c (f : BF) (L : LD) (hf : Fine f) (hL : LOK L) : Contract Try.prog 16 [bfA f, liveA L] (fun x => x = B (checkB f L)) := by
  refine Contract.of_call (VCall.of_body hmix f_scref27_Check (by simp) ?_)
  have hn : f.bks.length = f.n := rfl
  have hn5 := hf.b1
  rw [hn] at hn5
  have hr4 := hf.r1
  have hr0 := hf.r0
  have hr : f.r ≤ 4000 := by unfold BF.r; omega
  simp only [go_sem,Nat.reduceEqDiff,Nat.reduceAdd,Nat.reduceMul,↓reduceIte,↓dreduceIte,reduceCtorEq,Nat.reduceLeDiff,Nat.reduceLT,Nat.reduceSub,Int.reduceToNat,Int.reduceLE,Int.reduceLT, c_scref27_Check, one_imm, List.length_map]
  refine VCall.of_contract (rSized_c f L hL.i hL.o) (SleL.pure rfl) fun x hx => ?_
  subst hx
  cases hs : sizedB f L
  · simp only [go_sem,Nat.reduceEqDiff,Nat.reduceAdd,Nat.reduceMul,↓reduceIte,↓dreduceIte,reduceCtorEq,Nat.reduceLeDiff,Nat.reduceLT,Nat.reduceSub,Int.reduceToNat,Int.reduceLE,Int.reduceLT, one_imm, List.length_map]
    exact ⟨_, Frz.pure rfl, by simp [checkB, hs]⟩
  have hS := (sizedB_iff hr0 L).1 hs
  simp only [go_sem,Nat.reduceEqDiff,Nat.reduceAdd,Nat.reduceMul,↓reduceIte,↓dreduceIte,reduceCtorEq,Nat.reduceLeDiff,Nat.reduceLT,Nat.reduceSub,Int.reduceToNat,Int.reduceLE,Int.reduceLT, one_imm, List.length_map]
  refine VCall.of_contract (refnext_c f hf.b1) (SleL.pure rfl) fun x hx => ?_
  subst hx
  simp only [go_sem,Nat.reduceEqDiff,Nat.reduceAdd,Nat.reduceMul,↓reduceIte,↓dreduceIte,reduceCtorEq,Nat.reduceLeDiff,Nat.reduceLT,Nat.reduceSub,Int.reduceToNat,Int.reduceLE,Int.reduceLT, one_imm, List.length_map]
  refine VW_loop (fun k : Nat => ⟨[(2, .ptr 0 0 0), (3, .ptr 1 1 0), (5, .imm 1 (f.bks.map fun b => ints (nxt b))), (6, I k)], [⟨0, 24, 1, [I f.regs, bksA f.bks]⟩, ⟨1, 29, 1, [rowsA L.inn, rowsA L.out]⟩], 2⟩)
    (fun k => k ≤ f.n ∧ ∀ b < k, blkC f L b = true) (fun k => f.n - k) 0 (Wk.mk (by simp [get_cons]) ⟨[], rfl⟩ (Nat.le_refl _)) ⟨by omega, by omega⟩ ?_
  rintro b ⟨hb, hp⟩
  by_cases hlt : b < f.n
  · have hfalse : blkC f L b = false → checkB f L = false := fun e => by
      unfold checkB
      rw [List.all_eq_false.2 ⟨b, List.mem_range.2 hlt, by rw [e]; decide⟩]; simp
    have hbk : f.bks.getD b default = f.bk b := rfl
    have hli : (L.inn.getD b default).length = f.r := hS.il hlt
    have hlo : (L.out.getD b default).length = f.r := hS.ol hlt
    have hnl := nxt_len (f.bk b)
    have hreg := hf.regs hlt hlo
    have hto := hf.to _ (BF.mem hlt)
    have h1i := hS.i
    have h1o := hS.o
    simp only [go_sem,Nat.reduceEqDiff,Nat.reduceAdd,Nat.reduceMul,↓reduceIte,↓dreduceIte,reduceCtorEq,Nat.reduceLeDiff,Nat.reduceLT,Nat.reduceSub,Int.reduceToNat,Int.reduceLE,Int.reduceLT, one_imm, List.length_map, eq_true (show (b : Int) < f.bks.length by omega), hbk]
    refine VW_loop (fun j : Nat => ⟨[(2, .ptr 0 0 0), (3, .ptr 1 1 0), (5, .imm 1 (f.bks.map fun b => ints (nxt b))), (6, I b), (7, I j)], [⟨0, 24, 1, [I f.regs, bksA f.bks]⟩, ⟨1, 29, 1, [rowsA L.inn, rowsA L.out]⟩], 2⟩)
      (fun j => j ≤ (nxt (f.bk b)).length ∧ ((nxt (f.bk b)).take j).all (fun k => withinB (L.inn.getD k.toNat default) (L.out.getD b default)) = true) (fun j => (nxt (f.bk b)).length - j) 0 (Wk.mk (by simp [get_cons]) ⟨[], rfl⟩ (Nat.le_refl _)) ⟨by omega, rfl⟩ ?_
    rintro j ⟨hj, hq⟩
    by_cases hl2 : j < (nxt (f.bk b)).length
    · have hto' := hto _ (mem_getD hl2)
      have hlk : (L.inn.getD ((nxt (f.bk b)).getD j default).toNat default).length = f.r := hS.il (by omega)
      simp only [go_sem,Nat.reduceEqDiff,Nat.reduceAdd,Nat.reduceMul,↓reduceIte,↓dreduceIte,reduceCtorEq,Nat.reduceLeDiff,Nat.reduceLT,Nat.reduceSub,Int.reduceToNat,Int.reduceLE,Int.reduceLT, one_imm, List.length_map, hbk, eq_true (show (j : Int) < (nxt (f.bk b)).length by omega)]
      repeat ((with_reducible refine And.intro ?_ ?_); · omega)
      refine VCall.of_contract (rwithin27_c _ _ (by rw [hlk, hlo]; omega) (by rw [hlk]; omega)) (SleL.pure rfl) fun x hx => ?_
      subst hx
      cases hw : withinB (L.inn.getD ((nxt (f.bk b)).getD j default).toNat default) (L.out.getD b default)
      · simp only [go_sem,Nat.reduceEqDiff,Nat.reduceAdd,Nat.reduceMul,↓reduceIte,↓dreduceIte,reduceCtorEq,Nat.reduceLeDiff,Nat.reduceLT,Nat.reduceSub,Int.reduceToNat,Int.reduceLE,Int.reduceLT, one_imm, List.length_map]
        refine ⟨_, Frz.pure rfl, ?_⟩
        rw [hfalse (by unfold blkC; rw [all_stop hl2 hw]; rfl)]
      · simp only [go_sem,Nat.reduceEqDiff,Nat.reduceAdd,Nat.reduceMul,↓reduceIte,↓dreduceIte,reduceCtorEq,Nat.reduceLeDiff,Nat.reduceLT,Nat.reduceSub,Int.reduceToNat,Int.reduceLE,Int.reduceLT, one_imm, List.length_map]
        rw [i64_in (by omega) (by omega)]
        exact ⟨j + 1, ⟨by omega, all_step hl2 hq hw⟩, by omega, Wk.mk (by simp [get_cons]) ⟨[], rfl⟩ (Nat.le_refl _)⟩
    · simp only [go_sem,Nat.reduceEqDiff,Nat.reduceAdd,Nat.reduceMul,↓reduceIte,↓dreduceIte,reduceCtorEq,Nat.reduceLeDiff,Nat.reduceLT,Nat.reduceSub,Int.reduceToNat,Int.reduceLE,Int.reduceLT, one_imm, List.length_map, hbk, eq_false (show ¬ (j : Int) < (nxt (f.bk b)).length by omega)]
      repeat ((with_reducible refine And.intro ?_ ?_); · omega)
      refine ECall.of (rahead_c (f.bk b) (L.out.getD b default) (by omega) (by have := hf.len _ (BF.mem hlt); omega) hreg.2 hreg.1) (SleL.pure rfl) ⟨_, fun _ => Iff.rfl⟩ fun x hx => ?_
      subst hx
      simp only [go_sem,Nat.reduceEqDiff,Nat.reduceAdd,Nat.reduceMul,↓reduceIte,↓dreduceIte,reduceCtorEq,Nat.reduceLeDiff,Nat.reduceLT,Nat.reduceSub,Int.reduceToNat,Int.reduceLE,Int.reduceLT, one_imm, List.length_map]
      repeat ((with_reducible refine And.intro ?_ ?_); · omega)
      refine ECall.of (rwithin27_c _ _ (by rw [aheadL_len, hli, hlo]; omega) (by rw [aheadL_len, hlo]; omega)) (SleL.pure rfl) ⟨_, fun _ => Iff.rfl⟩ fun x hx => ?_
      subst hx
      cases hw : withinB (aheadL (f.bk b) (L.out.getD b default)) (L.inn.getD b default)
      · simp only [go_sem,Nat.reduceEqDiff,Nat.reduceAdd,Nat.reduceMul,↓reduceIte,↓dreduceIte,reduceCtorEq,Nat.reduceLeDiff,Nat.reduceLT,Nat.reduceSub,Int.reduceToNat,Int.reduceLE,Int.reduceLT, one_imm, List.length_map]
        refine ⟨_, Frz.pure rfl, ?_⟩
        rw [hfalse (by unfold blkC; rw [hw]; simp)]
      · simp only [go_sem,Nat.reduceEqDiff,Nat.reduceAdd,Nat.reduceMul,↓reduceIte,↓dreduceIte,reduceCtorEq,Nat.reduceLeDiff,Nat.reduceLT,Nat.reduceSub,Int.reduceToNat,Int.reduceLE,Int.reduceLT, one_imm, List.length_map]
        rw [i64_in (by omega) (by omega)]
        refine ⟨b + 1, ⟨by omega, fun i hi => ?_⟩, by omega, Wk.mk (by simp [get_cons]) ⟨[], rfl⟩ (Nat.le_refl _)⟩
        by_cases e : i = b
        · rw [e]; unfold blkC; rw [hw, all_end (by omega) hq]; rfl
        · exact hp i (by omega)
  · simp only [go_sem,Nat.reduceEqDiff,Nat.reduceAdd,Nat.reduceMul,↓reduceIte,↓dreduceIte,reduceCtorEq,Nat.reduceLeDiff,Nat.reduceLT,Nat.reduceSub,Int.reduceToNat,Int.reduceLE,Int.reduceLT, one_imm, List.length_map, eq_false (show ¬ (b : Int) < f.bks.length by omega)]
    refine ⟨_, Frz.pure rfl, ?_⟩
    rw [show checkB f L = true from ?_]
    unfold checkB
    rw [hs, Bool.true_and, List.all_eq_true]
    exact fun i hi => hp i (by have := List.mem_range.1 hi; omega)
theorem check_c (f : BF) (L : LD) (hf : Fine f) (hL : LOK L) : Contract Try.prog 17 [bfA f, liveA L] (fun x => x = B (checkB f L)) := by
  refine Contract.of_call (VCall.of_body hmix f_live_Check (by simp) ?_)
  have hn : f.bks.length = f.n := rfl
  have hn5 := hf.b1
  rw [hn] at hn5
  have hr4 := hf.r1
  have hr0 := hf.r0
  have hr : f.r ≤ 4000 := by unfold BF.r; omega
  simp only [go_sem,Nat.reduceEqDiff,Nat.reduceAdd,Nat.reduceMul,↓reduceIte,↓dreduceIte,reduceCtorEq,Nat.reduceLeDiff,Nat.reduceLT,Nat.reduceSub,Int.reduceToNat,Int.reduceLE,Int.reduceLT, c_live_Check, one_imm, List.length_map]
  refine VCall.of_contract (fits_c f L.inn hL.i) (SleL.pure rfl) fun x hx => ?_
  subst hx
  cases hs1 : sizedL L.inn f.bks.length f.regs
  · simp only [go_sem,Nat.reduceEqDiff,Nat.reduceAdd,Nat.reduceMul,↓reduceIte,↓dreduceIte,reduceCtorEq,Nat.reduceLeDiff,Nat.reduceLT,Nat.reduceSub,Int.reduceToNat,Int.reduceLE,Int.reduceLT, one_imm, List.length_map]
    exact ⟨_, Frz.pure rfl, by simp [checkB, sizedB, hs1]⟩
  simp only [go_sem,Nat.reduceEqDiff,Nat.reduceAdd,Nat.reduceMul,↓reduceIte,↓dreduceIte,reduceCtorEq,Nat.reduceLeDiff,Nat.reduceLT,Nat.reduceSub,Int.reduceToNat,Int.reduceLE,Int.reduceLT, one_imm, List.length_map]
  refine VCall.of_contract (fits_c f L.out hL.o) (SleL.pure rfl) fun x hx => ?_
  subst hx
  cases hs2 : sizedL L.out f.bks.length f.regs
  · simp only [go_sem,Nat.reduceEqDiff,Nat.reduceAdd,Nat.reduceMul,↓reduceIte,↓dreduceIte,reduceCtorEq,Nat.reduceLeDiff,Nat.reduceLT,Nat.reduceSub,Int.reduceToNat,Int.reduceLE,Int.reduceLT, one_imm, List.length_map]
    exact ⟨_, Frz.pure rfl, by simp [checkB, sizedB, hs1, hs2]⟩
  have hs : sizedB f L = true := by unfold sizedB; rw [hs1, hs2]; rfl
  have hS := (sizedB_iff hr0 L).1 hs
  simp only [go_sem,Nat.reduceEqDiff,Nat.reduceAdd,Nat.reduceMul,↓reduceIte,↓dreduceIte,reduceCtorEq,Nat.reduceLeDiff,Nat.reduceLT,Nat.reduceSub,Int.reduceToNat,Int.reduceLE,Int.reduceLT, one_imm, List.length_map]
  refine VCall.of_contract (next_c f hf.b1) (SleL.pure rfl) fun x hx => ?_
  subst hx
  simp only [go_sem,Nat.reduceEqDiff,Nat.reduceAdd,Nat.reduceMul,↓reduceIte,↓dreduceIte,reduceCtorEq,Nat.reduceLeDiff,Nat.reduceLT,Nat.reduceSub,Int.reduceToNat,Int.reduceLE,Int.reduceLT, one_imm, List.length_map]
  refine VW_loop (fun k : Nat => ⟨[(2, .ptr 0 0 0), (3, .ptr 1 1 0), (5, .imm 1 (f.bks.map fun b => ints (nxt b))), (25, I f.bks.length), (26, I k)], [⟨0, 24, 1, [I f.regs, bksA f.bks]⟩, ⟨1, 29, 1, [rowsA L.inn, rowsA L.out]⟩], 2⟩)
    (fun k => k ≤ f.n ∧ ∀ b < k, blkC f L b = true) (fun k => f.n - k) 0 (Wk.mk (by simp [get_cons]) ⟨[], rfl⟩ (Nat.le_refl _)) ⟨by omega, by omega⟩ ?_
  rintro b ⟨hb, hp⟩
  by_cases hlt : b < f.n
  · have hfalse : blkC f L b = false → checkB f L = false := fun e => by
      unfold checkB
      rw [List.all_eq_false.2 ⟨b, List.mem_range.2 hlt, by rw [e]; decide⟩]; simp
    have hbk : f.bks.getD b default = f.bk b := rfl
    have hli : (L.inn.getD b default).length = f.r := hS.il hlt
    have hlo : (L.out.getD b default).length = f.r := hS.ol hlt
    have hnl := nxt_len (f.bk b)
    have hreg := hf.regs hlt hlo
    have hto := hf.to _ (BF.mem hlt)
    have h1i := hS.i
    have h1o := hS.o
    simp only [go_sem,Nat.reduceEqDiff,Nat.reduceAdd,Nat.reduceMul,↓reduceIte,↓dreduceIte,reduceCtorEq,Nat.reduceLeDiff,Nat.reduceLT,Nat.reduceSub,Int.reduceToNat,Int.reduceLE,Int.reduceLT, one_imm, List.length_map, eq_true (show (b : Int) < f.bks.length by omega), hbk]
    repeat ((with_reducible refine And.intro ?_ ?_); · omega)
    refine VW_loop (fun j : Nat => ⟨[(2, .ptr 0 0 0), (3, .ptr 1 1 0), (5, .imm 1 (f.bks.map fun b => ints (nxt b))), (25, I f.bks.length), (26, I b), (6, I b), (32, ints (nxt (f.bk b))), (33, I (nxt (f.bk b)).length), (34, I j)], [⟨0, 24, 1, [I f.regs, bksA f.bks]⟩, ⟨1, 29, 1, [rowsA L.inn, rowsA L.out]⟩], 2⟩)
      (fun j => j ≤ (nxt (f.bk b)).length ∧ ((nxt (f.bk b)).take j).all (fun k => withinB (L.inn.getD k.toNat default) (L.out.getD b default)) = true) (fun j => (nxt (f.bk b)).length - j) 0 (Wk.mk (by simp [get_cons]) ⟨[], rfl⟩ (Nat.le_refl _)) ⟨by omega, rfl⟩ ?_
    rintro j ⟨hj, hq⟩
    by_cases hl2 : j < (nxt (f.bk b)).length
    · have hto' := hto _ (mem_getD hl2)
      have hlk : (L.inn.getD ((nxt (f.bk b)).getD j default).toNat default).length = f.r := hS.il (by omega)
      simp only [go_sem,Nat.reduceEqDiff,Nat.reduceAdd,Nat.reduceMul,↓reduceIte,↓dreduceIte,reduceCtorEq,Nat.reduceLeDiff,Nat.reduceLT,Nat.reduceSub,Int.reduceToNat,Int.reduceLE,Int.reduceLT, one_imm, List.length_map, hbk, eq_true (show (j : Int) < (nxt (f.bk b)).length by omega)]
      repeat ((with_reducible refine And.intro ?_ ?_); · omega)
      refine VCall.of_contract (within_c _ _ (by rw [hlk, hlo]; omega) (by rw [hlk]; omega)) (SleL.pure rfl) fun x hx => ?_
      subst hx
      cases hw : withinB (L.inn.getD ((nxt (f.bk b)).getD j default).toNat default) (L.out.getD b default)
      · simp only [go_sem,Nat.reduceEqDiff,Nat.reduceAdd,Nat.reduceMul,↓reduceIte,↓dreduceIte,reduceCtorEq,Nat.reduceLeDiff,Nat.reduceLT,Nat.reduceSub,Int.reduceToNat,Int.reduceLE,Int.reduceLT, one_imm, List.length_map]
        refine ⟨_, Frz.pure rfl, ?_⟩
        rw [hfalse (by unfold blkC; rw [all_stop hl2 hw]; rfl)]
      · simp only [go_sem,Nat.reduceEqDiff,Nat.reduceAdd,Nat.reduceMul,↓reduceIte,↓dreduceIte,reduceCtorEq,Nat.reduceLeDiff,Nat.reduceLT,Nat.reduceSub,Int.reduceToNat,Int.reduceLE,Int.reduceLT, one_imm, List.length_map]
        rw [i64_in (by omega) (by omega)]
        exact ⟨j + 1, ⟨by omega, all_step hl2 hq hw⟩, by omega, Wk.mk (by simp [get_cons]) ⟨[], rfl⟩ (Nat.le_refl _)⟩
    · simp only [go_sem,Nat.reduceEqDiff,Nat.reduceAdd,Nat.reduceMul,↓reduceIte,↓dreduceIte,reduceCtorEq,Nat.reduceLeDiff,Nat.reduceLT,Nat.reduceSub,Int.reduceToNat,Int.reduceLE,Int.reduceLT, one_imm, List.length_map, hbk, eq_false (show ¬ (j : Int) < (nxt (f.bk b)).length by omega)]
      repeat ((with_reducible refine And.intro ?_ ?_); · omega)
      refine ECall.of (through_c (f.bk b) (L.out.getD b default) (by omega) (by have := hf.len _ (BF.mem hlt); omega) hreg.2 hreg.1) (SleL.pure rfl) ⟨_, fun _ => Iff.rfl⟩ fun x hx => ?_
      subst hx
      simp only [go_sem,Nat.reduceEqDiff,Nat.reduceAdd,Nat.reduceMul,↓reduceIte,↓dreduceIte,reduceCtorEq,Nat.reduceLeDiff,Nat.reduceLT,Nat.reduceSub,Int.reduceToNat,Int.reduceLE,Int.reduceLT, one_imm, List.length_map]
      repeat ((with_reducible refine And.intro ?_ ?_); · omega)
      refine ECall.of (within_c _ _ (by rw [aheadL_len, hli, hlo]; omega) (by rw [aheadL_len, hlo]; omega)) (SleL.pure rfl) ⟨_, fun _ => Iff.rfl⟩ fun x hx => ?_
      subst hx
      cases hw : withinB (aheadL (f.bk b) (L.out.getD b default)) (L.inn.getD b default)
      · simp only [go_sem,Nat.reduceEqDiff,Nat.reduceAdd,Nat.reduceMul,↓reduceIte,↓dreduceIte,reduceCtorEq,Nat.reduceLeDiff,Nat.reduceLT,Nat.reduceSub,Int.reduceToNat,Int.reduceLE,Int.reduceLT, one_imm, List.length_map]
        refine ⟨_, Frz.pure rfl, ?_⟩
        rw [hfalse (by unfold blkC; rw [hw]; simp)]
      · simp only [go_sem,Nat.reduceEqDiff,Nat.reduceAdd,Nat.reduceMul,↓reduceIte,↓dreduceIte,reduceCtorEq,Nat.reduceLeDiff,Nat.reduceLT,Nat.reduceSub,Int.reduceToNat,Int.reduceLE,Int.reduceLT, one_imm, List.length_map]
        rw [i64_in (by omega) (by omega)]
        refine ⟨b + 1, ⟨by omega, fun i hi => ?_⟩, by omega, Wk.mk (by simp [get_cons]) ⟨[], rfl⟩ (Nat.le_refl _)⟩
        by_cases e : i = b
        · rw [e]; unfold blkC; rw [hw, all_end (by omega) hq]; rfl
        · exact hp i (by omega)
  · simp only [go_sem,Nat.reduceEqDiff,Nat.reduceAdd,Nat.reduceMul,↓reduceIte,↓dreduceIte,reduceCtorEq,Nat.reduceLeDiff,Nat.reduceLT,Nat.reduceSub,Int.reduceToNat,Int.reduceLE,Int.reduceLT, one_imm, List.length_map, eq_false (show ¬ (b : Int) < f.bks.length by omega)]
    refine ⟨_, Frz.pure rfl, ?_⟩
    rw [show checkB f L = true from ?_]
    unfold checkB
    rw [hs, Bool.true_and, List.all_eq_true]
    exact fun i hi => hp i (by have := List.mem_range.1 hi; omega)
end Go.Proofs.Ytjdeediehmhdoaa
namespace Go.Proofs.Ytjdeediehmhdoaa
set_option linter.unusedSimpArgs false
set_option linter.unusedVariables false
set_option maxRecDepth 10000
open Go.V

/-- The rows as they are told, the last k of them told already. -/
def rowC (b : Bk) (l : List Bool) (k : Nat) : List AV := (List.range b.ins.length).map fun i => if i < b.ins.length - k then nilv else bools (atL b l (b.ins.length - 1 - i))
theorem rowC_len (b : Bk) (l : List Bool) (k : Nat) : (rowC b l k).length = b.ins.length := by simp [rowC]
theorem rowC_zero (b : Bk) (l : List Bool) : rowC b l 0 = List.replicate b.ins.length nilv := by
  refine List.ext_getElem (by simp [rowC]) fun i h1 h2 => ?_
  have : i < b.ins.length := by simpa [rowC] using h1
  simp [rowC, this]
theorem rowC_set (b : Bk) (l : List Bool) {k : Nat} (hk : k < b.ins.length) : (rowC b l k).set (b.ins.length - k - 1) (bools (atL b l k)) = rowC b l (k + 1) := by
  refine List.ext_getElem (by simp [rowC]) fun i h1 h2 => ?_
  have hi : i < b.ins.length := by simpa [rowC] using h2
  rw [List.getElem_set]
  simp only [rowC, List.getElem_map, List.getElem_range]
  by_cases h : b.ins.length - k - 1 = i
  · rw [if_pos h, if_neg (by omega), show b.ins.length - 1 - i = k by omega]
  · rw [if_neg h]
    by_cases h3 : i < b.ins.length - k
    · rw [if_pos h3, if_pos (by omega)]
    · rw [if_neg h3, if_neg (by omega)]
theorem rowC_all (b : Bk) (l : List Bool) : rowC b l b.ins.length = (behindL b l).map bools := by
  refine List.ext_getElem (by simp [rowC, behindL]) fun i h1 h2 => ?_
  have hi : i < b.ins.length := by simpa [rowC] using h1
  simp only [rowC, behindL, List.getElem_map, List.getElem_range, atL]
  rw [if_neg (by omega), show b.ins.length - (b.ins.length - 1 - i) = i + 1 by omega]
theorem rows_frz {n : Nat} {H : List VObj} {nx id s ty : Nat} {m : List (List Bool)} {len : Nat} (hid : n ≤ id) (ho : H[id]? = some ⟨s, ty, 1, m.map bools⟩) (hlen : len = m.length) : Frz n H nx (.ref id s 0 len) (rowsA m) :=
  frz_map hid ho hlen (fun _ => rfl) fun _ _ => Frz.pure rfl
theorem behindL_len (b : Bk) (l : List Bool) : (behindL b l).length = b.ins.length := by simp [behindL]

theorem rbehind_c (f : BF) (L : LD) (b : Nat) (hf : Fine f) (hb : b < f.n) (hob : b < L.out.length) (hlo : (L.out.getD b default).length = f.r) :
    Contract Try.prog 23 [bfA f, liveA L, I b] (fun x => x = rowsA (behindL (f.bk b) (L.out.getD b default))) := by
  refine Contract.of_call (VCall.of_body hmix f_scref27_Behind (by simp) ?_)
  have hr4 := hf.r1
  have hr : f.r ≤ 4000 := by unfold BF.r; omega
  have hnb : b < f.bks.length := hb
  have hbk : f.bks.getD b default = f.bk b := rfl
  have hlen := hf.len _ (BF.mem hb)
  have hreg := hf.regs hb hlo
  simp only [go_sem,Nat.reduceEqDiff,Nat.reduceAdd,Nat.reduceMul,↓reduceIte,↓dreduceIte,reduceCtorEq,Nat.reduceLeDiff,Nat.reduceLT,Nat.reduceSub,Int.reduceToNat,Int.reduceLE,Int.reduceLT, c_scref27_Behind, one_imm, one_ref, List.length_map, hbk]
  generalize f.bk b = k at hlen hreg ⊢
  generalize L.out.getD b default = l at hlo hreg ⊢
  repeat ((with_reducible refine And.intro ?_ ?_); · omega)
  refine VCall.of_contract (rlast_c k l (by omega) hreg.2).old (SleL.pure rfl) fun x hx => ?_
  subst hx
  simp only [go_sem,Nat.reduceEqDiff,Nat.reduceAdd,Nat.reduceMul,↓reduceIte,↓dreduceIte,reduceCtorEq,Nat.reduceLeDiff,Nat.reduceLT,Nat.reduceSub,Int.reduceToNat,Int.reduceLE,Int.reduceLT, one_imm, one_ref, List.length_map]
  rw [i64_in (by omega) (by omega)]
  refine VW_loop (fun j : Nat => ⟨[(7, .ptr 2 2 0), (8, .ref 3 3 0 k.ins.length), (9, bools (atL k l j)), (10, I ((k.ins.length : Int) - 1 - j))], [⟨0, 24, 1, [I f.regs, bksA f.bks]⟩, ⟨1, 29, 1, [rowsA L.inn, rowsA L.out]⟩, ⟨2, 42, 1, bkL k⟩, ⟨3, 39, 1, rowC k l j⟩], 4⟩)
    (fun j => j ≤ k.ins.length) (fun j => k.ins.length - j) 0 (Wk.mk (by simp [get_cons, atL_zero]) ⟨[], by simp [rowC_zero, flat_rep]⟩ (Nat.le_refl _)) (by omega) ?_
  intro j hj
  by_cases hlt : j < k.ins.length
  · have e1 : ((k.ins.length : Int) - 1 - j).toNat = k.ins.length - j - 1 := by omega
    simp only [go_sem,Nat.reduceEqDiff,Nat.reduceAdd,Nat.reduceMul,↓reduceIte,↓dreduceIte,reduceCtorEq,Nat.reduceLeDiff,Nat.reduceLT,Nat.reduceSub,Int.reduceToNat,Int.reduceLE,Int.reduceLT, one_imm, one_ref, List.length_map, eq_true (show (0 : Int) ≤ (k.ins.length : Int) - 1 - j by omega), e1, rowC_set k l hlt, rowC_len]
    repeat ((with_reducible refine And.intro ?_ ?_); · omega)
    refine VCall.of_contract (rback_c (k.ins.getD (k.ins.length - j - 1) default) (atL k l j) (by rw [atL_len]; omega) (by rw [atL_len]; exact hreg.1 _ (mem_getD (by omega)))).old (SleL.pure rfl) fun x hx => ?_
    subst hx
    rw [atL_step k l hlt]
    simp only [go_sem,Nat.reduceEqDiff,Nat.reduceAdd,Nat.reduceMul,↓reduceIte,↓dreduceIte,reduceCtorEq,Nat.reduceLeDiff,Nat.reduceLT,Nat.reduceSub,Int.reduceToNat,Int.reduceLE,Int.reduceLT, one_imm, one_ref, List.length_map]
    rw [i64_in (by omega) (by omega), show (k.ins.length : Int) - 1 - j - 1 = (k.ins.length : Int) - 1 - ((j + 1 : Nat) : Int) by omega]
    exact ⟨j + 1, by omega, by omega, Wk.mk (by simp [get_cons]) ⟨[], rfl⟩ (Nat.le_refl _)⟩
  · obtain rfl : j = k.ins.length := by omega
    simp only [go_sem,Nat.reduceEqDiff,Nat.reduceAdd,Nat.reduceMul,↓reduceIte,↓dreduceIte,reduceCtorEq,Nat.reduceLeDiff,Nat.reduceLT,Nat.reduceSub,Int.reduceToNat,Int.reduceLE,Int.reduceLT, one_imm, one_ref, List.length_map, eq_false (show ¬ (0 : Int) ≤ (k.ins.length : Int) - 1 - k.ins.length by omega)]
    refine ⟨_, rows_frz (Nat.zero_le _) (by rw [rowC_all]; rfl) (by rw [behindL_len]), rfl⟩

theorem all_B (l : List Bool) : (l.map B).all AV.one = true := one_map (fun _ => rfl) l
theorem cpyB2 (l : List Bool) (n : Nat) (hn : l.length = n) : List.take (min n n) (List.take n (List.map B l)) ++ List.drop (min n n) (List.map B (List.replicate n false)) = l.map B := by
  subst hn
  rw [List.take_of_length_le (by simp), List.take_of_length_le (by simp), List.drop_of_length_le (by simp), List.append_nil]

theorem cellT_set {cs : List AV} {i : Nat} {v : AV} {C : AV → Prop} (hi : i < cs.length) (hv : v.one = true) : cellT (cs.set i v) i false 1 C .mk = C v := by
  show (partOK (cs.set i v) i false 1 ∧ C (partA (cs.set i v) i false 1)) = C v
  have e : (cs.set i v).getD i .dead = v := by rw [List.getD, List.getElem?_set_self hi]; rfl
  unfold partOK partA
  rw [e]
  simp [hv]; omega
abbrev bhH (f : BF) (L : LD) (b : Bk) (n : Nat) (rs : List AV) (l : List Bool) (R : VObj) : List VObj :=
  [⟨0, 24, 1, [I f.regs, bksA f.bks]⟩, ⟨1, 29, 1, [rowsA L.inn, rowsA L.out]⟩, ⟨2, 39, 1, rs⟩, ⟨3, 27, 1, [.ref 2 2 0 b.ins.length]⟩,
   ⟨4, 42, 1, bkL b⟩, ⟨5, 78, 1, [.fn 43 [.ptr 3 3 0]]⟩, ⟨6, 4, 1, l.map B⟩, ⟨7, 39, 1, [.ref 6 6 0 n]⟩, ⟨8, 3, 1, [I b.ins.length]⟩, R]

theorem behind_c (f : BF) (L : LD) (b : Nat) (hf : Fine f) (hb : b < f.n) (hob : b < L.out.length) (hlo : (L.out.getD b default).length = f.r) :
    Contract Try.prog 22 [bfA f, liveA L, I b] (fun x => x = rowsA (behindL (f.bk b) (L.out.getD b default))) := by
  refine Contract.of_call (VCall.of_body hmix f_live_Behind (by simp) ?_)
  have hr4 := hf.r1
  have hr : f.r ≤ 4000 := by unfold BF.r; omega
  have hmx : (200000 : Nat) ≤ maxLen := by decide
  have hnb : b < f.bks.length := hb
  have hbk : f.bks.getD b default = f.bk b := rfl
  have hlen := hf.len _ (BF.mem hb)
  have hreg := hf.regs hb hlo
  simp only [go_sem,Nat.reduceEqDiff,Nat.reduceAdd,Nat.reduceMul,↓reduceIte,↓dreduceIte,reduceCtorEq,Nat.reduceLeDiff,Nat.reduceLT,Nat.reduceSub,Int.reduceToNat,Int.reduceLE,Int.reduceLT, c_live_Behind, one_imm, one_ref, List.length_map, hbk]
  generalize f.bk b = k at hlen hreg ⊢
  generalize L.out.getD b default = l at hlo hreg ⊢
  repeat ((with_reducible refine And.intro ?_ ?_); · omega)
  refine VCall.of_bodyB hmix f_live_through (by simp) ?_
  obtain ⟨hrt', hv⟩ := hreg
  by_cases h : k.e = 2
  all_goals
    have hv1 := hv
    first
    | simp only [go_sem,Nat.reduceEqDiff,Nat.reduceAdd,Nat.reduceMul,↓reduceIte,↓dreduceIte,reduceCtorEq,Nat.reduceLeDiff,Nat.reduceLT,Nat.reduceSub,Int.reduceToNat,Int.reduceLE,Int.reduceLT, c_live_through, one_imm, one_ref, List.length_map, cells_B, rep_B, cpy_B, eq_true h, set_B, last_pos h]
    | simp only [go_sem,Nat.reduceEqDiff,Nat.reduceAdd,Nat.reduceMul,↓reduceIte,↓dreduceIte,reduceCtorEq,Nat.reduceLeDiff,Nat.reduceLT,Nat.reduceSub,Int.reduceToNat,Int.reduceLE,Int.reduceLT, c_live_through, one_imm, one_ref, List.length_map, cells_B, rep_B, cpy_B, eq_false h]
    repeat ((with_reducible refine And.intro ?_ ?_); · first | exact laid_B l | omega)
    refine VCall.of_body hmix f_live_down (by simp) ?_
    simp only [go_sem,Nat.reduceEqDiff,Nat.reduceAdd,Nat.reduceMul,↓reduceIte,↓dreduceIte,reduceCtorEq,Nat.reduceLeDiff,Nat.reduceLT,Nat.reduceSub,Int.reduceToNat,Int.reduceLE,Int.reduceLT, c_live_down, one_imm, one_ref, List.length_map]
    intro R Bo E hz hY
    refine down_v k.ins.length 9 9 8 8 (fun j H nx => H = bhH f L k l.length (rowC k l j) (atL k l j) R ∧ 10 ≤ nx) _ _ _ (by omega) (fun j H nx hI => by rw [hI.1]; rfl) (fun j H nx C' hj hI hC' => ?_)
      ⟨by simp only [atL_zero, bhH, rowC_zero, flat_rep]; first | rfl | (rw [last_neg h]; rfl), by omega⟩ fun r H nx hI => ?_
    · obtain ⟨rfl, hnx⟩ := hI
      refine hY _ _ _ _ rfl rfl ?_
      clear hY
      have e1 : ((k.ins.length : Int) - 1 - j).toNat = k.ins.length - j - 1 := by omega
      have hrt := hrt' _ (mem_getD (show k.ins.length - j - 1 < k.ins.length by omega))
      simp only [go_sem,Nat.reduceEqDiff,Nat.reduceAdd,Nat.reduceMul,↓reduceIte,↓dreduceIte,reduceCtorEq,Nat.reduceLeDiff,Nat.reduceLT,Nat.reduceSub,Int.reduceToNat,Int.reduceLE,Int.reduceLT, one_imm, one_ref, List.length_map, e1, List.zip_cons_cons, List.zip_nil_left]
      refine VCall.of_body hmix f_live_Behind_1 (by simp) ?_
      simp only [go_sem,Nat.reduceEqDiff,Nat.reduceAdd,Nat.reduceMul,↓reduceIte,↓dreduceIte,reduceCtorEq,Nat.reduceLeDiff,Nat.reduceLT,Nat.reduceSub,Int.reduceToNat,Int.reduceLE,Int.reduceLT, c_live_Behind_1, one_imm, one_ref, List.length_map, e1]
      repeat ((with_reducible refine And.intro ?_ ?_); · first | omega | (rw [rowC_len]; omega))
      have hlj := atL_len k l j
      rw [cellT_set (by rw [rowC_len]; omega) rfl]
      simp only [go_sem,Nat.reduceEqDiff,Nat.reduceAdd,Nat.reduceMul,↓reduceIte,↓dreduceIte,reduceCtorEq,Nat.reduceLeDiff,Nat.reduceLT,Nat.reduceSub,Int.reduceToNat,Int.reduceLE,Int.reduceLT, one_imm, one_ref, List.length_map, e1, all_B, rep_B, cpyB2 _ _ hlj]
      repeat ((with_reducible refine And.intro ?_ ?_); · omega)
      refine VCall.of_contract (bSets_c _) (SleL.pure rfl) fun r hr' => ?_
      subst hr'
      have hst := atL_step k l hj
      have hrs := rowC_set k l hj
      have hrl := rowC_len k l j
      generalize hgt : k.ins.getD (k.ins.length - j - 1) default = t at hrt hst ⊢
      generalize hgx : atL k l j = x at hst hlj hrs ⊢
      generalize rowC k l j = rs at hrs hrl ⊢
      have hcl : (clearL t x).length = l.length := by rw [clearL_len, hlj]
      by_cases h0 : 0 ≤ setsL t
      all_goals
        have hs1 : 0 ≤ setsL t → setsL t < l.length := fun h => by rcases hrt.sets with e | e <;> omega
        first
        | simp only [go_sem,Nat.reduceEqDiff,Nat.reduceAdd,Nat.reduceMul,↓reduceIte,↓dreduceIte,reduceCtorEq,Nat.reduceLeDiff,Nat.reduceLT,Nat.reduceSub,Int.reduceToNat,Int.reduceLE,Int.reduceLT, one_imm, one_ref, List.length_map, e1, eq_true h0, set_B, clear_pos h0, hgt]
        | simp only [go_sem,Nat.reduceEqDiff,Nat.reduceAdd,Nat.reduceMul,↓reduceIte,↓dreduceIte,reduceCtorEq,Nat.reduceLeDiff,Nat.reduceLT,Nat.reduceSub,Int.reduceToNat,Int.reduceLE,Int.reduceLT, one_imm, one_ref, List.length_map, e1, eq_false h0, hgt]
        repeat ((with_reducible refine And.intro ?_ ?_); · first | omega | (have := hs1 h0; omega))
        refine VCall.of_contractN (bUses_c t) ?_ fun r hr' => ?_
        · exact ⟨_, _, rfl, Frz.pure rfl, rfl⟩
        subst hr'
        simp only [go_sem,Nat.reduceEqDiff,Nat.reduceAdd,Nat.reduceMul,↓reduceIte,↓dreduceIte,reduceCtorEq,Nat.reduceLeDiff,Nat.reduceLT,Nat.reduceSub,Int.reduceToNat,Int.reduceLE,Int.reduceLT, one_imm, one_ref, List.length_map]
        refine VW_loop (fun i : Nat => ⟨[(3, .ptr 4 4 0), (7, .ptr 7 7 0), (52, ints (usesL t)), (53, I (usesL t).length), (54, I i)], bhH f L k l.length (rowC k l (j + 1)) (useL (clearL t x) ((usesL t).take i)) Bo, nx + 1⟩)
          (fun i => i ≤ (usesL t).length) (fun i => (usesL t).length - i) 0 (Wk.give (by simp [get_cons]) (by
            simp only [OW, CW.refl, Nat.reduceEqDiff, false_implies, true_and, and_true]
            first
            | (rw [← hrs]; exact ⟨CW.set (frz_bools (l := x) (by simp) rfl (by omega)), CW.refl _, fun _ => trivial⟩)
            | (rw [← hrs, clear_neg h0]; exact ⟨CW.set (frz_bools (l := x) (by simp) rfl (by omega)), CW.refl _, fun _ => trivial⟩)) (Nat.le_refl _)) (by omega) ?_
        intro i hi
        have hu2 := usesL_len t
        by_cases hlt : i < (usesL t).length
        · have hu := hrt.1 _ (mem_getD hlt)
          simp only [go_sem,Nat.reduceEqDiff,Nat.reduceAdd,Nat.reduceMul,↓reduceIte,↓dreduceIte,reduceCtorEq,Nat.reduceLeDiff,Nat.reduceLT,Nat.reduceSub,Int.reduceToNat,Int.reduceLE,Int.reduceLT, one_imm, one_ref, List.length_map, eq_true (show (i : Int) < (usesL t).length by omega), set_B, ← useL_take _ _ hlt, useL_len, hcl]
          repeat ((with_reducible refine And.intro ?_ ?_); · omega)
          rw [i64_in (by omega) (by omega)]
          exact ⟨i + 1, by omega, by omega, Wk.mk (by simp [get_cons]) ⟨[], rfl⟩ (Nat.le_refl _)⟩
        · simp only [go_sem,Nat.reduceEqDiff,Nat.reduceAdd,Nat.reduceMul,↓reduceIte,↓dreduceIte,reduceCtorEq,Nat.reduceLeDiff,Nat.reduceLT,Nat.reduceSub,Int.reduceToNat,Int.reduceLE,Int.reduceLT, one_imm, one_ref, List.length_map, eq_false (show ¬ (i : Int) < (usesL t).length by omega)]
          refine hC' _ _ ⟨?_, by omega⟩
          rw [List.take_of_length_le (by omega), ← hst]
          rfl
    · obtain ⟨rfl, hnx⟩ := hI
      refine ⟨rfl, ?_⟩
      clear hY
      rw [rowC_all]
      simp only [go_sem,Nat.reduceEqDiff,Nat.reduceAdd,Nat.reduceMul,↓reduceIte,↓dreduceIte,reduceCtorEq,Nat.reduceLeDiff,Nat.reduceLT,Nat.reduceSub,Int.reduceToNat,Int.reduceLE,Int.reduceLT, one_imm, one_ref, List.length_map]
      exact ⟨_, rows_frz (Nat.zero_le _) rfl (by rw [behindL_len]), rfl⟩
end Go.Proofs.Ytjdeediehmhdoaa
namespace Go.Proofs.Ytjdeediehmhdoaa
set_option linter.unusedSimpArgs false
set_option linter.unusedVariables false
set_option maxRecDepth 10000
open Go.V

abbrev U64 (n : Int) : AV := .val (.int .u64 n)
/-- How many words a row of so many has. -/
def rl (r : Nat) : Nat := if r = 0 then 0 else 1
def rowC64 (l : List Bool) : List AV := if l.length = 0 then [] else [U64 (wd l)]
theorem rowC64_pos {l : List Bool} (h : l.length ≠ 0) : rowC64 l = [U64 (wd l)] := if_neg h
theorem rl_pos {r : Nat} (h : r ≠ 0) : rl r = 1 := if_neg h
theorem rowC64_len (l : List Bool) : (rowC64 l).length = rl l.length := by
  unfold rowC64 rl; split <;> rfl

theorem u64_nat {a : Nat} (h : a < 2 ^ 64) : IntKind.u64.wrap (a : Int) = a := by
  rw [IntKind.wrap_u64]; omega
theorem bv_nat {a : Nat} : BitVec.ofInt 64 (a : Int) = BitVec.ofNat 64 a := by
  rw [BitVec.ofInt_natCast]
theorem or64 {a b : Nat} (ha : a < 2 ^ 64) (hb : b < 2 ^ 64) : IntKind.u64.wrap ((BitVec.ofInt 64 (a : Int) ||| BitVec.ofInt 64 (b : Int)).toNat : Nat) = ((a ||| b : Nat) : Int) := by
  rw [bv_nat, bv_nat]
  have e : ((BitVec.ofNat 64 a ||| BitVec.ofNat 64 b).toNat) = a ||| b := by
    rw [BitVec.toNat_or, BitVec.toNat_ofNat, BitVec.toNat_ofNat, Nat.mod_eq_of_lt ha, Nat.mod_eq_of_lt hb]
  have h : a ||| b < 2 ^ 64 := Nat.or_lt_two_pow ha hb
  show IntKind.u64.wrap (((BitVec.ofNat 64 a ||| BitVec.ofNat 64 b).toNat : Nat) : Int) = _
  rw [e, u64_nat h]
/-- What is left of a row, another one's truths taken out. -/
def subL (a b : List Bool) : List Bool := (List.range a.length).map fun v => gB a v && !gB b v
theorem subL_len (a b : List Bool) : (subL a b).length = a.length := by simp [subL]
theorem gB_sub (a b : List Bool) {v : Nat} (hv : v < a.length) : gB (subL a b) v = (gB a v && !gB b v) := by
  unfold subL; rw [gB, List.getD]; simp [hv]
theorem andNot64 {a b : List Bool} (ha : a.length ≤ 64) (hb : b.length ≤ 64) : IntKind.u64.wrap ((BitVec.ofInt 64 (wd a : Int) &&& ~~~BitVec.ofInt 64 (wd b : Int)).toNat : Nat) = ((wd (subL a b) : Nat) : Int) := by
  rw [bv_nat, bv_nat]
  have e : (BitVec.ofNat 64 (wd a) &&& ~~~BitVec.ofNat 64 (wd b)).toNat = wd (subL a b) := wd_eq fun i => by
    rw [BitVec.testBit_toNat, BitVec.getLsbD_and, BitVec.getLsbD_not, BitVec.getLsbD_ofNat, BitVec.getLsbD_ofNat, wd_bit, wd_bit]
    rcases Nat.lt_or_ge i a.length with h | h
    · rw [gB_sub _ _ h]
      have : i < 64 := by omega
      simp [this]
    · rw [gB_out (l := a) h, gB_out (l := subL a b) (by rw [subL_len]; exact h)]; simp
  show IntKind.u64.wrap (((BitVec.ofNat 64 (wd a) &&& ~~~BitVec.ofNat 64 (wd b)).toNat : Nat) : Int) = _
  rw [e, u64_nat (wd_lt64 (by rw [subL_len]; exact ha))]
theorem shl64 {i : Nat} (h : i < 64) : IntKind.u64.wrap (1 * 2 ^ (min i 64)) = ((2 ^ i : Nat) : Int) := by
  rw [Nat.min_eq_left (by omega), Int.one_mul]
  have h2 : 2 ^ i < 2 ^ 64 := Nat.pow_lt_pow_right (by decide) h
  have := u64_nat h2
  rw [← this]
  congr 1
theorem wd_one {l : List Bool} {i : Nat} (hi : i < l.length) : 2 ^ i = wd ((List.replicate l.length false).set i true) := by
  have := wd_set (l := List.replicate l.length false) (i := i) (by simpa using hi)
  rw [wd_zero, Nat.zero_or] at this
  exact this
theorem sub_one {l : List Bool} {i : Nat} (hi : i < l.length) : subL l ((List.replicate l.length false).set i true) = l.set i false := gB_ext (by simp [subL]) fun v hv => by
  rw [subL_len] at hv
  rw [gB_sub _ _ hv, gB_set _ _ _ _ (by simpa using hv), gB_set _ _ _ _ hv, gB_rep]
  by_cases h : i = v
  · rw [if_pos h, if_pos h]; simp
  · rw [if_neg h, if_neg h]; simp

/-- Objects of other types than these stay. -/
def KeepT (tys : List Nat) (H H' : List VObj) : Prop := ∀ (k : Nat) (ob : VObj), H[k]? = some ob → ob.ty ∉ tys → H'[k]? = some ob
theorem KeepT.refl (tys : List Nat) (H : List VObj) : KeepT tys H H := fun _ _ h _ => h
theorem KeepT.trans {ts : List Nat} {A B C : List VObj} (h : KeepT ts A B) (k : KeepT ts B C) : KeepT ts A C := fun i ob h1 h2 => k i ob (h i ob h1 h2) h2
theorem KeepT.mono {ts us : List Nat} {A B : List VObj} (h : KeepT ts A B) (hs : ∀ t ∈ ts, t ∈ us) : KeepT us A B := fun i ob h1 h2 => h i ob h1 fun e => h2 (hs _ e)
theorem KeepT.app (ts : List Nat) (H R : List VObj) : KeepT ts H (H ++ R) := fun k ob h _ => by rw [List.getElem?_append_left (List.getElem?_eq_some_iff.1 h).1]; exact h
theorem KeepT.set {ts : List Nat} {H : List VObj} {k : Nat} {ob ob' : VObj} (h : H[k]? = some ob) (ht : ob.ty ∈ ts) : KeepT ts H (H.set k ob') := fun i o h1 h2 => by
  have hne : k ≠ i := fun e => by subst e; rw [h] at h1; cases h1; exact h2 ht
  rw [List.getElem?_set, if_neg hne]; exact h1
theorem ty_ne {H : List VObj} {i j : Nat} {a b : VObj} (h : H[i]? = some a) (k : H[j]? = some b) (ht : a.ty ≠ b.ty) : (i = j) = False := eq_false fun e => by subst e; rw [h] at k; cases k; exact ht rfl
theorem lt_of {H : List VObj} {i : Nat} {a : VObj} (h : H[i]? = some a) : (i < H.length) = True := eq_true (List.getElem?_eq_some_iff.1 h).1
theorem ne_len {H : List VObj} {i : Nat} {a : VObj} (h : H[i]? = some a) : (H.length = i) = False := eq_false fun e => by have := (List.getElem?_eq_some_iff.1 h).1; omega
theorem ne_len' {H : List VObj} {i : Nat} {a : VObj} (h : H[i]? = some a) : (H.length + 1 = i) = False := eq_false fun e => by have := (List.getElem?_eq_some_iff.1 h).1; omega

theorem set_of_get {α : Type} {l : List α} {i : Nat} {x : α} (h : l[i]? = some x) : l.set i x = l := by
  obtain ⟨hlt, rfl⟩ := List.getElem?_eq_some_iff.1 h
  exact List.set_getElem_self hlt
theorem set_get {H : List VObj} {k : Nat} {a x : VObj} (h : H[k]? = some a) : (H.set k x)[k]? = some x := by
  rw [List.getElem?_set_self (List.getElem?_eq_some_iff.1 h).1]
theorem set_ne {H : List VObj} {k j : Nat} {x : VObj} (h : k ≠ j) : (H.set k x)[j]? = H[j]? := by rw [List.getElem?_set_ne h]
theorem range_get {n b : Nat} (h : b < n) : (List.range n).getD b default = b := by simp [List.getD, h]

section
variable {H R : List VObj} {i : Nat} {x : VObj}
theorem app_get : (H ++ R)[H.length + i]? = R[i]? := by rw [List.getElem?_append_right (by omega)]; congr 1; omega
theorem app_get0 : (H ++ R)[H.length]? = R[0]? := by rw [List.getElem?_append_right (by omega), Nat.sub_self]
theorem app_set : (H ++ R).set (H.length + i) x = H ++ R.set i x := by rw [List.set_append_right _ _ (by omega)]; congr 2; omega
theorem app_set0 : (H ++ R).set H.length x = H ++ R.set 0 x := by rw [List.set_append_right _ _ (by omega), Nat.sub_self]
theorem app_old {a : VObj} (h : H[i]? = some a) : ∀ R, (H ++ R)[i]? = some a := fun R => by rw [List.getElem?_append_left (List.getElem?_eq_some_iff.1 h).1]; exact h
end

theorem stab_app (H R : List VObj) : Stab (fun _ => True) 1 H (H ++ R) := fun id ob _ h => ⟨ob, by rw [List.getElem?_append_left (List.getElem?_eq_some_iff.1 h).1]; exact h, rfl, rfl⟩
theorem stab_set {H : List VObj} {k : Nat} {ob ob' : VObj} (h : H[k]? = some ob) (hs : ob'.s = ob.s) (hz : ob'.sz = ob.sz) : Stab (fun _ => True) 1 H (H.set k ob') := fun id o _ ho => by
  rw [List.getElem?_set]
  by_cases e : k = id
  · subst e
    rw [h] at ho; cases ho
    rw [if_pos rfl, if_pos (List.getElem?_eq_some_iff.1 h).1]; exact ⟨_, rfl, hs, hz⟩
  · rw [if_neg e]; exact ⟨o, ho, rfl, rfl⟩

theorem rowC64_one (l : List Bool) : (rowC64 l).all AV.one = true := by unfold rowC64; split <;> rfl
theorem frz_row {n : Nat} {H : List VObj} {nx id s ty len : Nat} {l : List Bool} (hid : n ≤ id) (ho : H[id]? = some ⟨s, ty, 1, rowC64 l⟩) (hlen : len = rl l.length) : Frz n H nx (.ref id s 0 len) (.imm 1 (rowC64 l)) := by
  refine frz_whole hid ho (by rw [rowC64_len, hlen]) rfl (rowC64_one l) fun i x y hx hy => ?_
  rw [hx] at hy
  cases hy
  unfold rowC64 at hx
  split at hx
  · simp at hx
  · cases i with
    | zero => simp at hx; subst hx; exact Frz.pure rfl
    | succ i => simp at hx
def sprL (l : List Bool) (k : Nat) : List Bool := (List.range l.length).map fun v => if v < k then gB l v else false
theorem sprL_len (l : List Bool) (k : Nat) : (sprL l k).length = l.length := by simp [sprL]
theorem sprL_zero (l : List Bool) : sprL l 0 = List.replicate l.length false := by
  refine List.ext_getElem (by simp [sprL]) fun i h1 h2 => ?_
  simp [sprL]
theorem sprL_set (l : List Bool) {k : Nat} (hk : k < l.length) : (sprL l k).set k (gB l k) = sprL l (k + 1) := by
  refine List.ext_getElem (by simp [sprL]) fun i h1 h2 => ?_
  rw [List.getElem_set]
  simp only [sprL, List.getElem_map, List.getElem_range]
  by_cases h : k = i
  · subst h; simp
  · rw [if_neg h]
    by_cases h3 : i < k
    · rw [if_pos h3, if_pos (by omega)]
    · rw [if_neg h3, if_neg (by omega)]
theorem sprL_all (l : List Bool) : sprL l l.length = l := gB_ext (sprL_len _ _) fun v hv => by
  rw [sprL_len] at hv
  unfold sprL; rw [gB, List.getD]; simp [hv]

abbrev nextA (f : BF) : AV := .imm 1 (f.bks.map fun b => ints (nxt b))
theorem gath_take (I : List (List Bool)) (o : List Bool) (ks : List Int) {j : Nat} (hj : j < ks.length) : gath I o (ks.take (j + 1)) = orL (gath I o (ks.take j)) (I.getD (ks.getD j default).toNat default) := by
  have e : ks.take (j + 1) = ks.take j ++ [ks.getD j default] := by rw [List.take_add_one]; simp [List.getD, List.getElem?_eq_getElem hj]
  rw [e]; simp [gath]
end Go.Proofs.Ytjdeediehmhdoaa
namespace Go.Proofs.Ytjdeediehmhdoaa
set_option linter.unusedSimpArgs false
set_option linter.unusedVariables false
set_option maxRecDepth 10000
open Go.V

/-- A table in memory: so many rows of so many. -/
structure MT (n r : Nat) (H : List VObj) (k s : Nat) (g : Nat → Nat × Nat) (m : List (List Bool)) : Prop where
  l : H[k]? = some ⟨s, 39, 1, (List.range n).map fun b => .ref (g b).1 (g b).2 0 r⟩
  r : ∀ b < n, H[(g b).1]? = some ⟨(g b).2, 4, 1, (m.getD b []).map B⟩
  d : ∀ b < n, ∀ c < n, (g b).1 = (g c).1 → b = c
theorem MT.app {n r : Nat} {H : List VObj} {k s : Nat} {g : Nat → Nat × Nat} {m : List (List Bool)} (h : MT n r H k s g m) (R : List VObj) : MT n r (H ++ R) k s g m :=
  ⟨app_old h.l R, fun b hb => app_old (h.r b hb) R, h.d⟩
theorem cellT_row {n r b : Nat} {g : Nat → Nat × Nat} {C : AV → Prop} : cellT ((List.range n).map fun b => AV.ref (g b).1 (g b).2 0 r) b false 1 C .mk = (b < n ∧ C (.ref (g b).1 (g b).2 0 r)) := by
  rw [cellT_map (fun _ => rfl)]
  apply propext
  rw [List.length_range]
  refine ⟨fun ⟨h1, h2⟩ => ⟨h1, ?_⟩, fun ⟨h1, h2⟩ => ⟨h1, ?_⟩⟩
  · rw [range_get h1] at h2; exact h2
  · rw [range_get h1]; exact h2

structure NQ where
  i : Nat
  s : Nat
  T : List VObj
  g : Nat → Nat × Nat
  nx : Nat
theorem none_v (n r : Nat) (hn : n ≤ 500) (hr : r ≤ 4000) (H : List VObj) (nx : Nat) (C : AV → List VObj → Nat → Prop)
    (hC : ∀ s g R nx', MT n r (H ++ R) H.length s g (List.replicate n (List.replicate r false)) → (∀ b < n, H.length < (g b).1) → C (.ref H.length s 0 n) (H ++ R) nx') :
    VCall Try.prog 34 [I n, I r] H nx C := by
  refine VCall.of_body hmix f_scref27_none (by simp) ?_
  have hmx : (200000 : Nat) ≤ maxLen := by decide
  simp only [go_sem,Nat.reduceEqDiff,Nat.reduceAdd,Nat.reduceMul,↓reduceIte,↓dreduceIte,reduceCtorEq,Nat.reduceLeDiff,Nat.reduceLT,Nat.reduceSub,Int.reduceToNat,Int.reduceLE,Int.reduceLT, c_scref27_none, one_imm, one_ref]
  refine VW_loop (fun x : NQ => ⟨[(0, I n), (1, I r), (5, .ref H.length x.s 0 x.i), (6, I x.i)], H ++ ⟨x.s, 39, 1, (List.range x.i).map fun b => .ref (x.g b).1 (x.g b).2 0 r⟩ :: x.T, x.nx⟩)
    (fun x => x.i ≤ n ∧ (∀ b < x.i, H.length < (x.g b).1 ∧ (H ++ ⟨x.s, 39, 1, (List.range x.i).map fun b => .ref (x.g b).1 (x.g b).2 0 r⟩ :: x.T)[(x.g b).1]? = some ⟨(x.g b).2, 4, 1, (List.replicate r false).map B⟩) ∧
      ∀ b < x.i, ∀ c < x.i, (x.g b).1 = (x.g c).1 → b = c) (fun x => n - x.i) ⟨0, nx, [], fun _ => (0, 0), nx + 1⟩
    (Wk.virt 39 1 (by decide) (by simp [get_cons]) ⟨H, by simp, rfl, fun j ob' ho => ⟨ob', ho, rfl, rfl, rfl, rfl, fun _ => rfl, fun i x y hx hy => .inl (by rw [hx] at hy; exact Option.some.inj hy)⟩⟩ rfl)
    ⟨by simp, by simp, by simp⟩ ?_
  rintro ⟨i, s, T, g, nx⟩ ⟨hi, hg, hd⟩
  simp only at hi hg hd
  by_cases hlt : i < n
  · simp only [go_sem,Nat.reduceEqDiff,Nat.reduceAdd,Nat.reduceMul,↓reduceIte,↓dreduceIte,reduceCtorEq,Nat.reduceLeDiff,Nat.reduceLT,Nat.reduceSub,Int.reduceToNat,Int.reduceLE,Int.reduceLT, one_imm, one_ref, rep_B, eq_true (show (i : Int) < n by omega), app_get, app_get0, app_set0, List.append_assoc, List.length_append]
    repeat ((with_reducible refine And.intro ?_ ?_); · first | omega | exact ⟨rfl, rfl, rfl⟩)
    rw [i64_in (by omega) (by omega)]
    have hle : ((List.range i).map fun b => AV.ref (g b).1 (g b).2 0 r).length = i := by simp
    refine ⟨⟨i + 1, nx + 1 + 1, T ++ [⟨nx, 4, 1, (List.replicate r false).map B⟩, ⟨nx + 1, 39, 1, [.ref (H.length + (T.length + 1)) nx 0 r]⟩], fun b => if b = i then (H.length + (T.length + 1), nx) else g b, nx + 1 + 1 + 1⟩, ⟨by simp only; omega, fun b hb => ?_, fun b hb c hc e => ?_⟩, by simp only; omega, Wk.mk (by simp [get_cons]) ⟨[], ?_⟩ (Nat.le_refl _)⟩
    · simp only at hb ⊢
      by_cases e : b = i
      · subst e
        rw [if_pos rfl]
        refine ⟨by omega, ?_⟩
        simp only [app_get, List.getElem?_cons_succ, app_get0, List.getElem?_cons_zero]
      · rw [if_neg e]
        have hb' := hg b (by omega)
        refine ⟨hb'.1, ?_⟩
        have h2 := hb'.2
        obtain ⟨j, hj⟩ : ∃ j, (g b).1 = H.length + (j + 1) := ⟨(g b).1 - H.length - 1, by have := hb'.1; omega⟩
        rw [hj, app_get, List.getElem?_cons_succ] at h2 ⊢
        exact app_old h2 _
    · simp only at hb hc e
      by_cases e1 : b = i
      · by_cases e2 : c = i
        · rw [e1, e2]
        · rw [if_pos e1, if_neg e2] at e
          obtain ⟨h1, h2⟩ := hg c (by omega)
          have := (List.getElem?_eq_some_iff.1 h2).1
          simp at this; omega
      · by_cases e2 : c = i
        · rw [if_neg e1, if_pos e2] at e
          obtain ⟨h1, h2⟩ := hg b (by omega)
          have := (List.getElem?_eq_some_iff.1 h2).1
          simp at this; omega
        · rw [if_neg e1, if_neg e2] at e
          exact hd b (by omega) c (by omega) e
    · rw [List.append_nil]
      have key : ((List.range i).map fun b => AV.ref (g b).1 (g b).2 0 r).take i ++ [AV.ref (H.length + (T.length + 1)) nx 0 r] =
          (List.range (i + 1)).map fun b => AV.ref (if b = i then (H.length + (T.length + 1), nx) else g b).1 (if b = i then (H.length + (T.length + 1), nx) else g b).2 0 r := by
        rw [List.take_of_length_le (by rw [hle]; omega), List.range_succ, List.map_append]
        congr 1
        · refine List.map_congr_left fun b hb => ?_
          have : b ≠ i := by have := List.mem_range.1 hb; omega
          rw [if_neg this]
        · simp
      exact congrArg (fun c => H ++ VObj.mk (nx + 1 + 1) 39 1 c :: (T ++ [⟨nx, 4, 1, (List.replicate r false).map B⟩, ⟨nx + 1, 39, 1, [.ref (H.length + (T.length + 1)) nx 0 r]⟩])) key
  · obtain rfl : i = n := by omega
    simp only [go_sem,Nat.reduceEqDiff,Nat.reduceAdd,Nat.reduceMul,↓reduceIte,↓dreduceIte,reduceCtorEq,Nat.reduceLeDiff,Nat.reduceLT,Nat.reduceSub,Int.reduceToNat,Int.reduceLE,Int.reduceLT, eq_false (show ¬ (i : Int) < i by omega)]
    refine hC s g _ nx ⟨by rw [app_get0]; rfl, fun b hb => ?_, hd⟩ fun b hb => (hg b hb).1
    rw [(hg b hb).2, List.getD, List.getElem?_replicate, if_pos hb]
    rfl
end Go.Proofs.Ytjdeediehmhdoaa
namespace Go.Proofs.Ytjdeediehmhdoaa
set_option linter.unusedSimpArgs false
set_option linter.unusedVariables false
set_option maxRecDepth 10000
open Go.V

theorem rowOf_v (r : Nat) (hr : r ≤ 64) (H : List VObj) (nx : Nat) (C : AV → List VObj → Nat → Prop)
    (hC : C (.ref H.length nx 0 (rl r)) (H ++ [⟨nx, 88, 1, rowC64 (List.replicate r false)⟩]) (nx + 1)) : VCall Try.prog 49 [I r] H nx C := by
  refine VCall.of_body hmix f_live_rowOf (by simp) ?_
  have e1 : IntKind.i64.wrap ((r : Int) + 63) = r + 63 := i64_in (by omega) (by omega)
  have e2 : ((r : Int) + 63).tdiv 64 = rl r := by
    unfold rl
    split
    · rename_i h; subst h; rfl
    · rw [Int.tdiv_eq_ediv_of_nonneg (by omega)]; omega
  have e3 : IntKind.i64.wrap (rl r : Int) = rl r := by unfold rl; split <;> rfl
  have e4 : rl r ≤ 1 := by unfold rl; split <;> decide
  simp only [go_sem,Nat.reduceEqDiff,Nat.reduceAdd,Nat.reduceMul,↓reduceIte,↓dreduceIte,reduceCtorEq,Nat.reduceLeDiff,Nat.reduceLT,Nat.reduceSub,Int.reduceToNat,Int.reduceLE,Int.reduceLT, c_live_rowOf, e1, e2, e3]
  repeat ((with_reducible refine And.intro ?_ ?_); · first | omega | decide)
  rw [show (List.replicate (rl r) [AV.val (.int .u64 0)]).flatten = rowC64 (List.replicate r false) by
    unfold rl rowC64
    by_cases h : r = 0
    · subst h; rfl
    · rw [if_neg h, if_neg (by simpa using h), wd_zero]; rfl]
  exact hC

section
variable (l : List Bool) (i : Int) (H : List VObj) (nx k s m : Nat) (hm : m = rl l.length) (hl : l.length ≤ 64) (hi : 0 ≤ i ∧ i < l.length) (ho : H[k]? = some ⟨s, 88, 1, rowC64 l⟩) (C : AV → List VObj → Nat → Prop)
include hm hl hi ho
theorem add_v (hC : ∀ r, C r (H.set k ⟨s, 88, 1, rowC64 (l.set i.toNat true)⟩) nx) : VCall Try.prog 58 [.ref k s 0 m, I i] H nx C := by
  refine VCall.of_body hmix f_live_row_add (by simp) ?_
  subst hm
  obtain ⟨j, rfl⟩ : ∃ j : Nat, i = j := ⟨i.toNat, by omega⟩
  have hj : j < l.length := by omega
  have hne : l.length ≠ 0 := by omega
  have e1 : ((j : Int)).tdiv 64 = 0 := by rw [Int.tdiv_eq_ediv_of_nonneg (by omega)]; omega
  have e2 : ((j : Int)).tmod 64 = j := by rw [Int.tmod_eq_emod_of_nonneg (by omega)]; omega
  have e3 := shl64 (show j < 64 by omega)
  have e4 : IntKind.i64.wrap 0 = 0 := rfl
  have e5 : IntKind.i64.wrap (j : Int) = j := i64_in (by omega) (by omega)
  have e6 := or64 (wd_lt64 hl) (show 2 ^ j < 2 ^ 64 from Nat.pow_lt_pow_right (by decide) (by omega))
  rw [wd_set hj] at e6
  have hC' := hC
  rw [rowC64_pos (by simpa using hne), Int.toNat_natCast] at hC'
  rw [rowC64_pos hne] at ho
  simp only [go_sem,Nat.reduceEqDiff,Nat.reduceAdd,Nat.reduceMul,↓reduceIte,↓dreduceIte,reduceCtorEq,Nat.reduceLeDiff,Nat.reduceLT,Nat.reduceSub,Int.reduceToNat,Int.reduceLE,Int.reduceLT, c_live_row_add, e1, e2, e3, e4, e5, ho, rl_pos hne]
  repeat ((with_reducible refine And.intro ?_ ?_); · first | omega | decide)
  have h7 : ∀ r, C r (H.set k ⟨s, 88, 1, [U64 (IntKind.u64.wrap ((BitVec.ofInt 64 (wd l : Int) ||| BitVec.ofInt 64 ((2 ^ j : Nat) : Int)).toNat : Nat))]⟩) nx := fun r => by rw [e6]; exact hC' _
  exact h7 _
theorem remove_v (hC : ∀ r, C r (H.set k ⟨s, 88, 1, rowC64 (l.set i.toNat false)⟩) nx) : VCall Try.prog 59 [.ref k s 0 m, I i] H nx C := by
  refine VCall.of_body hmix f_live_row_remove (by simp) ?_
  subst hm
  obtain ⟨j, rfl⟩ : ∃ j : Nat, i = j := ⟨i.toNat, by omega⟩
  have hj : j < l.length := by omega
  have hne : l.length ≠ 0 := by omega
  have e1 : ((j : Int)).tdiv 64 = 0 := by rw [Int.tdiv_eq_ediv_of_nonneg (by omega)]; omega
  have e2 : ((j : Int)).tmod 64 = j := by rw [Int.tmod_eq_emod_of_nonneg (by omega)]; omega
  have e3 := shl64 (show j < 64 by omega)
  have e4 : IntKind.i64.wrap 0 = 0 := rfl
  have e5 : IntKind.i64.wrap (j : Int) = j := i64_in (by omega) (by omega)
  have e6 := andNot64 (b := (List.replicate l.length false).set j true) hl (by simpa using hl)
  rw [← wd_one hj, sub_one hj] at e6
  have hC' := hC
  rw [rowC64_pos (by simpa using hne), Int.toNat_natCast] at hC'
  rw [rowC64_pos hne] at ho
  simp only [go_sem,Nat.reduceEqDiff,Nat.reduceAdd,Nat.reduceMul,↓reduceIte,↓dreduceIte,reduceCtorEq,Nat.reduceLeDiff,Nat.reduceLT,Nat.reduceSub,Int.reduceToNat,Int.reduceLE,Int.reduceLT, c_live_row_remove, e1, e2, e3, e4, e5, ho, rl_pos hne]
  repeat ((with_reducible refine And.intro ?_ ?_); · first | omega | decide)
  have h7 : ∀ r, C r (H.set k ⟨s, 88, 1, [U64 (IntKind.u64.wrap ((BitVec.ofInt 64 (wd l : Int) &&& ~~~BitVec.ofInt 64 ((2 ^ j : Nat) : Int)).toNat : Nat))]⟩) nx := fun r => by rw [e6]; exact hC' _
  exact h7 _
end
end Go.Proofs.Ytjdeediehmhdoaa
namespace Go.Proofs.Ytjdeediehmhdoaa
set_option linter.unusedSimpArgs false
set_option linter.unusedVariables false
set_option maxRecDepth 10000
open Go.V

theorem done_step (ins : List Tac) (l : List Bool) {k : Nat} (hk : k < ins.length) : doneL (ins.drop (ins.length - (k + 1))) l =
    if 0 ≤ setsL (ins.getD (ins.length - k - 1) default) then (doneL (ins.drop (ins.length - k)) l).set (setsL (ins.getD (ins.length - k - 1) default)).toNat true else doneL (ins.drop (ins.length - k)) l := by
  rw [show ins.length - (k + 1) = ins.length - k - 1 by omega]
  have e : ins.getD (ins.length - k - 1) default = ins[ins.length - k - 1]'(by omega) := by simp [List.getD, List.getElem?_eq_getElem (show ins.length - k - 1 < ins.length by omega)]
  rw [e]
  conv => lhs; rw [List.drop_eq_getElem_cons (show ins.length - k - 1 < ins.length by omega), show ins.length - k - 1 + 1 = ins.length - k by omega]
  rfl
abbrev toL (b : Bk) (r k : Nat) : List Bool := doneL (b.ins.drop (b.ins.length - k)) (List.replicate r false)

abbrev tcH (b : Bk) (r : Nat) (x y : List Bool) (R : VObj) : List VObj := [⟨0, 42, 1, bkL b⟩, ⟨1, 70, 1, [.ref 3 3 0 (rl r)]⟩, ⟨2, 70, 1, [.ref 4 4 0 (rl r)]⟩, ⟨3, 88, 1, rowC64 x⟩, ⟨4, 88, 1, rowC64 y⟩, ⟨5, 3, 1, [I b.ins.length]⟩, R]
theorem touch_c (b : Bk) (r : Nat) (hr : r ≤ 64) (hn : b.ins.length ≤ 1000000) (hv : b.e = 2 → 0 ≤ b.v ∧ b.v < r) (hrt : ∀ t ∈ b.ins, RegT t r) :
    Contract Try.prog 48 [bkA b, I r] (fun x => x = .tup [.imm 1 (rowC64 (readL b r)), .imm 1 (rowC64 (setL b r))]) := by
  refine Contract.of_call (VCall.of_bodyB hmix f_live_touch (by simp) ?_)
  have hzl : (List.replicate r false).length = r := by simp
  simp only [go_sem,Nat.reduceEqDiff,Nat.reduceAdd,Nat.reduceMul,↓reduceIte,↓dreduceIte,reduceCtorEq,Nat.reduceLeDiff,Nat.reduceLT,Nat.reduceSub,Int.reduceToNat,Int.reduceLE,Int.reduceLT, c_live_touch, one_imm, one_ref, List.length_map]
  refine rowOf_v r hr _ _ _ ?_
  try refine ⟨stab_app _ _, ?_⟩
  simp only [go_sem,Nat.reduceEqDiff,Nat.reduceAdd,Nat.reduceMul,↓reduceIte,↓dreduceIte,reduceCtorEq,Nat.reduceLeDiff,Nat.reduceLT,Nat.reduceSub,Int.reduceToNat,Int.reduceLE,Int.reduceLT, one_imm, one_ref, List.length_map]
  refine rowOf_v r hr _ _ _ ?_
  try refine ⟨stab_app _ _, ?_⟩
  by_cases h : b.e = 2
  all_goals
    first
    | (simp only [go_sem,Nat.reduceEqDiff,Nat.reduceAdd,Nat.reduceMul,↓reduceIte,↓dreduceIte,reduceCtorEq,Nat.reduceLeDiff,Nat.reduceLT,Nat.reduceSub,Int.reduceToNat,Int.reduceLE,Int.reduceLT, one_imm, one_ref, List.length_map, eq_true (show b.e = 2 from h)]
       refine add_v (List.replicate r false) b.v _ _ 3 3 _ (by rw [hzl]) (by rw [hzl]; exact hr) (by rw [hzl]; exact hv h) rfl _ fun _ => ?_
       simp only [go_sem,Nat.reduceEqDiff,Nat.reduceAdd,Nat.reduceMul,↓reduceIte,↓dreduceIte,reduceCtorEq,Nat.reduceLeDiff,Nat.reduceLT,Nat.reduceSub,Int.reduceToNat,Int.reduceLE,Int.reduceLT, one_imm, one_ref, List.length_map, last_pos h])
    | simp only [go_sem,Nat.reduceEqDiff,Nat.reduceAdd,Nat.reduceMul,↓reduceIte,↓dreduceIte,reduceCtorEq,Nat.reduceLeDiff,Nat.reduceLT,Nat.reduceSub,Int.reduceToNat,Int.reduceLE,Int.reduceLT, one_imm, one_ref, List.length_map, eq_false h]
    refine VCall.of_body hmix f_live_down (by simp) ?_
    simp only [go_sem,Nat.reduceEqDiff,Nat.reduceAdd,Nat.reduceMul,↓reduceIte,↓dreduceIte,reduceCtorEq,Nat.reduceLeDiff,Nat.reduceLT,Nat.reduceSub,Int.reduceToNat,Int.reduceLE,Int.reduceLT, c_live_down, one_imm, one_ref, List.length_map]
    intro R Bo E hz hY
    refine down_v b.ins.length 6 6 5 5 (fun k H nx => H = tcH b r (atL b (List.replicate r false) k) (toL b r k) R ∧ nx = 7) _ _ _ hn (fun k H nx hI => by rw [hI.1]; rfl) (fun k H nx C' hk hI hC' => ?_)
      ⟨by simp only [atL_zero, tcH, toL, Nat.sub_zero, List.drop_length]; first | rfl | (rw [last_neg h]; rfl), rfl⟩ fun x H nx hI => ?_
    · obtain ⟨rfl, rfl⟩ := hI
      refine hY _ _ _ _ rfl rfl ?_
      clear hY
      have e1 : ((b.ins.length : Int) - 1 - k).toNat = b.ins.length - k - 1 := by omega
      have hrt := hrt _ (mem_getD (show b.ins.length - k - 1 < b.ins.length by omega))
      simp only [go_sem,Nat.reduceEqDiff,Nat.reduceAdd,Nat.reduceMul,↓reduceIte,↓dreduceIte,reduceCtorEq,Nat.reduceLeDiff,Nat.reduceLT,Nat.reduceSub,Int.reduceToNat,Int.reduceLE,Int.reduceLT, one_imm, one_ref, List.length_map, e1, List.zip_cons_cons, List.zip_nil_left]
      repeat ((with_reducible refine And.intro ?_ ?_); · omega)
      refine VCall.of_contract (bSets_c _) (SleL.pure rfl) fun r hr' => ?_
      subst hr'
      have hst := atL_step b (List.replicate r false) hk
      have hdn := done_step b.ins (List.replicate r false) hk
      have hlx : (atL b (List.replicate r false) k).length = r := by rw [atL_len, hzl]
      have hly : (toL b r k).length = r := by rw [toL, doneL_len, hzl]
      generalize hgt : b.ins.getD (b.ins.length - k - 1) default = t at hrt hst hdn ⊢
      generalize hgx : atL b (List.replicate r false) k = x at hst hlx ⊢
      rw [show doneL (List.drop (b.ins.length - k) b.ins) (List.replicate r false) = toL b r k from rfl] at hdn
      generalize hgy : toL b r k = y at hdn hly ⊢
      have hs1 : 0 ≤ setsL t → setsL t < r := fun h => by rcases hrt.sets with e | e <;> omega
      by_cases h0 : 0 ≤ setsL t
      all_goals
        first
        | (simp only [go_sem,Nat.reduceEqDiff,Nat.reduceAdd,Nat.reduceMul,↓reduceIte,↓dreduceIte,reduceCtorEq,Nat.reduceLeDiff,Nat.reduceLT,Nat.reduceSub,Int.reduceToNat,Int.reduceLE,Int.reduceLT, one_imm, one_ref, List.length_map, e1, eq_true (show 0 ≤ setsL t from h0)]
           refine remove_v x (setsL t) _ _ 3 3 _ (by rw [hlx]) (by rw [hlx]; exact hr) (by rw [hlx]; exact ⟨h0, hs1 h0⟩) rfl _ fun _ => ?_
           simp only [go_sem,Nat.reduceEqDiff,Nat.reduceAdd,Nat.reduceMul,↓reduceIte,↓dreduceIte,reduceCtorEq,Nat.reduceLeDiff,Nat.reduceLT,Nat.reduceSub,Int.reduceToNat,Int.reduceLE,Int.reduceLT, one_imm, one_ref, List.length_map, clear_pos h0]
           refine add_v y (setsL t) _ _ 4 4 _ (by rw [hly]) (by rw [hly]; exact hr) (by rw [hly]; exact ⟨h0, hs1 h0⟩) rfl _ fun _ => ?_
           rw [if_pos h0] at hdn
           rw [← hdn]
           simp only [go_sem,Nat.reduceEqDiff,Nat.reduceAdd,Nat.reduceMul,↓reduceIte,↓dreduceIte,reduceCtorEq,Nat.reduceLeDiff,Nat.reduceLT,Nat.reduceSub,Int.reduceToNat,Int.reduceLE,Int.reduceLT, one_imm, one_ref, List.length_map, e1, hgt])
        | (rw [if_neg h0] at hdn
           rw [← hdn]
           simp only [go_sem,Nat.reduceEqDiff,Nat.reduceAdd,Nat.reduceMul,↓reduceIte,↓dreduceIte,reduceCtorEq,Nat.reduceLeDiff,Nat.reduceLT,Nat.reduceSub,Int.reduceToNat,Int.reduceLE,Int.reduceLT, one_imm, one_ref, List.length_map, e1, eq_false h0, hgt])
        repeat ((with_reducible refine And.intro ?_ ?_); · omega)
        refine VCall.of_contractN (bUses_c t) ?_ fun r hr' => ?_
        · exact ⟨_, _, rfl, Frz.pure rfl, rfl⟩
        subst hr'
        simp only [go_sem,Nat.reduceEqDiff,Nat.reduceAdd,Nat.reduceMul,↓reduceIte,↓dreduceIte,reduceCtorEq,Nat.reduceLeDiff,Nat.reduceLT,Nat.reduceSub,Int.reduceToNat,Int.reduceLE,Int.reduceLT, one_imm, one_ref, List.length_map]
        have hcl : (clearL t x).length = r := by rw [clearL_len, hlx]
        refine VW_loop (fun j : Nat => ⟨[(2, .ptr 0 0 0), (4, .ptr 1 1 0), (5, .ptr 2 2 0), (45, ints (usesL t)), (46, I (usesL t).length), (47, I j)], tcH b r (useL (clearL t x) ((usesL t).take j)) (doneL (List.drop (b.ins.length - (k + 1)) b.ins) (List.replicate r false)) Bo, 7⟩)
          (fun j => j ≤ (usesL t).length) (fun j => (usesL t).length - j) 0 (Wk.mk (by simp [get_cons]) ⟨[], by first | rfl | (rw [clear_neg h0]; rfl)⟩ (Nat.le_refl _)) (by omega) ?_
        intro j hj
        have hu2 := usesL_len t
        by_cases hlt : j < (usesL t).length
        · have hu := hrt.1 _ (mem_getD hlt)
          simp only [go_sem,Nat.reduceEqDiff,Nat.reduceAdd,Nat.reduceMul,↓reduceIte,↓dreduceIte,reduceCtorEq,Nat.reduceLeDiff,Nat.reduceLT,Nat.reduceSub,Int.reduceToNat,Int.reduceLE,Int.reduceLT, one_imm, one_ref, List.length_map, eq_true (show (j : Int) < (usesL t).length by omega)]
          repeat ((with_reducible refine And.intro ?_ ?_); · omega)
          refine add_v (useL (clearL t x) ((usesL t).take j)) _ _ _ 3 3 _ (by rw [useL_len, hcl]) (by rw [useL_len, hcl]; exact hr) (by rw [useL_len, hcl]; exact hu) rfl _ fun _ => ?_
          rw [← useL_take _ _ hlt]
          simp only [go_sem,Nat.reduceEqDiff,Nat.reduceAdd,Nat.reduceMul,↓reduceIte,↓dreduceIte,reduceCtorEq,Nat.reduceLeDiff,Nat.reduceLT,Nat.reduceSub,Int.reduceToNat,Int.reduceLE,Int.reduceLT, one_imm, one_ref, List.length_map]
          rw [i64_in (by omega) (by omega)]
          exact ⟨j + 1, by omega, by omega, Wk.mk (by simp [get_cons]) ⟨[], rfl⟩ (Nat.le_refl _)⟩
        · simp only [go_sem,Nat.reduceEqDiff,Nat.reduceAdd,Nat.reduceMul,↓reduceIte,↓dreduceIte,reduceCtorEq,Nat.reduceLeDiff,Nat.reduceLT,Nat.reduceSub,Int.reduceToNat,Int.reduceLE,Int.reduceLT, one_imm, one_ref, List.length_map, eq_false (show ¬ (j : Int) < (usesL t).length by omega)]
          refine hC' _ _ ⟨?_, rfl⟩
          rw [List.take_of_length_le (by omega), ← hst]
          rfl
    · obtain ⟨rfl, rfl⟩ := hI
      refine ⟨rfl, ?_⟩
      clear hY
      rw [atL_all, show toL b r b.ins.length = setL b r by simp [toL, setL]]
      simp only [go_sem,Nat.reduceEqDiff,Nat.reduceAdd,Nat.reduceMul,↓reduceIte,↓dreduceIte,reduceCtorEq,Nat.reduceLeDiff,Nat.reduceLT,Nat.reduceSub,Int.reduceToNat,Int.reduceLE,Int.reduceLT, one_imm, one_ref, List.length_map]
      refine and_self_iff.2 ⟨_, Frz.tup (ys := [_, _]) ?_, rfl⟩
      exact ⟨_, _, rfl, frz_row (l := readL b r) (Nat.zero_le _) rfl (by simp [readL, aheadL_len]), _, _, rfl, frz_row (l := setL b r) (Nat.zero_le _) rfl (by simp [setL, doneL_len]), rfl⟩

/-- Is it in? -/
theorem bit64 {l : List Bool} {v : Nat} (hv : v < 64) (hl : l.length ≤ 64) : (IntKind.u64.wrap ((BitVec.ofInt 64 ((wd l : Int).fdiv (2 ^ min v 64)) &&& BitVec.ofInt 64 1).toNat : Nat) == (1 : Int)) = gB l v := by
  rw [Nat.min_eq_left (by omega), Int.fdiv_eq_ediv_of_nonneg _ (by exact Int.le_of_lt (Int.pow_pos (by decide)))]
  have e : ((wd l : Int) / 2 ^ v) = ((wd l >>> v : Nat) : Int) := by rw [Nat.shiftRight_eq_div_pow]; simp
  have hlt : wd l >>> v < 2 ^ 64 := Nat.lt_of_le_of_lt (Nat.shiftRight_le _ _) (wd_lt64 hl)
  rw [e, bv_nat, show BitVec.ofInt 64 1 = BitVec.ofNat 64 1 from rfl, BitVec.toNat_and, BitVec.toNat_ofNat, BitVec.toNat_ofNat, Nat.mod_eq_of_lt hlt, show 1 % 2 ^ 64 = 1 by decide, Nat.and_one_is_mod]
  have h2 := wd_bit l v
  rw [Nat.testBit_eq_decide_div_mod_eq, ← Nat.shiftRight_eq_div_pow] at h2
  rw [u64_nat (Nat.lt_of_lt_of_le (Nat.mod_lt _ (by decide)) (by decide)), ← h2]
  rcases Nat.mod_two_eq_zero_or_one (wd l >>> v) with g | g <;> rw [g] <;> rfl
end Go.Proofs.Ytjdeediehmhdoaa
namespace Go.Proofs.Ytjdeediehmhdoaa
set_option linter.unusedSimpArgs false
set_option linter.unusedVariables false
set_option maxRecDepth 10000
open Go.V

theorem bit64b {l : List Bool} {v : Nat} (hv : v < 64) (hl : l.length ≤ 64) : (IntKind.u64.wrap ((BitVec.ofInt IntKind.u64.bits ((wd l : Int).fdiv (2 ^ min v IntKind.u64.bits)) &&& BitVec.ofInt IntKind.u64.bits 1).toNat : Nat) == (1 : Int)) = gB l v := bit64 hv hl
theorem spread_c (l : List Bool) (hl : l.length ≤ 64) : ContractN Try.prog 33 [.imm 1 (rowC64 l), I l.length] (fun r => r = bools l) := by
  refine ContractN.of_call (VCall.of_body hmix f_live_row_spread (by simp) ?_)
  simp only [go_sem,Nat.reduceEqDiff,Nat.reduceAdd,Nat.reduceMul,↓reduceIte,↓dreduceIte,reduceCtorEq,Nat.reduceLeDiff,Nat.reduceLT,Nat.reduceSub,Int.reduceToNat,Int.reduceLE,Int.reduceLT, c_live_row_spread, one_imm, one_ref, rep_B]
  repeat ((with_reducible refine And.intro ?_ ?_); · omega)
  refine VW_loop (fun k : Nat => ⟨[(0, .imm 1 (rowC64 l)), (5, .ref 0 0 0 l.length), (10, I l.length), (11, I k)], [⟨0, 4, 1, (sprL l k).map B⟩], 1⟩) (fun k => k ≤ l.length) (fun k => l.length - k) 0
    (Wk.mk (by simp [get_cons]) ⟨[], by rw [sprL_zero]; rfl⟩ (Nat.le_refl _)) (by omega) ?_
  intro k hk
  by_cases hlt : k < l.length
  · have hne : l.length ≠ 0 := by omega
    have e1 : ((k : Int)).tdiv 64 = 0 := by rw [Int.tdiv_eq_ediv_of_nonneg (by omega)]; omega
    have e2 : ((k : Int)).tmod 64 = k := by rw [Int.tmod_eq_emod_of_nonneg (by omega)]; omega
    have e4 : IntKind.i64.wrap 0 = 0 := rfl
    have e5 := bit64b (l := l) (v := k) (by omega) hl
    have e6 : IntKind.i64.wrap (k : Int) = k := i64_in (by omega) (by omega)
    simp only [↓VW_skip,↓VW_ops,↓VW_par,↓VW_park,↓VW_seq,↓VW_block,↓VW_exit,↓VW_ret,↓VW_cond,↓litE_tmp,↓litE_const,↓seq_normal,↓seq_exit,↓seq_ret,↓blk_normal,↓blk_exit,↓blk_ret,↓get_nil,↓get_cons,↓put_some,↓put_none,↓put_some',↓put_none',↓VTrL_done,↓VTrL_one,↓VTrL_if,↓VTrL_both,↓wpD_eq,↓wpE_call,↓wpE_callA,↓wpE_mv,↓wpE_pick,↓wpE_ld,↓wpE_sto,↓wpE_idx,↓wpE_aidx,↓wpE_fad,↓wpE_fld,↓wpE_len,↓wpE_lens,↓wpE_bin,↓wpE_beq,↓wpE_un,↓wpE_conv,↓wpE_sl,↓wpE_sls,↓wpE_mk,↓wpE_app,↓wpE_bsl,↓wpE_bld,↓wpE_box,↓wpE_alc,↓wpE_mkf,↓wpE_nck,↓wpE_ext,↓wpE_pur,↓wpE_see,↓wpE_eff,↓wpE_ycal,undef,K.xtra,EOp.adds,argEnv,↓retQ,↓retW,↓VR.wp,↓VRs,binOK,binR,unOK,unR,ldOK,stoOK,putA,partA,partOK,fillA,fillOK,partsOf,evs,boundOf,AV.cells,AV.one,AV.laid,Value.oneCell',Nat.reduceEqDiff,Nat.reduceAdd,Nat.reduceMul,↓reduceIte,↓dreduceIte,true_and,and_true,List.cons_append,List.nil_append,List.length_map,List.length_cons,List.length_nil,List.getElem?_cons_zero,List.getElem?_cons_succ,List.map_cons,List.map_nil,Bool.not_true,Bool.not_false,forall_const,reduceCtorEq,false_implies,List.all_cons,List.all_nil,Bool.and_true,Bool.and_self,↓idxT_map,↓idxT_cons,↓cellT_I,↓cellT_B,↓cellT_map,↓cellT_cons,decide_eq_true_eq,decide_eq_false_iff_not,Int.toNat_natCast,bne_iff_ne,ne_eq,Bool.not_eq_true',Bool.not_eq_false',bne_eq_false_iff_eq,beq_iff_eq,beq_eq_false_iff_ne,implies_true,List.getD_cons_zero,List.getD_cons_succ,Bool.false_eq_true,false_or,or_false,true_or,or_true,Int.natCast_nonneg,Int.toNat_zero,Int.toNat_one,List.set_cons_zero,List.set_cons_succ,List.take_zero,List.take_succ_cons,List.take_nil,List.drop_zero,List.drop_succ_cons,List.drop_nil,List.append_nil,Nat.zero_add,Nat.add_zero,Nat.mul_one,Nat.zero_mul,↓wp_mv,↓wp_pick,↓wp_ld,↓wp_sto,↓wp_idx,↓wp_aidx,↓wp_fad,↓wp_fld,↓wp_len,↓wp_lens,↓wp_bin,↓wp_beq,↓wp_un,↓wp_conv,↓wp_sl,↓wp_sls,↓wp_mk,↓wp_app,↓wp_bsl,↓wp_bld,↓wp_box,↓wp_alc,↓wp_mkf,↓wp_nck,↓wp_ext,↓wp_call,↓wp_callA,↓VOps_nil,↓VOps_go,↓VOps_if,↓evF_tmp,↓evF_const,↓evF_func,cv_int,cv_bool,cv_slice,cv_string,cv,Nat.reduceLeDiff,Nat.reduceLT,Nat.le_refl,Nat.reduceSub,Int.reduceToNat,Int.reduceLE,Int.reduceLT,not_true_eq_false,not_false_eq_true,decide_true,decide_false,Bool.true_eq_false,↓imp_tt,↓imp_ft,↓imp_tf,↓imp_ff,↓imp_tnt,↓imp_fnt,↓imp_tnf,↓imp_fnf,addedOK,addedN,addedCells,oldA,Old,oldL,↓VW_range,↓wp_ycal,↓wp_six,↓wp_ixv,↓wp_eqv,↓wp_mx,↓wp_mn,↓wp_nilq,↓wp_nils,↓wp_b2s,↓wp_look,↓wp_mlen,↓wp_cpy,↓wp_clr,↓wp_s2b,↓wp_mkm,↓wp_upd,↓eqT_nil,↓eqT_int,↓eqT_bool,↓eqT_str,↓b2sT_U8,↓b2sT_nil,↓lookT_nil,↓lookT_cons,cv_agg,cv_nilFunc,mapOK_nil,mapOK_cons,updA_nil,iteP,Bool.not_eq_true,Bool.not_eq_false,Classical.not_not, one_imm, one_ref, List.length_map, eq_true (show (k : Int) < l.length by omega), e1, e2, e4, e6, rowC64_pos hne, e5, set_B, sprL_len, sprL_set _ hlt]
    repeat ((with_reducible refine And.intro ?_ ?_); · first | omega | decide)
    rw [i64_in (by omega) (by omega)]
    exact ⟨k + 1, by omega, by omega, Wk.mk (by simp [get_cons, rowC64_pos hne]) ⟨[], rfl⟩ (Nat.le_refl _)⟩
  · obtain rfl : k = l.length := by omega
    simp only [go_sem,Nat.reduceEqDiff,Nat.reduceAdd,Nat.reduceMul,↓reduceIte,↓dreduceIte,reduceCtorEq,Nat.reduceLeDiff,Nat.reduceLT,Nat.reduceSub,Int.reduceToNat,Int.reduceLE,Int.reduceLT, one_imm, one_ref, List.length_map, eq_false (show ¬ (l.length : Int) < l.length by omega), sprL_all]
    exact ⟨_, frzN_bools rfl rfl, rfl⟩
end Go.Proofs.Ytjdeediehmhdoaa
