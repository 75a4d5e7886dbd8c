/-
  The document's word on what matters: contracts of its small functions. No condition.
-/
import Derived.Test.YtjdeediehmhdoaaB3
import Derived.Test.YtjdeediehmhdoaaB2
namespace Go.Proofs.Ytjdeediehmhdoaa
set_option linter.unusedSimpArgs false
set_option linter.unusedVariables false
set_option maxRecDepth 10000
open Go.V

theorem one_imm {sz : Nat} {xs : List AV} : (AV.imm sz xs).one = true := rfl
theorem one_ref {id s off len : Nat} : (AV.ref id s off len).one = true := rfl
theorem cells_B (l : List Bool) : allCells (l.map B) = l.map B := allCells_map1 (fun _ => rfl) l
theorem laid_B (l : List Bool) : ∀ y ∈ l.map B, y.laid = true := fun y hy => by
  obtain ⟨x, _, rfl⟩ := List.mem_map.1 hy; rfl
theorem set_B (l : List Bool) (i : Nat) (x : Bool) : (l.map B).set i (.val (.bool x)) = (l.set i x).map B := set_map B l i x

def withinB (a b : List Bool) : Bool := decide (∀ i < a.length, gB a i = true → gB b i = true)
theorem gB_getD (l : List Bool) (i : Nat) : l.getD i default = gB l i := rfl

theorem rwithin27_c (a b : List Bool) (h : a.length ≤ b.length) (ha : a.length ≤ 140737488355328) : Contract Try.prog 36 [bools a, bools b] (fun r => r = B (withinB a b)) := by
  refine Contract.of_call (VCall.of_body hmix f_scref27_within (by simp) ?_)
  simp only [go_sem,Nat.reduceEqDiff,Nat.reduceAdd,Nat.reduceMul,↓reduceIte,↓dreduceIte,reduceCtorEq,Nat.reduceLeDiff,Nat.reduceLT,Nat.reduceSub,Int.reduceToNat,Int.reduceLE,Int.reduceLT, c_scref27_within]
  refine VW_loop (fun k : Nat => ⟨[(0, bools a), (1, bools b), (5, I k)], [], 0⟩) (fun k => k ≤ a.length ∧ ∀ i < k, gB a i = true → gB b i = true) (fun k => a.length - k) 0 (Wk.mk (by simp [get_cons]) ⟨[], rfl⟩ (Nat.le_refl _)) ⟨by omega, by omega⟩ ?_
  rintro k ⟨hk, hp⟩
  by_cases h1 : k < a.length
  · have hx : ∀ k', ((k' : Nat) : Int) = k → k' = k := fun k' e => by omega
    cases h2 : gB a k
    · simp only [go_sem,Nat.reduceEqDiff,Nat.reduceAdd,Nat.reduceMul,↓reduceIte,↓dreduceIte,reduceCtorEq,Nat.reduceLeDiff,Nat.reduceLT,Nat.reduceSub,Int.reduceToNat,Int.reduceLE,Int.reduceLT, eq_true (show (k : Int) < a.length by omega), gB_getD, h2]
      rw [i64_in (by omega) (by omega)]
      refine ⟨by omega, k + 1, ⟨by omega, fun i hi e => ?_⟩, by omega, Wk.mk (by simp [get_cons]) ⟨[], rfl⟩ (Nat.le_refl _)⟩
      by_cases e2 : i = k
      · rw [e2, h2] at e; cases e
      · exact hp i (by omega) e
    · cases h3 : gB b k
      · simp only [go_sem,Nat.reduceEqDiff,Nat.reduceAdd,Nat.reduceMul,↓reduceIte,↓dreduceIte,reduceCtorEq,Nat.reduceLeDiff,Nat.reduceLT,Nat.reduceSub,Int.reduceToNat,Int.reduceLE,Int.reduceLT, eq_true (show (k : Int) < a.length by omega), gB_getD, h2, h3]
        refine ⟨by omega, by omega, _, Frz.pure rfl, ?_⟩
        rw [show withinB a b = false from decide_eq_false fun e => by have := e k h1 h2; rw [h3] at this; cases this]
      · simp only [go_sem,Nat.reduceEqDiff,Nat.reduceAdd,Nat.reduceMul,↓reduceIte,↓dreduceIte,reduceCtorEq,Nat.reduceLeDiff,Nat.reduceLT,Nat.reduceSub,Int.reduceToNat,Int.reduceLE,Int.reduceLT, eq_true (show (k : Int) < a.length by omega), gB_getD, h2, h3]
        rw [i64_in (by omega) (by omega)]
        refine ⟨by omega, by omega, k + 1, ⟨by omega, fun i hi e => ?_⟩, by omega, Wk.mk (by simp [get_cons]) ⟨[], rfl⟩ (Nat.le_refl _)⟩
        by_cases e2 : i = k
        · rw [e2]; exact h3
        · exact hp i (by omega) e
  · simp only [go_sem,Nat.reduceEqDiff,Nat.reduceAdd,Nat.reduceMul,↓reduceIte,↓dreduceIte,reduceCtorEq,Nat.reduceLeDiff,Nat.reduceLT,Nat.reduceSub,Int.reduceToNat,Int.reduceLE,Int.reduceLT, eq_false (show ¬ (k : Int) < a.length by omega)]
    refine ⟨_, Frz.pure rfl, ?_⟩
    rw [show withinB a b = true from decide_eq_true fun i hi => hp i (by omega)]

theorem rlast_c (b : Bk) (l : List Bool) (hl : l.length ≤ 100000) (hv : b.e = 2 → 0 ≤ b.v ∧ b.v < l.length) : ContractN Try.prog 44 [bkA b, bools l] (fun r => r = bools (lastL b l)) := by
  refine ContractN.of_call (VCall.of_body hmix f_scref27_last (by simp) ?_)
  have hmx : (200000 : Nat) ≤ maxLen := by decide
  by_cases h : b.e = 2
  · obtain ⟨v0, v1⟩ := hv h
    simp only [go_sem,Nat.reduceEqDiff,Nat.reduceAdd,Nat.reduceMul,↓reduceIte,↓dreduceIte,reduceCtorEq,Nat.reduceLeDiff,Nat.reduceLT,Nat.reduceSub,Int.reduceToNat,Int.reduceLE,Int.reduceLT, c_scref27_last, cells_B, set_B, eq_true h, one_imm, one_ref, List.length_map]
    repeat ((with_reducible refine And.intro ?_ ?_); · first | exact laid_B l | omega | exact Nat.le_trans hl (by decide))
    exact ⟨_, frzN_bools rfl (by simp), by rw [lastL, if_pos h]⟩
  · simp only [go_sem,Nat.reduceEqDiff,Nat.reduceAdd,Nat.reduceMul,↓reduceIte,↓dreduceIte,reduceCtorEq,Nat.reduceLeDiff,Nat.reduceLT,Nat.reduceSub,Int.reduceToNat,Int.reduceLE,Int.reduceLT, c_scref27_last, cells_B, set_B, eq_false h, one_imm, one_ref, List.length_map]
    repeat ((with_reducible refine And.intro ?_ ?_); · first | exact laid_B l | omega | exact Nat.le_trans hl (by decide))
    exact ⟨_, frzN_bools rfl (by simp), by rw [lastL, if_neg h]⟩

theorem useL_take (l : List Bool) (us : List Int) {k : Nat} (hk : k < us.length) : useL l (us.take (k + 1)) = (useL l (us.take k)).set (us.getD k default).toNat true := by
  have e : us.take (k + 1) = us.take k ++ [us.getD k default] := by rw [List.take_add_one]; simp [List.getD, List.getElem?_eq_getElem hk]
  rw [e]; simp [useL]
theorem rback_c (t : Tac) (l : List Bool) (hl : l.length ≤ 100000) (hr : RegT t l.length) : ContractN Try.prog 45 [tacA t, bools l] (fun r => r = bools (backL t l)) := by
  refine ContractN.of_call (VCall.of_body hmix f_scref27_back (by simp) ?_)
  have hmx : (200000 : Nat) ≤ maxLen := by decide
  have hu2 := usesL_len t
  have done_ : ∀ (env : List (Nat × AV)) (H : List VObj), True := fun _ _ => trivial
  have hcl : (clearL t l).length = l.length := clearL_len t l
  have hloop : ∀ (x : Nat) (us : List Int), useL (clearL t l) (us.take 0) = clearL t l := fun _ _ => rfl
  by_cases h : 0 ≤ setsL t
  all_goals
    have hs1 : 0 ≤ setsL t → setsL t < l.length := fun h => by rcases hr.sets with e | e <;> omega
    have hce : 0 ≤ setsL t → l.set (setsL t).toNat false = clearL t l := fun h => (if_pos h).symm
    have hce' : ¬ 0 ≤ setsL t → l = clearL t l := fun h => (if_neg h).symm
    simp only [go_sem,Nat.reduceEqDiff,Nat.reduceAdd,Nat.reduceMul,↓reduceIte,↓dreduceIte,reduceCtorEq,Nat.reduceLeDiff,Nat.reduceLT,Nat.reduceSub,Int.reduceToNat,Int.reduceLE,Int.reduceLT, c_scref27_back, cells_B, one_imm, one_ref, List.length_map]
    repeat ((with_reducible refine And.intro ?_ ?_); · first | exact laid_B l | omega | exact Nat.le_trans hl (by decide))
    refine VCall.of_contract (refsets_c t) (SleL.pure rfl) fun r hr' => ?_
    subst hr'
    first
    | simp only [go_sem,Nat.reduceEqDiff,Nat.reduceAdd,Nat.reduceMul,↓reduceIte,↓dreduceIte,reduceCtorEq,Nat.reduceLeDiff,Nat.reduceLT,Nat.reduceSub,Int.reduceToNat,Int.reduceLE,Int.reduceLT, cells_B, one_imm, one_ref, List.length_map, eq_true h, set_B, hce h]
    | simp only [go_sem,Nat.reduceEqDiff,Nat.reduceAdd,Nat.reduceMul,↓reduceIte,↓dreduceIte,reduceCtorEq,Nat.reduceLeDiff,Nat.reduceLT,Nat.reduceSub,Int.reduceToNat,Int.reduceLE,Int.reduceLT, cells_B, one_imm, one_ref, List.length_map, eq_false h, ← hce' h]
    repeat ((with_reducible refine And.intro ?_ ?_); · first | exact h | exact hs1 h | (have := hs1 h; omega) | omega)
    refine VCall.of_contractN (refuses_c t) ?_ fun r hr' => ?_
    · exact ⟨_, _, rfl, Frz.pure rfl, rfl⟩
    subst hr'
    simp only [go_sem,Nat.reduceEqDiff,Nat.reduceAdd,Nat.reduceMul,↓reduceIte,↓dreduceIte,reduceCtorEq,Nat.reduceLeDiff,Nat.reduceLT,Nat.reduceSub,Int.reduceToNat,Int.reduceLE,Int.reduceLT, one_imm, one_ref, List.length_map]
    refine VW_loop (fun k : Nat => ⟨[(5, .ref 1 2 0 l.length), (7, ints (usesL t)), (8, I k)], [⟨0, 47, 1, tacL t⟩, ⟨2, 4, 1, (useL (clearL t l) ((usesL t).take k)).map B⟩], 3⟩)
      (fun k => k ≤ (usesL t).length) (fun k => (usesL t).length - k) 0 (Wk.mk (by simp [get_cons]) ⟨[], by first | rfl | (simp [useL, ← hce' h])⟩ (Nat.le_refl _)) (by omega) ?_
    intro k hk
    by_cases hlt : k < (usesL t).length
    · have hu := hr.1 _ (mem_getD hlt)
      simp only [go_sem,Nat.reduceEqDiff,Nat.reduceAdd,Nat.reduceMul,↓reduceIte,↓dreduceIte,reduceCtorEq,Nat.reduceLeDiff,Nat.reduceLT,Nat.reduceSub,Int.reduceToNat,Int.reduceLE,Int.reduceLT, one_imm, one_ref, List.length_map, eq_true (show (k : Int) < (usesL t).length by omega), set_B, ← useL_take _ _ hlt, useL_len, hcl]
      repeat ((with_reducible refine And.intro ?_ ?_); · omega)
      rw [i64_in (by omega) (by omega)]
      exact ⟨k + 1, by omega, by omega, Wk.mk (by simp [get_cons]) ⟨[], rfl⟩ (Nat.le_refl _)⟩
    · simp only [go_sem,Nat.reduceEqDiff,Nat.reduceAdd,Nat.reduceMul,↓reduceIte,↓dreduceIte,reduceCtorEq,Nat.reduceLeDiff,Nat.reduceLT,Nat.reduceSub,Int.reduceToNat,Int.reduceLE,Int.reduceLT, one_imm, one_ref, List.length_map, eq_false (show ¬ (k : Int) < (usesL t).length by omega)]
      refine ⟨_, frzN_bools rfl (by simp [useL_len, hcl]), ?_⟩
      rw [List.take_of_length_le (by omega)]; rfl

theorem drop_back (ins : List Tac) (l : List Bool) {k : Nat} (hk : k < ins.length) : thruL (ins.drop k) l = backL (ins.getD k default) (thruL (ins.drop (k + 1)) l) := by
  have e : ins.getD k default = ins[k] := by simp [List.getD, List.getElem?_eq_getElem hk]
  rw [e]
  conv => lhs; rw [List.drop_eq_getElem_cons hk]
  rfl
theorem rahead_v (b : Bk) (l : List Bool) (x : AV) (H : List VObj) (nx : Nat) (hl : l.length ≤ 100000) (hn : b.ins.length ≤ 1000000) (hv : b.e = 2 → 0 ≤ b.v ∧ b.v < l.length) (hr : ∀ t ∈ b.ins, RegT t l.length)
    (hx : ∀ R nx', Frz 0 (H ++ R) nx' x (bools l)) (C : AV → List VObj → Nat → Prop) (hC : ∀ R nx', C (bools (aheadL b l)) (H ++ R) nx') : VCall Try.prog 35 [bkA b, x] H nx C := by
  refine VCall.of_body hmix f_scref27_ahead (by simp) ?_
  have hg : ∀ (o : VObj), (H ++ [o])[H.length]? = some o := fun o => by simp
  simp only [go_sem,Nat.reduceEqDiff,Nat.reduceAdd,Nat.reduceMul,↓reduceIte,↓dreduceIte,reduceCtorEq,Nat.reduceLeDiff,Nat.reduceLT,Nat.reduceSub,Int.reduceToNat,Int.reduceLE,Int.reduceLT, c_scref27_ahead, one_imm, one_ref, hg]
  refine VCall.of_contractN (rlast_c b l hl hv) ?_ fun r hr' => ?_
  · exact ⟨_, _, rfl, Frz.pure rfl, _, _, rfl, hx _ _, rfl⟩
  subst hr'
  simp only [go_sem,Nat.reduceEqDiff,Nat.reduceAdd,Nat.reduceMul,↓reduceIte,↓dreduceIte,reduceCtorEq,Nat.reduceLeDiff,Nat.reduceLT,Nat.reduceSub,Int.reduceToNat,Int.reduceLE,Int.reduceLT, one_imm, one_ref, hg, List.length_map]
  rw [i64_in (by omega) (by omega)]
  refine VW_loop (fun k : Nat => ⟨[(2, .ptr H.length nx 0), (5, bools (thruL (b.ins.drop (b.ins.length - k)) (lastL b l))), (6, I ((b.ins.length : Int) - 1 - k))], H ++ [⟨nx, 42, 1, bkL b⟩], nx + 1⟩)
    (fun k => k ≤ b.ins.length) (fun k => b.ins.length - k) 0 (Wk.mk (by simp [get_cons, thruL]) ⟨[], by simp⟩ (Nat.le_refl _)) (by omega) ?_
  intro k hk
  by_cases hlt : k < b.ins.length
  · simp only [go_sem,Nat.reduceEqDiff,Nat.reduceAdd,Nat.reduceMul,↓reduceIte,↓dreduceIte,reduceCtorEq,Nat.reduceLeDiff,Nat.reduceLT,Nat.reduceSub,Int.reduceToNat,Int.reduceLE,Int.reduceLT, one_imm, one_ref, hg, List.length_map, eq_true (show (0 : Int) ≤ (b.ins.length : Int) - 1 - k by omega)]
    refine ⟨by omega, ?_⟩
    have e1 : ((b.ins.length : Int) - 1 - k).toNat = b.ins.length - k - 1 := by omega
    rw [e1]
    refine VCall.of_contractN (rback_c (b.ins.getD (b.ins.length - k - 1) default) (thruL (b.ins.drop (b.ins.length - k)) (lastL b l)) (by rw [thruL_len, lastL_len]; exact hl) (by rw [thruL_len, lastL_len]; exact hr _ (mem_getD (show b.ins.length - k - 1 < b.ins.length by omega)))) ?_ fun r hr' => ?_
    · exact ⟨_, _, rfl, Frz.pure rfl, _, _, rfl, Frz.pure rfl, rfl⟩
    subst hr'
    simp only [go_sem,Nat.reduceEqDiff,Nat.reduceAdd,Nat.reduceMul,↓reduceIte,↓dreduceIte,reduceCtorEq,Nat.reduceLeDiff,Nat.reduceLT,Nat.reduceSub,Int.reduceToNat,Int.reduceLE,Int.reduceLT, one_imm, one_ref, hg, List.length_map]
    rw [i64_in (by omega) (by omega)]
    have e3 : backL (b.ins.getD (b.ins.length - k - 1) default) (thruL (b.ins.drop (b.ins.length - k)) (lastL b l)) = thruL (b.ins.drop (b.ins.length - (k + 1))) (lastL b l) := by
      rw [show b.ins.length - (k + 1) = b.ins.length - k - 1 by omega, drop_back _ _ (show b.ins.length - k - 1 < b.ins.length by omega), show b.ins.length - k - 1 + 1 = b.ins.length - k by omega]
    rw [e3, show (b.ins.length : Int) - 1 - k - 1 = (b.ins.length : Int) - 1 - ((k + 1 : Nat) : Int) by omega]
    exact ⟨k + 1, by omega, by omega, Wk.mk (by simp [get_cons]) ⟨[], by simp⟩ (Nat.le_refl _)⟩
  · simp only [go_sem,Nat.reduceEqDiff,Nat.reduceAdd,Nat.reduceMul,↓reduceIte,↓dreduceIte,reduceCtorEq,Nat.reduceLeDiff,Nat.reduceLT,Nat.reduceSub,Int.reduceToNat,Int.reduceLE,Int.reduceLT, one_imm, one_ref, hg, List.length_map, eq_false (show ¬ (0 : Int) ≤ (b.ins.length : Int) - 1 - k by omega)]
    have := hC [⟨nx, 42, 1, bkL b⟩] (nx + 1)
    rw [show b.ins.length - k = 0 by omega, List.drop_zero]
    exact this
theorem rahead_c (b : Bk) (l : List Bool) (hl : l.length ≤ 100000) (hn : b.ins.length ≤ 1000000) (hv : b.e = 2 → 0 ≤ b.v ∧ b.v < l.length) (hr : ∀ t ∈ b.ins, RegT t l.length) :
    Contract Try.prog 35 [bkA b, bools l] (fun r => r = bools (aheadL b l)) :=
  Contract.of_call (rahead_v b l (bools l) [] 0 hl hn hv hr (fun _ _ => Frz.pure rfl) _ fun R nx' => ⟨_, Frz.pure rfl, rfl⟩)

theorem rsized_c (m : List (List Bool)) (n r : Int) (hm : m.length ≤ 140737488355328) : Contract Try.prog 42 [rowsA m, I n, I r] (fun x => x = B (sizedL m n r)) := by
  refine Contract.of_call (VCall.of_body hmix f_scref27_sized (by simp) ?_)
  by_cases h : (m.length : Int) = n
  · subst h
    simp only [go_sem,Nat.reduceEqDiff,Nat.reduceAdd,Nat.reduceMul,↓reduceIte,↓dreduceIte,reduceCtorEq,Nat.reduceLeDiff,Nat.reduceLT,Nat.reduceSub,Int.reduceToNat,Int.reduceLE,Int.reduceLT, c_scref27_sized, one_imm, List.length_map]
    refine VW_loop (fun k : Nat => ⟨[(0, rowsA m), (1, I m.length), (2, I r), (7, I k)], [], 0⟩) (fun k => k ≤ m.length ∧ (m.take k).all (fun l => decide ((l.length : Int) = r)) = true) (fun k => m.length - k) 0 (Wk.mk (by simp [get_cons]) ⟨[], rfl⟩ (Nat.le_refl _)) ⟨by omega, rfl⟩ ?_
    rintro k ⟨hk, hp⟩
    by_cases h1 : k < m.length
    · by_cases h2 : ((m.getD k default).length : Int) = r
      · simp only [go_sem,Nat.reduceEqDiff,Nat.reduceAdd,Nat.reduceMul,↓reduceIte,↓dreduceIte,reduceCtorEq,Nat.reduceLeDiff,Nat.reduceLT,Nat.reduceSub,Int.reduceToNat,Int.reduceLE,Int.reduceLT, one_imm, List.length_map, eq_true (show (k : Int) < m.length by omega), eq_true h2]
        rw [i64_in (by omega) (by omega)]
        exact ⟨by omega, k + 1, ⟨by omega, all_step h1 hp (decide_eq_true h2)⟩, by omega, Wk.mk (by simp [get_cons]) ⟨[], rfl⟩ (Nat.le_refl _)⟩
      · simp only [go_sem,Nat.reduceEqDiff,Nat.reduceAdd,Nat.reduceMul,↓reduceIte,↓dreduceIte,reduceCtorEq,Nat.reduceLeDiff,Nat.reduceLT,Nat.reduceSub,Int.reduceToNat,Int.reduceLE,Int.reduceLT, one_imm, List.length_map, eq_true (show (k : Int) < m.length by omega), eq_false h2]
        refine ⟨by omega, _, Frz.pure rfl, ?_⟩
        unfold sizedL
        rw [all_stop h1 (decide_eq_false h2)]; simp
    · simp only [go_sem,Nat.reduceEqDiff,Nat.reduceAdd,Nat.reduceMul,↓reduceIte,↓dreduceIte,reduceCtorEq,Nat.reduceLeDiff,Nat.reduceLT,Nat.reduceSub,Int.reduceToNat,Int.reduceLE,Int.reduceLT, one_imm, List.length_map, eq_false (show ¬ (k : Int) < m.length by omega)]
      refine ⟨_, Frz.pure rfl, ?_⟩
      unfold sizedL
      rw [all_end (by omega) hp]; simp
  · simp only [go_sem,Nat.reduceEqDiff,Nat.reduceAdd,Nat.reduceMul,↓reduceIte,↓dreduceIte,reduceCtorEq,Nat.reduceLeDiff,Nat.reduceLT,Nat.reduceSub,Int.reduceToNat,Int.reduceLE,Int.reduceLT, c_scref27_sized, one_imm, List.length_map, eq_false h]
    refine ⟨_, Frz.pure rfl, ?_⟩
    unfold sizedL
    rw [decide_eq_false h]; rfl
theorem rSized_c (f : BF) (L : LD) (h1 : L.inn.length ≤ 140737488355328) (h2 : L.out.length ≤ 140737488355328) : Contract Try.prog 20 [bfA f, liveA L] (fun x => x = B (sizedB f L)) := by
  refine Contract.of_call (VCall.of_body hmix f_scref27_Sized (by simp) ?_)
  simp only [go_sem,Nat.reduceEqDiff,Nat.reduceAdd,Nat.reduceMul,↓reduceIte,↓dreduceIte,reduceCtorEq,Nat.reduceLeDiff,Nat.reduceLT,Nat.reduceSub,Int.reduceToNat,Int.reduceLE,Int.reduceLT, c_scref27_Sized, one_imm, List.length_map]
  refine VCall.of_contract (rsized_c L.inn f.bks.length f.regs h1) (SleL.pure rfl) fun x hx => ?_
  subst hx
  cases h : sizedL L.inn f.bks.length f.regs
  · simp only [go_sem,Nat.reduceEqDiff,Nat.reduceAdd,Nat.reduceMul,↓reduceIte,↓dreduceIte,reduceCtorEq,Nat.reduceLeDiff,Nat.reduceLT,Nat.reduceSub,Int.reduceToNat,Int.reduceLE,Int.reduceLT, one_imm, List.length_map]
    exact ⟨_, Frz.pure rfl, by simp [sizedB, h]⟩
  · simp only [go_sem,Nat.reduceEqDiff,Nat.reduceAdd,Nat.reduceMul,↓reduceIte,↓dreduceIte,reduceCtorEq,Nat.reduceLeDiff,Nat.reduceLT,Nat.reduceSub,Int.reduceToNat,Int.reduceLE,Int.reduceLT, one_imm, List.length_map]
    refine VCall.of_contract (rsized_c L.out f.bks.length f.regs h2) (SleL.pure rfl) fun x hx => ?_
    subst hx
    simp only [go_sem,Nat.reduceEqDiff,Nat.reduceAdd,Nat.reduceMul,↓reduceIte,↓dreduceIte,reduceCtorEq,Nat.reduceLeDiff,Nat.reduceLT,Nat.reduceSub,Int.reduceToNat,Int.reduceLE,Int.reduceLT, one_imm, List.length_map]
    exact ⟨_, Frz.pure rfl, by simp [sizedB, h]⟩
end Go.Proofs.Ytjdeediehmhdoaa
