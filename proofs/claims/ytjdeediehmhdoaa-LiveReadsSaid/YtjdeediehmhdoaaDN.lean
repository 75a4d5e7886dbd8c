/-
  The numbers below one, the greatest first: the loop's function; what a block makes of a row: contract. No condition.
-/
import Derived.Test.YtjdeediehmhdoaaB5
namespace Go.Proofs.Ytjdeediehmhdoaa
set_option linter.unusedSimpArgs false
set_option linter.unusedVariables false
set_option maxRecDepth 10000
open Go.V

theorem down_v (n idY sy idN sN : Nat) (Inv : Nat → List VObj → Nat → Prop) (H0 : List VObj) (nx0 : Nat) (C : AV → List VObj → Nat → Prop) (hn : n ≤ 1000000)
    (hbox : ∀ k H nx, Inv k H nx → H[idN]? = some ⟨sN, 3, 1, [I n]⟩)
    (hy : ∀ k H nx (C' : AV → List VObj → Nat → Prop), k < n → Inv k H nx → (∀ H' nx', Inv (k + 1) H' nx' → C' (B true) H' nx') → YCall Try.prog idY sy [I ((n : Int) - 1 - k)] H nx C')
    (h0 : Inv 0 H0 nx0) (hC : ∀ r H nx, Inv n H nx → C r H nx) : VCall Try.prog 60 [.yld idY sy, .ptr idN sN 0] H0 nx0 C := by
  refine VCall.of_bodyB hmix f_live_down_1 (by simp) ?_
  simp only [go_sem,Nat.reduceEqDiff,Nat.reduceAdd,Nat.reduceMul,↓reduceIte,↓dreduceIte,reduceCtorEq,Nat.reduceLeDiff,Nat.reduceLT,Nat.reduceSub,Int.reduceToNat,Int.reduceLE,Int.reduceLT, c_live_down_1, hbox _ _ _ h0]
  rw [i64_in (by omega) (by omega)]
  refine VW_loop (fun q : Nat × List VObj × Nat => ⟨[(0, .yld idY sy), (1, .ptr idN sN 0), (3, I ((n : Int) - 1 - q.1))], q.2.1, q.2.2⟩) (fun q => q.1 ≤ n ∧ Inv q.1 q.2.1 q.2.2) (fun q => n - q.1) (0, H0, nx0)
    (Wk.mk (by simp [get_cons]) ⟨[], by simp⟩ (Nat.le_refl _)) ⟨by omega, h0⟩ ?_
  rintro ⟨k, H, nx⟩ ⟨hk, hI⟩
  simp only at hk hI
  by_cases h1 : k < n
  · simp only [go_sem,Nat.reduceEqDiff,Nat.reduceAdd,Nat.reduceMul,↓reduceIte,↓dreduceIte,reduceCtorEq,Nat.reduceLeDiff,Nat.reduceLT,Nat.reduceSub,Int.reduceToNat,Int.reduceLE,Int.reduceLT, eq_true (show (0 : Int) ≤ (n : Int) - 1 - k by omega)]
    refine hy k H nx _ h1 hI fun H' nx' hI' => ?_
    simp only [go_sem,Nat.reduceEqDiff,Nat.reduceAdd,Nat.reduceMul,↓reduceIte,↓dreduceIte,reduceCtorEq,Nat.reduceLeDiff,Nat.reduceLT,Nat.reduceSub,Int.reduceToNat,Int.reduceLE,Int.reduceLT]
    rw [i64_in (by omega) (by omega)]
    exact ⟨(k + 1, H', nx'), ⟨by simp; omega, hI'⟩, by simp; omega, Wk.mk (by simp [get_cons]; omega) ⟨[], by simp⟩ (Nat.le_refl _)⟩
  · simp only [go_sem,Nat.reduceEqDiff,Nat.reduceAdd,Nat.reduceMul,↓reduceIte,↓dreduceIte,reduceCtorEq,Nat.reduceLeDiff,Nat.reduceLT,Nat.reduceSub,Int.reduceToNat,Int.reduceLE,Int.reduceLT, eq_false (show ¬ (0 : Int) ≤ (n : Int) - 1 - k by omega)]
    obtain rfl : k = n := by omega
    exact hC _ _ _ hI

theorem cpy_B (l : List Bool) : (List.take (min l.length l.length) (List.map B l) ++ List.drop (min l.length l.length) (List.map B (List.replicate l.length false))) = l.map B := by
  rw [List.take_of_length_le (by simp), List.drop_of_length_le (by simp), List.append_nil]
theorem rep_B (n : Nat) : (List.replicate n [AV.val (.bool false)]).flatten = (List.replicate n false).map B := by rw [flat_rep]; simp
theorem clear_pos {t : Tac} {l : List Bool} (h : 0 ≤ setsL t) : l.set (setsL t).toNat false = clearL t l := (if_pos h).symm
theorem clear_neg {t : Tac} {l : List Bool} (h : ¬ 0 ≤ setsL t) : clearL t l = l := if_neg h
theorem last_pos {b : Bk} {l : List Bool} (h : b.e = 2) : l.set b.v.toNat true = lastL b l := (if_pos h).symm
theorem last_neg {b : Bk} {l : List Bool} (h : ¬ b.e = 2) : lastL b l = l := if_neg h

/-- What matters behind the instructions from the k-th last on. -/
abbrev atL (b : Bk) (l : List Bool) (k : Nat) : List Bool := thruL (b.ins.drop (b.ins.length - k)) (lastL b l)
theorem atL_len (b : Bk) (l : List Bool) (k : Nat) : (atL b l k).length = l.length := by rw [atL, thruL_len, lastL_len]
theorem atL_step (b : Bk) (l : List Bool) {k : Nat} (h : k < b.ins.length) : backL (b.ins.getD (b.ins.length - k - 1) default) (atL b l k) = atL b l (k + 1) := by
  unfold atL
  rw [show b.ins.length - (k + 1) = b.ins.length - k - 1 by omega, drop_back _ _ (show b.ins.length - k - 1 < b.ins.length by omega), show b.ins.length - k - 1 + 1 = b.ins.length - k by omega]
theorem atL_zero (b : Bk) (l : List Bool) : atL b l 0 = lastL b l := by simp [atL, thruL]
theorem atL_all (b : Bk) (l : List Bool) : atL b l b.ins.length = aheadL b l := by simp [atL, aheadL]

/-- The objects of the loop over a block's instructions; the row is l. -/
abbrev thH (b : Bk) (n : Nat) (l : List Bool) (R : VObj) : List VObj := [⟨0, 42, 1, bkL b⟩, ⟨1, 78, 1, [.val .nilFunc]⟩, ⟨2, 4, 1, l.map B⟩, ⟨3, 39, 1, [.ref 2 2 0 n]⟩, ⟨4, 3, 1, [I b.ins.length]⟩, R]
theorem through_c (b : Bk) (l : List Bool) (hl : l.length ≤ 100000) (hn : b.ins.length ≤ 1000000) (hv : b.e = 2 → 0 ≤ b.v ∧ b.v < l.length) (hr : ∀ t ∈ b.ins, RegT t l.length) :
    Contract Try.prog 40 [bkA b, bools l, .val .nilFunc] (fun r => r = bools (aheadL b l)) := by
  refine Contract.of_call (VCall.of_bodyB hmix f_live_through (by simp) ?_)
  have hmx : (200000 : Nat) ≤ maxLen := by decide
  by_cases h : b.e = 2
  all_goals
    have hv1 := hv
    first
    | simp only [go_sem,Nat.reduceEqDiff,Nat.reduceAdd,Nat.reduceMul,↓reduceIte,↓dreduceIte,reduceCtorEq,Nat.reduceLeDiff,Nat.reduceLT,Nat.reduceSub,Int.reduceToNat,Int.reduceLE,Int.reduceLT, c_live_through, one_imm, one_ref, List.length_map, cells_B, rep_B, cpy_B, eq_true h, set_B, last_pos h]
    | simp only [go_sem,Nat.reduceEqDiff,Nat.reduceAdd,Nat.reduceMul,↓reduceIte,↓dreduceIte,reduceCtorEq,Nat.reduceLeDiff,Nat.reduceLT,Nat.reduceSub,Int.reduceToNat,Int.reduceLE,Int.reduceLT, c_live_through, one_imm, one_ref, List.length_map, cells_B, rep_B, cpy_B, eq_false h]
    repeat ((with_reducible refine And.intro ?_ ?_); · first | exact laid_B l | omega | exact Nat.le_trans hl (by decide))
    refine VCall.of_body hmix f_live_down (by simp) ?_
    simp only [go_sem,Nat.reduceEqDiff,Nat.reduceAdd,Nat.reduceMul,↓reduceIte,↓dreduceIte,reduceCtorEq,Nat.reduceLeDiff,Nat.reduceLT,Nat.reduceSub,Int.reduceToNat,Int.reduceLE,Int.reduceLT, c_live_down, one_imm, one_ref, List.length_map]
    intro R Bo E hz hY
    refine down_v b.ins.length 5 5 4 4 (fun k H nx => H = thH b l.length (atL b l k) R ∧ nx = 6) _ _ _ hn (fun k H nx hI => by rw [hI.1]; rfl) (fun k H nx C' hk hI hC' => ?_) ⟨by simp only [atL_zero, thH]; first | rfl | (rw [last_neg h]; rfl), rfl⟩ fun r H nx hI => ?_
    · obtain ⟨rfl, rfl⟩ := hI
      refine hY _ _ _ _ rfl rfl ?_
      have e1 : ((b.ins.length : Int) - 1 - k).toNat = b.ins.length - k - 1 := by omega
      have hrt := hr _ (mem_getD (show b.ins.length - k - 1 < b.ins.length by omega))
      simp only [go_sem,Nat.reduceEqDiff,Nat.reduceAdd,Nat.reduceMul,↓reduceIte,↓dreduceIte,reduceCtorEq,Nat.reduceLeDiff,Nat.reduceLT,Nat.reduceSub,Int.reduceToNat,Int.reduceLE,Int.reduceLT, one_imm, one_ref, List.length_map, e1, List.zip_cons_cons, List.zip_nil_left]
      repeat ((with_reducible refine And.intro ?_ ?_); · omega)
      refine VCall.of_contract (bSets_c _) (SleL.pure rfl) fun r hr' => ?_
      subst hr'
      have hst := atL_step b l hk
      have hlk := atL_len b l k
      generalize hgt : b.ins.getD (b.ins.length - k - 1) default = t at hrt hst ⊢
      generalize hgx : atL b l k = x at hst hlk ⊢
      have hcl : (clearL t x).length = l.length := by rw [clearL_len, hlk]
      by_cases h0 : 0 ≤ setsL t
      all_goals
        have hs1 : 0 ≤ setsL t → setsL t < l.length := fun h => by rcases hrt.sets with e | e <;> omega
        first
        | simp only [go_sem,Nat.reduceEqDiff,Nat.reduceAdd,Nat.reduceMul,↓reduceIte,↓dreduceIte,reduceCtorEq,Nat.reduceLeDiff,Nat.reduceLT,Nat.reduceSub,Int.reduceToNat,Int.reduceLE,Int.reduceLT, one_imm, one_ref, List.length_map, e1, eq_true h0, set_B, clear_pos h0, hgt]
        | simp only [go_sem,Nat.reduceEqDiff,Nat.reduceAdd,Nat.reduceMul,↓reduceIte,↓dreduceIte,reduceCtorEq,Nat.reduceLeDiff,Nat.reduceLT,Nat.reduceSub,Int.reduceToNat,Int.reduceLE,Int.reduceLT, one_imm, one_ref, List.length_map, e1, eq_false h0, hgt]
        repeat ((with_reducible refine And.intro ?_ ?_); · first | omega | (have := hs1 h0; omega))
        refine VCall.of_contractN (bUses_c t) ?_ fun r hr' => ?_
        · exact ⟨_, _, rfl, Frz.pure rfl, rfl⟩
        subst hr'
        simp only [go_sem,Nat.reduceEqDiff,Nat.reduceAdd,Nat.reduceMul,↓reduceIte,↓dreduceIte,reduceCtorEq,Nat.reduceLeDiff,Nat.reduceLT,Nat.reduceSub,Int.reduceToNat,Int.reduceLE,Int.reduceLT, one_imm, one_ref, List.length_map]
        refine VW_loop (fun j : Nat => ⟨[(3, .ptr 0 0 0), (7, .ptr 3 3 0), (52, ints (usesL t)), (53, I (usesL t).length), (54, I j)], thH b l.length (useL (clearL t x) ((usesL t).take j)) Bo, 6⟩)
          (fun j => j ≤ (usesL t).length) (fun j => (usesL t).length - j) 0 (Wk.mk (by simp [get_cons]) ⟨[], by first | rfl | (rw [clear_neg h0]; rfl)⟩ (Nat.le_refl _)) (by omega) ?_
        intro j hj
        have hu2 := usesL_len t
        by_cases hlt : j < (usesL t).length
        · have hu := hrt.1 _ (mem_getD hlt)
          simp only [go_sem,Nat.reduceEqDiff,Nat.reduceAdd,Nat.reduceMul,↓reduceIte,↓dreduceIte,reduceCtorEq,Nat.reduceLeDiff,Nat.reduceLT,Nat.reduceSub,Int.reduceToNat,Int.reduceLE,Int.reduceLT, one_imm, one_ref, List.length_map, eq_true (show (j : Int) < (usesL t).length by omega), set_B, ← useL_take _ _ hlt, useL_len, hcl]
          repeat ((with_reducible refine And.intro ?_ ?_); · omega)
          rw [i64_in (by omega) (by omega)]
          exact ⟨j + 1, by omega, by omega, Wk.mk (by simp [get_cons]) ⟨[], rfl⟩ (Nat.le_refl _)⟩
        · simp only [go_sem,Nat.reduceEqDiff,Nat.reduceAdd,Nat.reduceMul,↓reduceIte,↓dreduceIte,reduceCtorEq,Nat.reduceLeDiff,Nat.reduceLT,Nat.reduceSub,Int.reduceToNat,Int.reduceLE,Int.reduceLT, one_imm, one_ref, List.length_map, eq_false (show ¬ (j : Int) < (usesL t).length by omega)]
          refine hC' _ _ ⟨?_, rfl⟩
          rw [List.take_of_length_le (by omega), ← hst]
          rfl
    · obtain ⟨rfl, rfl⟩ := hI
      refine ⟨rfl, ?_⟩
      clear hY
      rw [atL_all]
      simp only [go_sem,Nat.reduceEqDiff,Nat.reduceAdd,Nat.reduceMul,↓reduceIte,↓dreduceIte,reduceCtorEq,Nat.reduceLeDiff,Nat.reduceLT,Nat.reduceSub,Int.reduceToNat,Int.reduceLE,Int.reduceLT, one_imm, one_ref, List.length_map]
      exact ⟨_, frz_bools (Nat.zero_le _) rfl (by rw [aheadL_len]), rfl⟩
end Go.Proofs.Ytjdeediehmhdoaa
