/-
  The program's word on what matters: contracts of its small functions. No condition.
-/
import Derived.Test.YtjdeediehmhdoaaB4
import Derived.Test.YtjdeediehmhdoaaBN
namespace Go.Proofs.Ytjdeediehmhdoaa
set_option linter.unusedSimpArgs false
set_option linter.unusedVariables false
set_option maxRecDepth 10000
open Go.V

theorem within_c (a b : List Bool) (h : a.length ≤ b.length) (ha : a.length ≤ 140737488355328) : Contract Try.prog 39 [bools a, bools b] (fun r => r = B (withinB a b)) := by
  refine Contract.of_call (VCall.of_body hmix f_live_within (by simp) ?_)
  simp only [go_sem,Nat.reduceEqDiff,Nat.reduceAdd,Nat.reduceMul,↓reduceIte,↓dreduceIte,reduceCtorEq,Nat.reduceLeDiff,Nat.reduceLT,Nat.reduceSub,Int.reduceToNat,Int.reduceLE,Int.reduceLT, c_live_within]
  refine VW_loop (fun k : Nat => ⟨[(0, bools a), (1, bools b), (7, bools a), (8, I a.length), (9, I k)], [], 0⟩) (fun k => k ≤ a.length ∧ ∀ i < k, gB a i = true → gB b i = true) (fun k => a.length - k) 0 (Wk.mk (by simp [get_cons]) ⟨[], rfl⟩ (Nat.le_refl _)) ⟨by omega, by omega⟩ ?_
  rintro k ⟨hk, hp⟩
  by_cases h1 : k < a.length
  · cases h2 : gB a k
    · simp only [go_sem,Nat.reduceEqDiff,Nat.reduceAdd,Nat.reduceMul,↓reduceIte,↓dreduceIte,reduceCtorEq,Nat.reduceLeDiff,Nat.reduceLT,Nat.reduceSub,Int.reduceToNat,Int.reduceLE,Int.reduceLT, eq_true (show (k : Int) < a.length by omega), gB_getD, h2]
      rw [i64_in (by omega) (by omega)]
      refine ⟨by omega, k + 1, ⟨by omega, fun i hi e => ?_⟩, by omega, Wk.mk (by simp [get_cons]) ⟨[], rfl⟩ (Nat.le_refl _)⟩
      by_cases e2 : i = k
      · rw [e2, h2] at e; cases e
      · exact hp i (by omega) e
    · cases h3 : gB b k
      · simp only [go_sem,Nat.reduceEqDiff,Nat.reduceAdd,Nat.reduceMul,↓reduceIte,↓dreduceIte,reduceCtorEq,Nat.reduceLeDiff,Nat.reduceLT,Nat.reduceSub,Int.reduceToNat,Int.reduceLE,Int.reduceLT, eq_true (show (k : Int) < a.length by omega), gB_getD, h2, h3]
        refine ⟨by omega, by omega, _, Frz.pure rfl, ?_⟩
        rw [show withinB a b = false from decide_eq_false fun e => by have := e k h1 h2; rw [h3] at this; cases this]
      · simp only [go_sem,Nat.reduceEqDiff,Nat.reduceAdd,Nat.reduceMul,↓reduceIte,↓dreduceIte,reduceCtorEq,Nat.reduceLeDiff,Nat.reduceLT,Nat.reduceSub,Int.reduceToNat,Int.reduceLE,Int.reduceLT, eq_true (show (k : Int) < a.length by omega), gB_getD, h2, h3]
        rw [i64_in (by omega) (by omega)]
        refine ⟨by omega, by omega, k + 1, ⟨by omega, fun i hi e => ?_⟩, by omega, Wk.mk (by simp [get_cons]) ⟨[], rfl⟩ (Nat.le_refl _)⟩
        by_cases e2 : i = k
        · rw [e2]; exact h3
        · exact hp i (by omega) e
  · simp only [go_sem,Nat.reduceEqDiff,Nat.reduceAdd,Nat.reduceMul,↓reduceIte,↓dreduceIte,reduceCtorEq,Nat.reduceLeDiff,Nat.reduceLT,Nat.reduceSub,Int.reduceToNat,Int.reduceLE,Int.reduceLT, eq_false (show ¬ (k : Int) < a.length by omega)]
    refine ⟨_, Frz.pure rfl, ?_⟩
    rw [show withinB a b = true from decide_eq_true fun i hi => hp i (by omega)]

theorem fits_c (f : BF) (m : List (List Bool)) (hm : m.length ≤ 140737488355328) : Contract Try.prog 37 [bfA f, rowsA m] (fun x => x = B (sizedL m f.bks.length f.regs)) := by
  refine Contract.of_call (VCall.of_body hmix f_live_fits (by simp) ?_)
  by_cases h : (m.length : Int) = f.bks.length
  · simp only [go_sem,Nat.reduceEqDiff,Nat.reduceAdd,Nat.reduceMul,↓reduceIte,↓dreduceIte,reduceCtorEq,Nat.reduceLeDiff,Nat.reduceLT,Nat.reduceSub,Int.reduceToNat,Int.reduceLE,Int.reduceLT, c_live_fits, one_imm, List.length_map, eq_true h]
    refine VW_loop (fun k : Nat => ⟨[(2, .ptr 0 0 0), (13, rowsA m), (14, I m.length), (15, I k)], [⟨0, 24, 1, [I f.regs, bksA f.bks]⟩], 1⟩) (fun k => k ≤ m.length ∧ (m.take k).all (fun l => decide ((l.length : Int) = f.regs)) = true) (fun k => m.length - k) 0 (Wk.mk (by simp [get_cons]) ⟨[], rfl⟩ (Nat.le_refl _)) ⟨by omega, rfl⟩ ?_
    rintro k ⟨hk, hp⟩
    by_cases h1 : k < m.length
    · by_cases h2 : ((m.getD k default).length : Int) = f.regs
      · simp only [go_sem,Nat.reduceEqDiff,Nat.reduceAdd,Nat.reduceMul,↓reduceIte,↓dreduceIte,reduceCtorEq,Nat.reduceLeDiff,Nat.reduceLT,Nat.reduceSub,Int.reduceToNat,Int.reduceLE,Int.reduceLT, one_imm, List.length_map, eq_true (show (k : Int) < m.length by omega), eq_true h2]
        rw [i64_in (by omega) (by omega)]
        exact ⟨by omega, k + 1, ⟨by omega, all_step h1 hp (decide_eq_true h2)⟩, by omega, Wk.mk (by simp [get_cons]) ⟨[], rfl⟩ (Nat.le_refl _)⟩
      · simp only [go_sem,Nat.reduceEqDiff,Nat.reduceAdd,Nat.reduceMul,↓reduceIte,↓dreduceIte,reduceCtorEq,Nat.reduceLeDiff,Nat.reduceLT,Nat.reduceSub,Int.reduceToNat,Int.reduceLE,Int.reduceLT, one_imm, List.length_map, eq_true (show (k : Int) < m.length by omega), eq_false h2]
        refine ⟨by omega, _, Frz.pure rfl, ?_⟩
        unfold sizedL
        rw [all_stop h1 (decide_eq_false h2)]; simp
    · simp only [go_sem,Nat.reduceEqDiff,Nat.reduceAdd,Nat.reduceMul,↓reduceIte,↓dreduceIte,reduceCtorEq,Nat.reduceLeDiff,Nat.reduceLT,Nat.reduceSub,Int.reduceToNat,Int.reduceLE,Int.reduceLT, one_imm, List.length_map, eq_false (show ¬ (k : Int) < m.length by omega)]
      refine ⟨_, Frz.pure rfl, ?_⟩
      unfold sizedL
      rw [all_end (by omega) hp]; simp [h]
  · simp only [go_sem,Nat.reduceEqDiff,Nat.reduceAdd,Nat.reduceMul,↓reduceIte,↓dreduceIte,reduceCtorEq,Nat.reduceLeDiff,Nat.reduceLT,Nat.reduceSub,Int.reduceToNat,Int.reduceLE,Int.reduceLT, c_live_fits, one_imm, List.length_map, eq_false h]
    refine ⟨_, Frz.pure rfl, ?_⟩
    unfold sizedL
    rw [decide_eq_false h]; rfl

theorem take_ext {α : Type} [Inhabited α] {a b : List α} {k : Nat} (ha : k < a.length) (hb : k < b.length) (h : a.take k = b.take k) (e : a.getD k default = b.getD k default) : a.take (k + 1) = b.take (k + 1) := by
  simp only [List.getD, List.getElem?_eq_getElem ha, List.getElem?_eq_getElem hb, Option.getD_some] at e
  rw [List.take_add_one, List.take_add_one, h, List.getElem?_eq_getElem ha, List.getElem?_eq_getElem hb, e]
theorem take_all {α : Type} {a b : List α} {k : Nat} (ha : a.length ≤ k) (hb : b.length ≤ k) (h : a.take k = b.take k) : a = b := by
  rwa [List.take_of_length_le ha, List.take_of_length_le hb] at h

theorem same_c (a b : List (List Bool)) (ha : a.length ≤ 140737488355328) (hr : ∀ l ∈ a, l.length ≤ 140737488355328) : Contract Try.prog 41 [rowsA a, rowsA b] (fun r => r = B (decide (a = b))) := by
  refine Contract.of_call (VCall.of_body hmix f_live_same (by simp) ?_)
  by_cases h : (a.length : Int) = b.length
  · have hl : a.length = b.length := by omega
    simp only [go_sem,Nat.reduceEqDiff,Nat.reduceAdd,Nat.reduceMul,↓reduceIte,↓dreduceIte,reduceCtorEq,Nat.reduceLeDiff,Nat.reduceLT,Nat.reduceSub,Int.reduceToNat,Int.reduceLE,Int.reduceLT, c_live_same, one_imm, List.length_map, eq_true h]
    refine VW_loop (fun k : Nat => ⟨[(0, rowsA a), (1, rowsA b), (14, rowsA a), (15, I a.length), (16, I k)], [], 0⟩) (fun k => k ≤ a.length ∧ a.take k = b.take k) (fun k => a.length - k) 0 (Wk.mk (by simp [get_cons]) ⟨[], rfl⟩ (Nat.le_refl _)) ⟨by omega, rfl⟩ ?_
    rintro k ⟨hk, hp⟩
    by_cases h1 : k < a.length
    · have hrk := hr _ (mem_getD h1)
      have hcong : a = b → a.getD k default = b.getD k default := fun e => by rw [e]
      generalize hx : a.getD k default = x at hrk hcong
      generalize hy : b.getD k default = y at hcong
      by_cases h2 : (x.length : Int) = y.length
      · simp only [go_sem,Nat.reduceEqDiff,Nat.reduceAdd,Nat.reduceMul,↓reduceIte,↓dreduceIte,reduceCtorEq,Nat.reduceLeDiff,Nat.reduceLT,Nat.reduceSub,Int.reduceToNat,Int.reduceLE,Int.reduceLT, one_imm, List.length_map, eq_true (show (k : Int) < a.length by omega), hx, hy, eq_true h2]
        refine ⟨by omega, by omega, ?_⟩
        refine VW_loop (fun j : Nat => ⟨[(0, rowsA a), (1, rowsA b), (14, rowsA a), (15, I a.length), (16, I k), (5, I k), (29, bools x), (30, I x.length), (31, I j)], [], 0⟩) (fun j => j ≤ x.length ∧ x.take j = y.take j) (fun j => x.length - j) 0 (Wk.mk (by simp [get_cons]) ⟨[], rfl⟩ (Nat.le_refl _)) ⟨by omega, rfl⟩ ?_
        rintro j ⟨hj, hq⟩
        by_cases h3 : j < x.length
        · have hcg : x = y → gB x j = gB y j := fun e => by rw [e]
          by_cases h4 : gB x j = gB y j
          · simp only [go_sem,Nat.reduceEqDiff,Nat.reduceAdd,Nat.reduceMul,↓reduceIte,↓dreduceIte,reduceCtorEq,Nat.reduceLeDiff,Nat.reduceLT,Nat.reduceSub,Int.reduceToNat,Int.reduceLE,Int.reduceLT, one_imm, List.length_map, eq_true (show (j : Int) < x.length by omega), hy, gB_getD, h4]
            rw [i64_in (by omega) (by omega)]
            repeat (with_reducible refine And.intro (by omega) ?_)
            cases h5 : gB y j
            all_goals
              try simp only [go_sem,Nat.reduceEqDiff,Nat.reduceAdd,Nat.reduceMul,↓reduceIte,↓dreduceIte,reduceCtorEq,Nat.reduceLeDiff,Nat.reduceLT,Nat.reduceSub,Int.reduceToNat,Int.reduceLE,Int.reduceLT]
              exact ⟨j + 1, ⟨by omega, take_ext (by omega) (by omega) hq h4⟩, by omega, Wk.mk (by simp [get_cons]) ⟨[], rfl⟩ (Nat.le_refl _)⟩
          · have hab : a ≠ b := fun e => h4 (hcg (hcong e))
            cases h5 : gB x j <;> cases h6 : gB y j
            · exact absurd (h5.trans h6.symm) h4
            · simp only [go_sem,Nat.reduceEqDiff,Nat.reduceAdd,Nat.reduceMul,↓reduceIte,↓dreduceIte,reduceCtorEq,Nat.reduceLeDiff,Nat.reduceLT,Nat.reduceSub,Int.reduceToNat,Int.reduceLE,Int.reduceLT, one_imm, List.length_map, eq_true (show (j : Int) < x.length by omega), hy, gB_getD, h5, h6]
              repeat (with_reducible refine And.intro (by omega) ?_)
              exact ⟨_, Frz.pure rfl, by rw [decide_eq_false hab]⟩
            · simp only [go_sem,Nat.reduceEqDiff,Nat.reduceAdd,Nat.reduceMul,↓reduceIte,↓dreduceIte,reduceCtorEq,Nat.reduceLeDiff,Nat.reduceLT,Nat.reduceSub,Int.reduceToNat,Int.reduceLE,Int.reduceLT, one_imm, List.length_map, eq_true (show (j : Int) < x.length by omega), hy, gB_getD, h5, h6]
              repeat (with_reducible refine And.intro (by omega) ?_)
              exact ⟨_, Frz.pure rfl, by rw [decide_eq_false hab]⟩
            · exact absurd (h5.trans h6.symm) h4
        · simp only [go_sem,Nat.reduceEqDiff,Nat.reduceAdd,Nat.reduceMul,↓reduceIte,↓dreduceIte,reduceCtorEq,Nat.reduceLeDiff,Nat.reduceLT,Nat.reduceSub,Int.reduceToNat,Int.reduceLE,Int.reduceLT, one_imm, List.length_map, eq_false (show ¬ (j : Int) < x.length by omega)]
          rw [i64_in (by omega) (by omega)]
          have hxy : x = y := take_all (by omega) (by omega) hq
          exact ⟨k + 1, ⟨by omega, take_ext h1 (by omega) hp (by rw [hx, hy, hxy])⟩, by omega, Wk.mk (by simp [get_cons]) ⟨[], rfl⟩ (Nat.le_refl _)⟩
      · simp only [go_sem,Nat.reduceEqDiff,Nat.reduceAdd,Nat.reduceMul,↓reduceIte,↓dreduceIte,reduceCtorEq,Nat.reduceLeDiff,Nat.reduceLT,Nat.reduceSub,Int.reduceToNat,Int.reduceLE,Int.reduceLT, one_imm, List.length_map, eq_true (show (k : Int) < a.length by omega), hx, hy, eq_false h2]
        refine ⟨by omega, by omega, _, Frz.pure rfl, ?_⟩
        have hab : a ≠ b := fun e => h2 (by rw [hcong e])
        rw [decide_eq_false hab]
    · simp only [go_sem,Nat.reduceEqDiff,Nat.reduceAdd,Nat.reduceMul,↓reduceIte,↓dreduceIte,reduceCtorEq,Nat.reduceLeDiff,Nat.reduceLT,Nat.reduceSub,Int.reduceToNat,Int.reduceLE,Int.reduceLT, one_imm, List.length_map, eq_false (show ¬ (k : Int) < a.length by omega)]
      refine ⟨_, Frz.pure rfl, ?_⟩
      rw [decide_eq_true (take_all (by omega) (by omega) hp)]
  · simp only [go_sem,Nat.reduceEqDiff,Nat.reduceAdd,Nat.reduceMul,↓reduceIte,↓dreduceIte,reduceCtorEq,Nat.reduceLeDiff,Nat.reduceLT,Nat.reduceSub,Int.reduceToNat,Int.reduceLE,Int.reduceLT, c_live_same, one_imm, List.length_map, eq_false h]
    refine ⟨_, Frz.pure rfl, ?_⟩
    rw [decide_eq_false (fun e => h (by rw [e]))]
end Go.Proofs.Ytjdeediehmhdoaa
