/-
  What follows a block: contracts. No condition.
-/
import Derived.Test.YtjdeediehmhdoaaB3
namespace Go.Proofs.Ytjdeediehmhdoaa
set_option linter.unusedSimpArgs false
set_option linter.unusedVariables false
open Go.V

/-- The same as a cell of the object where it is gathered. -/
def nxtv (b : Bk) : AV := if b.e = 1 then ints [b.to] else if b.e = 2 then ints [b.to, b.el] else nilv
theorem nxtv_one (b : Bk) : (nxtv b).one = true := by unfold nxtv; (split; rfl; split <;> rfl)
theorem nxtv_frz (n : Nat) (H : List VObj) (nx : Nat) (b : Bk) : Frz n H nx (nxtv b) (ints (nxt b)) := by
  unfold nxtv nxt
  split
  · exact Frz.pure rfl
  · split
    · exact Frz.pure rfl
    · exact Frz.nil 1

theorem next_c (f : BF) (hb : f.bks.length ≤ 500) : Contract Try.prog 38 [bfA f] (fun x => x = .imm 1 (f.bks.map fun b => ints (nxt b))) := by
  obtain ⟨r, bs⟩ := f
  simp only at hb ⊢
  refine Contract.of_call (VCall.of_body hmix f_flow_Next (by simp) ?_)
  simp only [go_sem,Nat.reduceEqDiff,Nat.reduceAdd,Nat.reduceMul,↓reduceIte,↓dreduceIte,reduceCtorEq,Nat.reduceLeDiff,Nat.reduceLT,Nat.reduceSub,Int.reduceToNat,Int.reduceLE,Int.reduceLT, c_flow_Next]
  repeat (refine And.intro (by omega) ?_)
  refine VW_loop (fun q : Nat × Nat => ⟨[(1, .ptr 0 0 0), (3, .ref 1 1 0 bs.length), (11, .imm 5 (bs.map bkA)), (12, I bs.length), (13, I q.1)],
    [⟨0, 24, 1, [I r, .imm 5 (bs.map bkA)]⟩, ⟨1, 43, 1, filled nxtv nilv bs q.1⟩], q.2⟩) (fun q => q.1 ≤ bs.length ∧ 2 ≤ q.2) (fun q => bs.length - q.1) (0, 2)
    (Wk.mk (by simp [get_cons]) ⟨[], by simp [flat_rep, filled_zero]⟩ (Nat.le_refl _)) ⟨by omega, by omega⟩ ?_
  rintro ⟨k, nx⟩ ⟨hk, hnx⟩
  simp only [go_sem,Nat.reduceEqDiff,Nat.reduceAdd,Nat.reduceMul,↓reduceIte,↓dreduceIte,reduceCtorEq,Nat.reduceLeDiff,Nat.reduceLT,Nat.reduceSub,Int.reduceToNat,Int.reduceLE,Int.reduceLT]
  refine ⟨fun h => ?_, fun h => ?_⟩
  · have hl := filled_length nxtv nilv bs (show k ≤ bs.length by omega)
    rw [i64_in (by omega) (by omega)]
    have hs := filled_set nxtv nilv bs (show k < bs.length by omega)
    have hsk := filled_skip nxtv nilv bs (show k < bs.length by omega)
    generalize hx : bs.getD k default = b at *
    refine ⟨by omega, fun h1 => ?_, fun h1 => ⟨fun h2 => ?_, fun h2 => ?_⟩⟩
    · repeat (refine And.intro (by omega) ?_)
      refine ⟨(k + 1, nx + 1 + 1), ⟨by simp; omega, by simp⟩, by simp; omega, Wk.give (by simp [get_cons]) ?_ (Nat.le_refl _)⟩
      simp only [OW, CW.refl, Nat.reduceEqDiff, false_implies, true_and, and_true]
      rw [← hs, show nxtv b = ints [b.to] by simp [nxtv, h1]]
      exact CW.set (frz_ints (by simp) rfl rfl)
    · have h1 : b.e ≠ 1 := by simpa using h1
      repeat (refine And.intro (by omega) ?_)
      refine ⟨(k + 1, nx + 1 + 1), ⟨by simp; omega, by simp⟩, by simp; omega, Wk.give (by simp [get_cons]) ?_ (Nat.le_refl _)⟩
      simp only [OW, CW.refl, Nat.reduceEqDiff, false_implies, true_and, and_true]
      rw [← hs, show nxtv b = ints [b.to, b.el] by simp [nxtv, h2]]
      exact CW.set (frz_ints (by simp) rfl rfl)
    · refine ⟨(k + 1, nx + 1), ⟨by simp; omega, by simp; omega⟩, by simp; omega, Wk.give (by simp [get_cons]) ?_ (Nat.le_refl _)⟩
      simp only [OW, CW.refl, Nat.reduceEqDiff, false_implies, true_and, and_true]
      rw [← hsk (by (try simp at h1 h2); simp [nxtv, h1, h2])]
      exact CW.refl _
  · refine ⟨_, ?_, rfl⟩
    rw [filled_all nxtv nilv bs (by omega)]
    exact frz_map (by omega) rfl rfl nxtv_one (fun b _ => nxtv_frz _ _ _ b)

theorem refnext_c (f : BF) (hb : f.bks.length ≤ 500) : Contract Try.prog 25 [bfA f] (fun x => x = .imm 1 (f.bks.map fun b => ints (nxt b))) := by
  obtain ⟨r, bs⟩ := f
  simp only at hb ⊢
  refine Contract.of_call (VCall.of_body hmix f_scref26_Next (by simp) ?_)
  simp only [go_sem,Nat.reduceEqDiff,Nat.reduceAdd,Nat.reduceMul,↓reduceIte,↓dreduceIte,reduceCtorEq,Nat.reduceLeDiff,Nat.reduceLT,Nat.reduceSub,Int.reduceToNat,Int.reduceLE,Int.reduceLT, c_scref26_Next]
  repeat (refine And.intro (by omega) ?_)
  refine VW_loop (fun q : Nat × Nat => ⟨[(1, .ptr 0 0 0), (3, .ref 1 1 0 bs.length), (4, I q.1)],
    [⟨0, 24, 1, [I r, .imm 5 (bs.map bkA)]⟩, ⟨1, 43, 1, filled nxtv nilv bs q.1⟩], q.2⟩) (fun q => q.1 ≤ bs.length ∧ 2 ≤ q.2) (fun q => bs.length - q.1) (0, 2)
    (Wk.mk (by simp [get_cons]) ⟨[], by simp [flat_rep, filled_zero]⟩ (Nat.le_refl _)) ⟨by omega, by omega⟩ ?_
  rintro ⟨k, nx⟩ ⟨hk, hnx⟩
  simp only [go_sem,Nat.reduceEqDiff,Nat.reduceAdd,Nat.reduceMul,↓reduceIte,↓dreduceIte,reduceCtorEq,Nat.reduceLeDiff,Nat.reduceLT,Nat.reduceSub,Int.reduceToNat,Int.reduceLE,Int.reduceLT]
  refine ⟨fun h => ?_, fun h => ?_⟩
  · have hl := filled_length nxtv nilv bs (show k ≤ bs.length by omega)
    rw [i64_in (by omega) (by omega)]
    have hs := filled_set nxtv nilv bs (show k < bs.length by omega)
    have hsk := filled_skip nxtv nilv bs (show k < bs.length by omega)
    generalize hx : bs.getD k default = b at *
    refine ⟨by omega, fun h1 => ?_, fun h1 => ⟨fun h2 => ?_, fun h2 => ?_⟩⟩
    · repeat (refine And.intro (by omega) ?_)
      intro _
      refine ⟨(k + 1, nx + 1 + 1), ⟨by simp; omega, by simp⟩, by simp; omega, Wk.give (by simp [get_cons]) ?_ (Nat.le_refl _)⟩
      simp only [OW, CW.refl, Nat.reduceEqDiff, false_implies, true_and, and_true]
      rw [← hs, show nxtv b = ints [b.to] by simp [nxtv, h1]]
      exact CW.set (frz_ints (by simp) rfl rfl)
    · have h1 : b.e ≠ 1 := by simpa using h1
      repeat (refine And.intro (by omega) ?_)
      refine ⟨(k + 1, nx + 1 + 1), ⟨by simp; omega, by simp⟩, by simp; omega, Wk.give (by simp [get_cons]) ?_ (Nat.le_refl _)⟩
      simp only [OW, CW.refl, Nat.reduceEqDiff, false_implies, true_and, and_true]
      rw [← hs, show nxtv b = ints [b.to, b.el] by simp [nxtv, h2]]
      exact CW.set (frz_ints (by simp) rfl rfl)
    · refine ⟨(k + 1, nx + 1), ⟨by simp; omega, by simp; omega⟩, by simp; omega, Wk.give (by simp [get_cons]) ?_ (Nat.le_refl _)⟩
      simp only [OW, CW.refl, Nat.reduceEqDiff, false_implies, true_and, and_true]
      rw [← hsk (by (try simp at h1 h2); simp [nxtv, h1, h2])]
      exact CW.refl _
  · refine ⟨_, ?_, rfl⟩
    rw [filled_all nxtv nilv bs (by omega)]
    exact frz_map (by omega) rfl rfl nxtv_one (fun b _ => nxtv_frz _ _ _ b)

end Go.Proofs.Ytjdeediehmhdoaa
