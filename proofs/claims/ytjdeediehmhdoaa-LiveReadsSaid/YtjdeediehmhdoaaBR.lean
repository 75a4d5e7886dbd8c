/-
  The document's word on three-address code: may an end, a function, a program be: contracts; what such a function is. No condition.
-/
import Derived.Test.YtjdeediehmhdoaaB2
import Derived.Test.YtjdeediehmhdoaaB3
namespace Go.Proofs.Ytjdeediehmhdoaa
set_option linter.unusedSimpArgs false
set_option linter.unusedVariables false
set_option maxRecDepth 10000
open Go.V

def EndsP (b : Bk) (blocks regs : Int) : Prop :=
  if b.e = 1 then 0 ≤ b.to ∧ b.to < blocks ∧ b.v = 0 ∧ b.el = 0
  else if b.e = 2 then 0 ≤ b.to ∧ b.to < blocks ∧ 0 ≤ b.el ∧ b.el < blocks ∧ 0 ≤ b.v ∧ b.v < regs
  else b.e = 3 ∧ b.v = 0 ∧ b.to = 0 ∧ b.el = 0
instance (b : Bk) (n r : Int) : Decidable (EndsP b n r) := by unfold EndsP; exact inferInstance
def endsB (b : Bk) (n r : Int) : Bool := decide (EndsP b n r)
theorem rends_c (b : Bk) (n r : Int) : Contract Try.prog 56 [bkA b, I n, I r] (fun x => x = B (endsB b n r)) := by
  refine Contract.of_call (VCall.of_body hmix f_scref24_ends (by simp) ?_)
  obtain ⟨ins, e, v, to, el⟩ := b
  obtain ⟨x, hx⟩ : ∃ x, endsB ⟨ins, e, v, to, el⟩ n r = x := ⟨_, rfl⟩
  rw [hx]
  have hX : (x = true ↔ EndsP ⟨ins, e, v, to, el⟩ n r) := by rw [← hx]; exact decide_eq_true_iff
  have he : e = 1 ∨ e = 2 ∨ e = 3 ∨ (e ≠ 1 ∧ e ≠ 2 ∧ e ≠ 3) := by omega
  rcases he with rfl | rfl | rfl | ⟨h1, h2, h3⟩
  · simp only [EndsP, if_true] at hX
    simp only [go_sem,Nat.reduceEqDiff,Nat.reduceAdd,Nat.reduceMul,↓reduceIte,↓dreduceIte,reduceCtorEq,Nat.reduceLeDiff,Nat.reduceLT,Nat.reduceSub,Int.reduceToNat,Int.reduceLE,Int.reduceLT, c_scref24_ends, one_imm', Int.reduceEq, Int.reduceBEq]
    refine VCall.of_contract (rwithin_c _ _) (SleL.pure rfl) fun y hy => ?_
    subst hy
    cases hb : inB to n
    · have hb' := of_decide_eq_false hb
      simp only [go_sem,Nat.reduceEqDiff,Nat.reduceAdd,Nat.reduceMul,↓reduceIte,↓dreduceIte,reduceCtorEq,Nat.reduceLeDiff,Nat.reduceLT,Nat.reduceSub,Int.reduceToNat,Int.reduceLE,Int.reduceLT, hb]
      refine ⟨_, Frz.pure rfl, ?_⟩
      congr 2
      rw [Bool.eq_iff_iff, hX]
      simp only [Bool.false_eq_true, false_iff, not_and, and_imp]
      intros; omega
    · have hb' := of_decide_eq_true hb
      simp only [go_sem,Nat.reduceEqDiff,Nat.reduceAdd,Nat.reduceMul,↓reduceIte,↓dreduceIte,reduceCtorEq,Nat.reduceLeDiff,Nat.reduceLT,Nat.reduceSub,Int.reduceToNat,Int.reduceLE,Int.reduceLT, hb]
      repeat' (first | (with_reducible apply And.intro) | (with_reducible intro _))
      all_goals
        refine ⟨_, Frz.pure rfl, ?_⟩
        congr 2
        rw [Bool.eq_iff_iff, hX]
        simp only [Bool.and_eq_true, beq_iff_eq, true_and, and_true, Bool.false_eq_true, false_iff, not_and, and_imp]
        first | omega | (intros; omega)
  · simp only [EndsP, if_true, Int.reduceEq, if_false] at hX
    simp only [go_sem,Nat.reduceEqDiff,Nat.reduceAdd,Nat.reduceMul,↓reduceIte,↓dreduceIte,reduceCtorEq,Nat.reduceLeDiff,Nat.reduceLT,Nat.reduceSub,Int.reduceToNat,Int.reduceLE,Int.reduceLT, c_scref24_ends, one_imm', Int.reduceEq, Int.reduceBEq]
    refine VCall.of_contract (rwithin_c _ _) (SleL.pure rfl) fun y hy => ?_
    subst hy
    cases hb : inB to n
    · have hb' := of_decide_eq_false hb
      simp only [go_sem,Nat.reduceEqDiff,Nat.reduceAdd,Nat.reduceMul,↓reduceIte,↓dreduceIte,reduceCtorEq,Nat.reduceLeDiff,Nat.reduceLT,Nat.reduceSub,Int.reduceToNat,Int.reduceLE,Int.reduceLT, hb]
      refine ⟨_, Frz.pure rfl, ?_⟩
      congr 2
      rw [Bool.eq_iff_iff, hX]
      simp only [Bool.false_eq_true, false_iff, not_and, and_imp]
      intros; omega
    · have hb' := of_decide_eq_true hb
      simp only [go_sem,Nat.reduceEqDiff,Nat.reduceAdd,Nat.reduceMul,↓reduceIte,↓dreduceIte,reduceCtorEq,Nat.reduceLeDiff,Nat.reduceLT,Nat.reduceSub,Int.reduceToNat,Int.reduceLE,Int.reduceLT, hb]
      refine VCall.of_contract (rwithin_c _ _) (SleL.pure rfl) fun y hy => ?_
      subst hy
      cases hc : inB el n
      · have hc' := of_decide_eq_false hc
        simp only [go_sem,Nat.reduceEqDiff,Nat.reduceAdd,Nat.reduceMul,↓reduceIte,↓dreduceIte,reduceCtorEq,Nat.reduceLeDiff,Nat.reduceLT,Nat.reduceSub,Int.reduceToNat,Int.reduceLE,Int.reduceLT, hc]
        refine ⟨_, Frz.pure rfl, ?_⟩
        congr 2
        rw [Bool.eq_iff_iff, hX]
        simp only [Bool.false_eq_true, false_iff, not_and, and_imp]
        intros; omega
      · have hc' := of_decide_eq_true hc
        simp only [go_sem,Nat.reduceEqDiff,Nat.reduceAdd,Nat.reduceMul,↓reduceIte,↓dreduceIte,reduceCtorEq,Nat.reduceLeDiff,Nat.reduceLT,Nat.reduceSub,Int.reduceToNat,Int.reduceLE,Int.reduceLT, hc]
        refine VCall.of_contract (rwithin_c _ _) (SleL.pure rfl) fun y hy => ?_
        subst hy
        simp only [go_sem,Nat.reduceEqDiff,Nat.reduceAdd,Nat.reduceMul,↓reduceIte,↓dreduceIte,reduceCtorEq,Nat.reduceLeDiff,Nat.reduceLT,Nat.reduceSub,Int.reduceToNat,Int.reduceLE,Int.reduceLT]
        refine ⟨_, Frz.pure rfl, ?_⟩
        congr 2
        rw [Bool.eq_iff_iff, hX]
        unfold inB
        rw [decide_eq_true_iff]
        omega
  · simp only [EndsP, if_true, Int.reduceEq, if_false] at hX
    simp only [go_sem,Nat.reduceEqDiff,Nat.reduceAdd,Nat.reduceMul,↓reduceIte,↓dreduceIte,reduceCtorEq,Nat.reduceLeDiff,Nat.reduceLT,Nat.reduceSub,Int.reduceToNat,Int.reduceLE,Int.reduceLT, c_scref24_ends, one_imm', Int.reduceEq, Int.reduceBEq]
    repeat' (first | (with_reducible apply And.intro) | (with_reducible intro _))
    all_goals
      refine ⟨_, Frz.pure rfl, ?_⟩
      congr 2
      rw [Bool.eq_iff_iff, hX]
      simp only [Bool.and_eq_true, beq_iff_eq, true_and, and_true, Bool.false_eq_true, false_iff, not_and, and_imp]
      first | omega | (intros; omega)
  · simp only [EndsP, if_neg h1, if_neg h2] at hX
    simp only [go_sem,Nat.reduceEqDiff,Nat.reduceAdd,Nat.reduceMul,↓reduceIte,↓dreduceIte,reduceCtorEq,Nat.reduceLeDiff,Nat.reduceLT,Nat.reduceSub,Int.reduceToNat,Int.reduceLE,Int.reduceLT, c_scref24_ends, one_imm', eq_false h1, eq_false h2, eq_false h3, beq_false_of_ne h1, beq_false_of_ne h2, beq_false_of_ne h3]
    refine ⟨_, Frz.pure rfl, ?_⟩
    congr 2
    rw [Bool.eq_iff_iff, hX]
    simp only [Bool.false_eq_true, false_iff, not_and, and_imp]
    intros; omega

def insB (l : List Tac) (number regs words : Int) : Bool := l.all fun t => fitsT t number regs words
def blkB (n regs number words : Int) (b : Bk) : Bool := endsB b n regs && insB b.ins number regs words
def oneB (f : BF) (number words : Int) : Bool := decide (0 ≤ f.regs ∧ f.regs ≤ 4000 ∧ f.bks ≠ []) && f.bks.all (blkB f.bks.length f.regs number words)
theorem rone_c (f : BF) (number words : Int) (hw : 0 ≤ words ∧ words ≤ 1048576) (hb : f.bks.length ≤ 140737488355328) (hi : ∀ b ∈ f.bks, b.ins.length ≤ 140737488355328) :
    Contract Try.prog 47 [bfA f, I number, I words] (fun x => x = B (oneB f number words)) := by
  refine Contract.of_call (VCall.of_body hmix f_scref24_One (by simp) ?_)
  by_cases h : 0 ≤ f.regs ∧ f.regs ≤ 4000 ∧ f.bks ≠ []
  · obtain ⟨h1, h2, h3⟩ := h
    have h4 : (f.bks.length : Int) ≠ 0 := by intro e; exact h3 (List.eq_nil_of_length_eq_zero (by omega))
    simp only [go_sem,Nat.reduceEqDiff,Nat.reduceAdd,Nat.reduceMul,↓reduceIte,↓dreduceIte,reduceCtorEq,Nat.reduceLeDiff,Nat.reduceLT,Nat.reduceSub,Int.reduceToNat,Int.reduceLE,Int.reduceLT, c_scref24_One, one_imm', List.length_map, eq_false (show ¬ f.regs < 0 by omega), eq_false (show ¬ 4000 < f.regs by omega), eq_false h4, beq_false_of_ne h4]
    refine VW_loop (fun k : Nat => ⟨[(1, I number), (2, I words), (3, .ptr 0 0 0), (7, I k)], [⟨0, 24, 1, [I f.regs, bksA f.bks]⟩], 1⟩) (fun k => k ≤ f.bks.length ∧ (f.bks.take k).all (blkB f.bks.length f.regs number words) = true) (fun k => f.bks.length - k) 0
      (Wk.mk (by simp [get_cons]) ⟨[], rfl⟩ (Nat.le_refl _)) ⟨by omega, rfl⟩ ?_
    rintro k ⟨hk, hp⟩
    by_cases hlt : k < f.bks.length
    · have hbi := hi _ (mem_getD hlt)
      have hstop : blkB f.bks.length f.regs number words (f.bks.getD k default) = false → oneB f number words = false := fun e => by unfold oneB; rw [all_stop hlt e]; simp
      have hstep : blkB f.bks.length f.regs number words (f.bks.getD k default) = true → (f.bks.take (k + 1)).all (blkB f.bks.length f.regs number words) = true := fun e => all_step hlt hp e
      simp only [go_sem,Nat.reduceEqDiff,Nat.reduceAdd,Nat.reduceMul,↓reduceIte,↓dreduceIte,reduceCtorEq,Nat.reduceLeDiff,Nat.reduceLT,Nat.reduceSub,Int.reduceToNat,Int.reduceLE,Int.reduceLT, one_imm', List.length_map, eq_true (show (k : Int) < f.bks.length by omega)]
      generalize hbk : f.bks.getD k default = b at hbi hstop hstep ⊢
      repeat (with_reducible refine And.intro (by omega) ?_)
      refine VCall.of_contract (rends_c b _ _) (SleL.pure rfl) fun y hy => ?_
      subst hy
      cases he : endsB b f.bks.length f.regs
      · simp only [go_sem,Nat.reduceEqDiff,Nat.reduceAdd,Nat.reduceMul,↓reduceIte,↓dreduceIte,reduceCtorEq,Nat.reduceLeDiff,Nat.reduceLT,Nat.reduceSub,Int.reduceToNat,Int.reduceLE,Int.reduceLT, he]
        refine ⟨_, Frz.pure rfl, ?_⟩
        rw [hstop (by unfold blkB; rw [he]; rfl)]
      · simp only [go_sem,Nat.reduceEqDiff,Nat.reduceAdd,Nat.reduceMul,↓reduceIte,↓dreduceIte,reduceCtorEq,Nat.reduceLeDiff,Nat.reduceLT,Nat.reduceSub,Int.reduceToNat,Int.reduceLE,Int.reduceLT, he]
        refine VW_loop (fun j : Nat => ⟨[(1, I number), (2, I words), (3, .ptr 0 0 0), (7, I k), (8, I j)], [⟨0, 24, 1, [I f.regs, bksA f.bks]⟩], 1⟩) (fun j => j ≤ b.ins.length ∧ (b.ins.take j).all (fun t => fitsT t number f.regs words) = true) (fun j => b.ins.length - j) 0
          (Wk.mk (by simp [get_cons]) ⟨[], rfl⟩ (Nat.le_refl _)) ⟨by omega, rfl⟩ ?_
        rintro j ⟨hj, hq⟩
        by_cases hl2 : j < b.ins.length
        · simp only [go_sem,Nat.reduceEqDiff,Nat.reduceAdd,Nat.reduceMul,↓reduceIte,↓dreduceIte,reduceCtorEq,Nat.reduceLeDiff,Nat.reduceLT,Nat.reduceSub,Int.reduceToNat,Int.reduceLE,Int.reduceLT, one_imm', List.length_map, hbk, eq_true (show (j : Int) < b.ins.length by omega)]
          repeat (with_reducible refine And.intro (by omega) ?_)
          refine VCall.of_contract (rfits_c _ number f.regs words hw) (SleL.pure rfl) fun y hy => ?_
          subst hy
          cases hf : fitsT (b.ins.getD j default) number f.regs words
          · simp only [go_sem,Nat.reduceEqDiff,Nat.reduceAdd,Nat.reduceMul,↓reduceIte,↓dreduceIte,reduceCtorEq,Nat.reduceLeDiff,Nat.reduceLT,Nat.reduceSub,Int.reduceToNat,Int.reduceLE,Int.reduceLT, hf]
            refine ⟨_, Frz.pure rfl, ?_⟩
            rw [hstop (by unfold blkB insB; rw [all_stop hl2 hf]; simp)]
          · simp only [go_sem,Nat.reduceEqDiff,Nat.reduceAdd,Nat.reduceMul,↓reduceIte,↓dreduceIte,reduceCtorEq,Nat.reduceLeDiff,Nat.reduceLT,Nat.reduceSub,Int.reduceToNat,Int.reduceLE,Int.reduceLT, hf]
            rw [i64_in (by omega) (by omega)]
            exact ⟨j + 1, ⟨by omega, all_step hl2 hq hf⟩, by omega, Wk.mk (by simp [get_cons]) ⟨[], rfl⟩ (Nat.le_refl _)⟩
        · simp only [go_sem,Nat.reduceEqDiff,Nat.reduceAdd,Nat.reduceMul,↓reduceIte,↓dreduceIte,reduceCtorEq,Nat.reduceLeDiff,Nat.reduceLT,Nat.reduceSub,Int.reduceToNat,Int.reduceLE,Int.reduceLT, one_imm', List.length_map, hbk, eq_false (show ¬ (j : Int) < b.ins.length by omega)]
          repeat (with_reducible refine And.intro (by omega) ?_)
          rw [i64_in (by omega) (by omega)]
          exact ⟨k + 1, ⟨by omega, hstep (by unfold blkB insB; rw [he, all_end (by omega) hq]; rfl)⟩, by omega, Wk.mk (by simp [get_cons]) ⟨[], rfl⟩ (Nat.le_refl _)⟩
    · simp only [go_sem,Nat.reduceEqDiff,Nat.reduceAdd,Nat.reduceMul,↓reduceIte,↓dreduceIte,reduceCtorEq,Nat.reduceLeDiff,Nat.reduceLT,Nat.reduceSub,Int.reduceToNat,Int.reduceLE,Int.reduceLT, one_imm', List.length_map, eq_false (show ¬ (k : Int) < f.bks.length by omega)]
      refine ⟨_, Frz.pure rfl, ?_⟩
      unfold oneB
      rw [all_end (by omega) hp, decide_eq_true ⟨h1, h2, h3⟩]; rfl
  · have e : oneB f number words = false := by unfold oneB; rw [decide_eq_false h]; rfl
    rw [e]
    by_cases h1 : f.regs < 0
    · simp only [go_sem,Nat.reduceEqDiff,Nat.reduceAdd,Nat.reduceMul,↓reduceIte,↓dreduceIte,reduceCtorEq,Nat.reduceLeDiff,Nat.reduceLT,Nat.reduceSub,Int.reduceToNat,Int.reduceLE,Int.reduceLT, c_scref24_One, one_imm', List.length_map, eq_true h1]
      exact ⟨_, Frz.pure rfl, rfl⟩
    · by_cases h2 : 4000 < f.regs
      · simp only [go_sem,Nat.reduceEqDiff,Nat.reduceAdd,Nat.reduceMul,↓reduceIte,↓dreduceIte,reduceCtorEq,Nat.reduceLeDiff,Nat.reduceLT,Nat.reduceSub,Int.reduceToNat,Int.reduceLE,Int.reduceLT, c_scref24_One, one_imm', List.length_map, eq_false h1, eq_true h2]
        exact ⟨_, Frz.pure rfl, rfl⟩
      · have h3 : f.bks = [] := Classical.byContradiction fun e => h ⟨by omega, by omega, e⟩
        simp only [go_sem,Nat.reduceEqDiff,Nat.reduceAdd,Nat.reduceMul,↓reduceIte,↓dreduceIte,reduceCtorEq,Nat.reduceLeDiff,Nat.reduceLT,Nat.reduceSub,Int.reduceToNat,Int.reduceLE,Int.reduceLT, c_scref24_One, one_imm', List.length_map, eq_false h1, eq_false h2, h3, List.map_nil, List.length_nil, Nat.cast_zero', Int.reduceEq]
        exact ⟨_, Frz.pure rfl, rfl⟩

theorem one_fine {f : BF} {number words : Int} (h : oneB f number words = true) (hb : f.bks.length ≤ 500) (hi : ∀ b ∈ f.bks, b.ins.length ≤ 1000) : Fine f := by
  unfold oneB at h
  simp only [Bool.and_eq_true, decide_eq_true_eq, List.all_eq_true] at h
  obtain ⟨⟨h1, h2, h3⟩, h4⟩ := h
  have he : ∀ b ∈ f.bks, EndsP b f.bks.length f.regs := fun b hbm => by
    have := h4 b hbm
    unfold blkB endsB at this
    simp only [Bool.and_eq_true, decide_eq_true_eq] at this
    exact this.1
  have ht : ∀ b ∈ f.bks, ∀ t ∈ b.ins, FitsT t number f.regs words := fun b hbm t htm => by
    have := h4 b hbm
    unfold blkB insB at this
    simp only [Bool.and_eq_true, List.all_eq_true] at this
    exact of_decide_eq_true (this.2 t htm)
  refine ⟨h1, h2, h3, hb, fun b hbm t htm => ?_, hi, fun b hbm h => ?_, fun b hbm k hk => ?_⟩
  · obtain ⟨_, _, g1, g2, _⟩ := ht b hbm t htm
    exact ⟨g2, fun hs => by rw [if_pos hs] at g1; exact g1⟩
  · have := he b hbm
    unfold EndsP at this
    rw [h, if_neg (by decide), if_pos rfl] at this
    exact ⟨this.2.2.2.2.1, this.2.2.2.2.2⟩
  · have := he b hbm
    unfold EndsP at this
    unfold nxt at hk
    split at hk
    · rename_i h1; rw [if_pos h1] at this; simp at hk; subst hk; exact ⟨this.1, this.2.1⟩
    · rename_i h1
      split at hk
      · rename_i h2; rw [if_neg h1, if_pos h2] at this; simp at hk
        rcases hk with rfl | rfl
        · exact ⟨this.1, this.2.1⟩
        · exact ⟨this.2.2.1, this.2.2.2.1⟩
      · simp at hk

/-- Programs. -/
structure BP where
  words : Int
  funcs : List BF
deriving Inhabited, DecidableEq
abbrev bfL (f : BF) : List AV := [I f.regs, bksA f.bks]
abbrev bpA (b : BP) : AV := .agg [I b.words, .imm 2 (b.funcs.map bfA)]
def rightB (b : BP) : Bool := decide (0 ≤ b.words ∧ b.words ≤ 1048576 ∧ b.funcs ≠ []) && (List.range b.funcs.length).all fun i => oneB (b.funcs.getD i default) i b.words
theorem rright_c (b : BP) (hn : b.funcs.length ≤ 140737488355328) (hb : ∀ f ∈ b.funcs, f.bks.length ≤ 140737488355328) (hi : ∀ f ∈ b.funcs, ∀ b ∈ f.bks, b.ins.length ≤ 140737488355328) :
    Contract Try.prog 29 [bpA b] (fun x => x = B (rightB b)) := by
  refine Contract.of_call (VCall.of_body hmix f_scref24_Right (by simp) ?_)
  by_cases h : 0 ≤ b.words ∧ b.words ≤ 1048576 ∧ b.funcs ≠ []
  · obtain ⟨h1, h2, h3⟩ := h
    have h4 : (b.funcs.length : Int) ≠ 0 := by intro e; exact h3 (List.eq_nil_of_length_eq_zero (by omega))
    simp only [go_sem,Nat.reduceEqDiff,Nat.reduceAdd,Nat.reduceMul,↓reduceIte,↓dreduceIte,reduceCtorEq,Nat.reduceLeDiff,Nat.reduceLT,Nat.reduceSub,Int.reduceToNat,Int.reduceLE,Int.reduceLT, c_scref24_Right, one_imm', List.length_map, eq_false (show ¬ b.words < 0 by omega), eq_false (show ¬ 1048576 < b.words by omega), eq_false h4, beq_false_of_ne h4]
    refine VW_loop (fun k : Nat => ⟨[(1, .ptr 0 0 0), (3, I k)], [⟨0, 58, 1, [I b.words, .imm 2 (b.funcs.map bfA)]⟩], 1⟩) (fun k => k ≤ b.funcs.length ∧ ∀ i < k, oneB (b.funcs.getD i default) i b.words = true) (fun k => b.funcs.length - k) 0
      (Wk.mk (by simp [get_cons]) ⟨[], rfl⟩ (Nat.le_refl _)) ⟨by omega, by omega⟩ ?_
    rintro k ⟨hk, hp⟩
    by_cases hlt : k < b.funcs.length
    · simp only [go_sem,Nat.reduceEqDiff,Nat.reduceAdd,Nat.reduceMul,↓reduceIte,↓dreduceIte,reduceCtorEq,Nat.reduceLeDiff,Nat.reduceLT,Nat.reduceSub,Int.reduceToNat,Int.reduceLE,Int.reduceLT, one_imm', List.length_map, eq_true (show (k : Int) < b.funcs.length by omega)]
      repeat (with_reducible refine And.intro (by omega) ?_)
      refine VCall.of_contract (rone_c (b.funcs.getD k default) k b.words ⟨h1, h2⟩ (hb _ (mem_getD hlt)) (hi _ (mem_getD hlt))) (SleL.pure rfl) fun y hy => ?_
      subst hy
      cases ho : oneB (b.funcs.getD k default) k b.words
      · simp only [go_sem,Nat.reduceEqDiff,Nat.reduceAdd,Nat.reduceMul,↓reduceIte,↓dreduceIte,reduceCtorEq,Nat.reduceLeDiff,Nat.reduceLT,Nat.reduceSub,Int.reduceToNat,Int.reduceLE,Int.reduceLT, ho]
        refine ⟨_, Frz.pure rfl, ?_⟩
        rw [show rightB b = false from ?_]
        unfold rightB
        rw [show (List.range b.funcs.length).all (fun i => oneB (b.funcs.getD i default) i b.words) = false from List.all_eq_false.2 ⟨k, List.mem_range.2 hlt, by rw [ho]; decide⟩]
        simp
      · simp only [go_sem,Nat.reduceEqDiff,Nat.reduceAdd,Nat.reduceMul,↓reduceIte,↓dreduceIte,reduceCtorEq,Nat.reduceLeDiff,Nat.reduceLT,Nat.reduceSub,Int.reduceToNat,Int.reduceLE,Int.reduceLT, ho]
        rw [i64_in (by omega) (by omega)]
        refine ⟨k + 1, ⟨by omega, fun i hi => ?_⟩, by omega, Wk.mk (by simp [get_cons]) ⟨[], rfl⟩ (Nat.le_refl _)⟩
        by_cases e : i = k
        · rw [e]; exact ho
        · exact hp i (by omega)
    · simp only [go_sem,Nat.reduceEqDiff,Nat.reduceAdd,Nat.reduceMul,↓reduceIte,↓dreduceIte,reduceCtorEq,Nat.reduceLeDiff,Nat.reduceLT,Nat.reduceSub,Int.reduceToNat,Int.reduceLE,Int.reduceLT, one_imm', List.length_map, eq_false (show ¬ (k : Int) < b.funcs.length by omega)]
      refine ⟨_, Frz.pure rfl, ?_⟩
      rw [show rightB b = true from ?_]
      unfold rightB
      rw [decide_eq_true ⟨h1, h2, h3⟩, Bool.true_and, List.all_eq_true]
      exact fun i hi => hp i (by have := List.mem_range.1 hi; omega)
  · have e : rightB b = false := by unfold rightB; rw [decide_eq_false h]; rfl
    rw [e]
    by_cases h1 : b.words < 0
    · simp only [go_sem,Nat.reduceEqDiff,Nat.reduceAdd,Nat.reduceMul,↓reduceIte,↓dreduceIte,reduceCtorEq,Nat.reduceLeDiff,Nat.reduceLT,Nat.reduceSub,Int.reduceToNat,Int.reduceLE,Int.reduceLT, c_scref24_Right, one_imm', List.length_map, eq_true h1]
      exact ⟨_, Frz.pure rfl, rfl⟩
    · by_cases h2 : 1048576 < b.words
      · simp only [go_sem,Nat.reduceEqDiff,Nat.reduceAdd,Nat.reduceMul,↓reduceIte,↓dreduceIte,reduceCtorEq,Nat.reduceLeDiff,Nat.reduceLT,Nat.reduceSub,Int.reduceToNat,Int.reduceLE,Int.reduceLT, c_scref24_Right, one_imm', List.length_map, eq_false h1, eq_true h2]
        exact ⟨_, Frz.pure rfl, rfl⟩
      · have h3 : b.funcs = [] := Classical.byContradiction fun e => h ⟨by omega, by omega, e⟩
        simp only [go_sem,Nat.reduceEqDiff,Nat.reduceAdd,Nat.reduceMul,↓reduceIte,↓dreduceIte,reduceCtorEq,Nat.reduceLeDiff,Nat.reduceLT,Nat.reduceSub,Int.reduceToNat,Int.reduceLE,Int.reduceLT, c_scref24_Right, one_imm', List.length_map, eq_false h1, eq_false h2, h3, List.map_nil, List.length_nil, Nat.cast_zero', Int.reduceEq]
        exact ⟨_, Frz.pure rfl, rfl⟩
end Go.Proofs.Ytjdeediehmhdoaa
