/-
  What matters: which functions are small, tables put together: contracts. No condition.
-/
import Derived.Test.YtjdeediehmhdoaaB6
import Derived.Test.YtjdeediehmhdoaaSB
namespace Go.Proofs.Ytjdeediehmhdoaa
set_option linter.unusedSimpArgs false
set_option linter.unusedVariables false
set_option maxRecDepth 10000
open Go.V
abbrev bpL (b : BP) : List AV := [I b.words, .imm 2 (b.funcs.map bfA)]
theorem frz_fun {n : Nat} {H : List VObj} {nx id s ty : Nat} {f : BF} (hid : n ≤ id) (ho : H[id]? = some ⟨s, ty, 2, bfL f⟩) : Frz n H nx (.ref id s 0 1) (.imm 2 [bfA f]) := by
  have h := Frz.refT (n := n) (nx := nx) (len := 1) hid ho rfl rfl (yss := [bfL f]) (zss := [bfL f]) (by simp) (by simp) rfl (FrzLL.pure fun l hl => by simp at hl; subst hl; rfl)
  exact h
theorem alone_c (f : BF) : Contract Try.prog 28 [bfA f] (fun r => r = bpA ⟨16, [f]⟩) := by
  refine Contract.of_call (VCall.of_body hmix f_scref27_Alone (by simp) ?_)
  simp only [go_sem,Nat.reduceEqDiff,Nat.reduceAdd,Nat.reduceMul,↓reduceIte,↓dreduceIte,reduceCtorEq,Nat.reduceLeDiff,Nat.reduceLT,Nat.reduceSub,Int.reduceToNat,Int.reduceLE,Int.reduceLT, c_scref27_Alone, one_imm, one_ref]
  exact ⟨_, Frz.agg ⟨_, _, rfl, Frz.pure rfl, _, _, rfl, frz_fun (Nat.zero_le _) rfl, rfl⟩, rfl⟩

/-- How many instructions are left behind so many blocks. -/
def leftI (f : BF) (n : Int) (k : Nat) : Int := n - ((f.bks.take k).map fun b => (b.ins.length : Int)).sum
def smallB (f : BF) (blocks ins : Int) : Bool :=
  decide ((f.bks.length : Int) ≤ blocks ∧ f.regs ≤ 40 ∧ 0 ≤ f.regs) && decide (0 ≤ leftI f ins f.bks.length) && rightB ⟨16, [f]⟩
theorem leftI_step (f : BF) (n : Int) {k : Nat} (h : k < f.bks.length) : leftI f n (k + 1) = leftI f n k - (f.bks.getD k default).ins.length := by
  unfold leftI
  have e : f.bks.take (k + 1) = f.bks.take k ++ [f.bks.getD k default] := by rw [List.take_add_one]; simp [List.getD, List.getElem?_eq_getElem h]
  rw [e]; simp; omega
theorem leftI_mono (f : BF) (n : Int) : ∀ {k j : Nat}, k ≤ j → leftI f n j ≤ leftI f n k := by
  intro k j h
  induction h with
  | refl => exact Int.le_refl _
  | step h ih =>
    rename_i j
    by_cases hj : j < f.bks.length
    · rw [leftI_step f n hj]; omega
    · unfold leftI at ih ⊢
      rw [List.take_of_length_le (by omega)]
      rw [List.take_of_length_le (by omega)] at ih
      exact ih
theorem small_c (f : BF) (blocks ins : Int) (hF : BfOk f) (hb : blocks ≤ 100000) (hi : 0 ≤ ins ∧ ins ≤ 100000) : Contract Try.prog 11 [bfA f, I blocks, I ins] (fun r => r = B (smallB f blocks ins)) := by
  refine Contract.of_call (VCall.of_body hmix f_scref27_Small (by simp) ?_)
  by_cases h1 : (f.bks.length : Int) ≤ blocks
  · by_cases h2 : f.regs ≤ 40
    · by_cases h3 : 0 ≤ f.regs
      · simp only [go_sem,Nat.reduceEqDiff,Nat.reduceAdd,Nat.reduceMul,↓reduceIte,↓dreduceIte,reduceCtorEq,Nat.reduceLeDiff,Nat.reduceLT,Nat.reduceSub,Int.reduceToNat,Int.reduceLE,Int.reduceLT, c_scref27_Small, one_imm, one_ref, List.length_map, eq_false (show ¬ blocks < (f.bks.length : Int) by omega), eq_false (show ¬ 40 < f.regs by omega), eq_false (show ¬ f.regs < 0 by omega)]
        refine VW_loop (fun k : Nat => ⟨[(2, I (leftI f ins k)), (3, .ptr 0 0 0), (7, I k)], [⟨0, 24, 1, bfL f⟩], 1⟩) (fun k => k ≤ f.bks.length ∧ 0 ≤ leftI f ins k) (fun k => f.bks.length - k) 0
          (Wk.mk (by simp [get_cons, leftI]) ⟨[], rfl⟩ (Nat.le_refl _)) ⟨by omega, by simp [leftI]; omega⟩ ?_
        rintro k ⟨hk, hp⟩
        have hm := leftI_mono f ins (Nat.zero_le k)
        have h0 : leftI f ins 0 = ins := by simp [leftI]
        by_cases hlt : k < f.bks.length
        · have hl := (hF.bk _ (mem_getD hlt)).len
          have hst := leftI_step f ins hlt
          simp only [go_sem,Nat.reduceEqDiff,Nat.reduceAdd,Nat.reduceMul,↓reduceIte,↓dreduceIte,reduceCtorEq,Nat.reduceLeDiff,Nat.reduceLT,Nat.reduceSub,Int.reduceToNat,Int.reduceLE,Int.reduceLT, one_imm, one_ref, List.length_map, eq_true (show (k : Int) < f.bks.length by omega)]
          rw [i64_in (by omega) (by omega), ← hst]
          by_cases h4 : leftI f ins (k + 1) < 0
          · simp only [go_sem,Nat.reduceEqDiff,Nat.reduceAdd,Nat.reduceMul,↓reduceIte,↓dreduceIte,reduceCtorEq,Nat.reduceLeDiff,Nat.reduceLT,Nat.reduceSub,Int.reduceToNat,Int.reduceLE,Int.reduceLT, one_imm, one_ref, List.length_map, eq_true h4]
            refine ⟨by omega, _, Frz.pure rfl, ?_⟩
            have := leftI_mono f ins (show k + 1 ≤ f.bks.length by omega)
            unfold smallB
            rw [decide_eq_false (show ¬ 0 ≤ leftI f ins f.bks.length by omega)]; simp
          · simp only [go_sem,Nat.reduceEqDiff,Nat.reduceAdd,Nat.reduceMul,↓reduceIte,↓dreduceIte,reduceCtorEq,Nat.reduceLeDiff,Nat.reduceLT,Nat.reduceSub,Int.reduceToNat,Int.reduceLE,Int.reduceLT, one_imm, one_ref, List.length_map, eq_false h4]
            rw [i64_in (by omega) (by omega)]
            exact ⟨by omega, k + 1, ⟨by omega, by omega⟩, by omega, Wk.mk (by simp [get_cons]) ⟨[], rfl⟩ (Nat.le_refl _)⟩
        · obtain rfl : k = f.bks.length := by omega
          simp only [go_sem,Nat.reduceEqDiff,Nat.reduceAdd,Nat.reduceMul,↓reduceIte,↓dreduceIte,reduceCtorEq,Nat.reduceLeDiff,Nat.reduceLT,Nat.reduceSub,Int.reduceToNat,Int.reduceLE,Int.reduceLT, one_imm, one_ref, List.length_map, eq_false (show ¬ (f.bks.length : Int) < f.bks.length by omega)]
          refine VCall.of_contract (alone_c f) (SleL.pure rfl) fun r hr => ?_
          subst hr
          simp only [go_sem,Nat.reduceEqDiff,Nat.reduceAdd,Nat.reduceMul,↓reduceIte,↓dreduceIte,reduceCtorEq,Nat.reduceLeDiff,Nat.reduceLT,Nat.reduceSub,Int.reduceToNat,Int.reduceLE,Int.reduceLT, one_imm, one_ref]
          refine VCall.of_contract (rright_c ⟨16, [f]⟩ (by simp) (fun g hg => by simp at hg; subst hg; exact hF.len) (fun g hg b hb => by simp at hg; subst hg; exact (hF.bk b hb).len)) (SleL.pure rfl) fun r hr => ?_
          subst hr
          simp only [go_sem,Nat.reduceEqDiff,Nat.reduceAdd,Nat.reduceMul,↓reduceIte,↓dreduceIte,reduceCtorEq,Nat.reduceLeDiff,Nat.reduceLT,Nat.reduceSub,Int.reduceToNat,Int.reduceLE,Int.reduceLT, one_imm, one_ref]
          refine ⟨_, Frz.pure rfl, ?_⟩
          unfold smallB
          rw [decide_eq_true hp, decide_eq_true ⟨h1, h2, h3⟩]; rfl
      · simp only [go_sem,Nat.reduceEqDiff,Nat.reduceAdd,Nat.reduceMul,↓reduceIte,↓dreduceIte,reduceCtorEq,Nat.reduceLeDiff,Nat.reduceLT,Nat.reduceSub,Int.reduceToNat,Int.reduceLE,Int.reduceLT, c_scref27_Small, one_imm, one_ref, List.length_map, eq_false (show ¬ blocks < (f.bks.length : Int) by omega), eq_false (show ¬ 40 < f.regs by omega), eq_true (show f.regs < 0 by omega)]
        refine ⟨_, Frz.pure rfl, ?_⟩
        unfold smallB
        rw [decide_eq_false (fun e => h3 e.2.2)]; rfl
    · simp only [go_sem,Nat.reduceEqDiff,Nat.reduceAdd,Nat.reduceMul,↓reduceIte,↓dreduceIte,reduceCtorEq,Nat.reduceLeDiff,Nat.reduceLT,Nat.reduceSub,Int.reduceToNat,Int.reduceLE,Int.reduceLT, c_scref27_Small, one_imm, one_ref, List.length_map, eq_false (show ¬ blocks < (f.bks.length : Int) by omega), eq_true (show 40 < f.regs by omega)]
      refine ⟨_, Frz.pure rfl, ?_⟩
      unfold smallB
      rw [decide_eq_false (fun e => h2 e.2.1)]; rfl
  · simp only [go_sem,Nat.reduceEqDiff,Nat.reduceAdd,Nat.reduceMul,↓reduceIte,↓dreduceIte,reduceCtorEq,Nat.reduceLeDiff,Nat.reduceLT,Nat.reduceSub,Int.reduceToNat,Int.reduceLE,Int.reduceLT, c_scref27_Small, one_imm, one_ref, List.length_map, eq_true (show blocks < (f.bks.length : Int) by omega)]
    refine ⟨_, Frz.pure rfl, ?_⟩
    unfold smallB
    rw [decide_eq_false (fun e => h1 e.1)]; rfl

theorem small_fine {f : BF} (h : smallB f 12 60 = true) : Fine f ∧ f.bks.length ≤ 12 ∧ f.regs ≤ 40 ∧ oneB f 0 16 = true ∧ 0 ≤ leftI f 60 f.bks.length := by
  unfold smallB rightB at h
  simp only [Bool.and_eq_true, decide_eq_true_eq, List.all_eq_true] at h
  obtain ⟨⟨⟨h1, h2, h3⟩, h4⟩, h5, h6⟩ := h
  have ho : oneB f 0 16 = true := by have := h6 0 (by simp); simpa using this
  have hins : ∀ b ∈ f.bks, b.ins.length ≤ 1000 := fun b hb => by
    obtain ⟨k, hk, e⟩ := List.getElem_of_mem hb
    have g1 := leftI_step f 60 hk
    have g2 := leftI_mono f 60 (Nat.zero_le k)
    have g3 := leftI_mono f 60 (show k + 1 ≤ f.bks.length by omega)
    have h0 : leftI f 60 0 = 60 := by simp [leftI]
    have : f.bks.getD k default = b := by simp [List.getD, List.getElem?_eq_getElem hk, e]
    rw [this] at g1
    omega
  exact ⟨one_fine ho (by omega) hins, by omega, h2, ho, h4⟩
end Go.Proofs.Ytjdeediehmhdoaa
