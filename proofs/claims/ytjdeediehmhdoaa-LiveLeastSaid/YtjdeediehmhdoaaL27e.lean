/-
  LiveLeast: the row. No condition.
-/
import Derived.Test.YtjdeediehmhdoaaL27a
namespace Go.Proofs.Ytjdeediehmhdoaa
set_option linter.unusedSimpArgs false
set_option linter.unusedVariables false
set_option maxRecDepth 10000
open Go.V Go.ChangeShapes Go.WideShapes Go.ChangeAt Go.RowKit

theorem liveleast_c (f : BF) (L : LD) (hF : BfOk f) (hL : LOK L) : Contract Try.prog 6 [bfA f, liveA L] (fun r => r = B true) := by
  refine Contract.of_call (VCall.of_body hmix f_sclaw27_LiveLeast (by simp) ?_)
  simp only [go_sem,Nat.reduceEqDiff,Nat.reduceAdd,Nat.reduceMul,↓reduceIte,↓dreduceIte,reduceCtorEq,Nat.reduceLeDiff,Nat.reduceLT,Nat.reduceSub,Int.reduceToNat,Int.reduceLE,Int.reduceLT, one_imm, one_ref, c_sclaw27_LiveLeast]
  refine VCall.of_contract (small_c f 12 60 hF (by decide) (by decide)) (SleL.pure rfl) fun x hx => ?_
  subst hx
  cases hs : smallB f 12 60
  · simp only [go_sem,Nat.reduceEqDiff,Nat.reduceAdd,Nat.reduceMul,↓reduceIte,↓dreduceIte,reduceCtorEq,Nat.reduceLeDiff,Nat.reduceLT,Nat.reduceSub,Int.reduceToNat,Int.reduceLE,Int.reduceLT, one_imm, one_ref]
    refine VCall.of_contract awake_c (SleL.pure rfl) fun x hx => ?_
    subst hx
    simp only [go_sem,Nat.reduceEqDiff,Nat.reduceAdd,Nat.reduceMul,↓reduceIte,↓dreduceIte,reduceCtorEq,Nat.reduceLeDiff,Nat.reduceLT,Nat.reduceSub,Int.reduceToNat,Int.reduceLE,Int.reduceLT, one_imm, one_ref]
    exact ⟨_, Frz.pure rfl, rfl⟩
  obtain ⟨hf, h12, h40, _, _⟩ := small_fine hs
  simp only [go_sem,Nat.reduceEqDiff,Nat.reduceAdd,Nat.reduceMul,↓reduceIte,↓dreduceIte,reduceCtorEq,Nat.reduceLeDiff,Nat.reduceLT,Nat.reduceSub,Int.reduceToNat,Int.reduceLE,Int.reduceLT, one_imm, one_ref]
  refine VCall.of_contract (rcheck_c f L hf hL) (SleL.pure rfl) fun x hx => ?_
  subst hx
  cases hc1 : checkB f L
  · simp only [go_sem,Nat.reduceEqDiff,Nat.reduceAdd,Nat.reduceMul,↓reduceIte,↓dreduceIte,reduceCtorEq,Nat.reduceLeDiff,Nat.reduceLT,Nat.reduceSub,Int.reduceToNat,Int.reduceLE,Int.reduceLT, one_imm, one_ref]
    refine VCall.of_contract awake_c (SleL.pure rfl) fun x hx => ?_
    subst hx
    simp only [go_sem,Nat.reduceEqDiff,Nat.reduceAdd,Nat.reduceMul,↓reduceIte,↓dreduceIte,reduceCtorEq,Nat.reduceLeDiff,Nat.reduceLT,Nat.reduceSub,Int.reduceToNat,Int.reduceLE,Int.reduceLT, one_imm, one_ref]
    exact ⟨_, Frz.pure rfl, rfl⟩
  have cL := (checkB_iff hf L).1 hc1
  obtain ⟨M, hM⟩ := least_exists hf
  have hr : f.r ≤ 64 := by unfold BF.r; omega
  have hr0 := hf.r0
  have hregs : f.regs = (f.r : Int) := by unfold BF.r; omega
  have hnl : f.bks.length = f.n := rfl
  have hn5 : f.n ≤ 500 := hf.b1
  have hok := hM.cl.sz.ok hf
  simp only [go_sem,Nat.reduceEqDiff,Nat.reduceAdd,Nat.reduceMul,↓reduceIte,↓dreduceIte,reduceCtorEq,Nat.reduceLeDiff,Nat.reduceLT,Nat.reduceSub,Int.reduceToNat,Int.reduceLE,Int.reduceLT, one_imm, one_ref]
  refine VCall.of_contract (live_of_c f hf hr M hM) (SleL.pure rfl) fun x hx => ?_
  subst hx
  simp only [go_sem,Nat.reduceEqDiff,Nat.reduceAdd,Nat.reduceMul,↓reduceIte,↓dreduceIte,reduceCtorEq,Nat.reduceLeDiff,Nat.reduceLT,Nat.reduceSub,Int.reduceToNat,Int.reduceLE,Int.reduceLT, one_imm, one_ref]
  refine VCall.of_contract (rSized_c f M hok.i hok.o) (SleL.pure rfl) fun x hx => ?_
  rw [(sizedB_iff hf.r0 M).2 hM.cl.sz] at hx
  subst hx
  simp only [go_sem,Nat.reduceEqDiff,Nat.reduceAdd,Nat.reduceMul,↓reduceIte,↓dreduceIte,reduceCtorEq,Nat.reduceLeDiff,Nat.reduceLT,Nat.reduceSub,Int.reduceToNat,Int.reduceLE,Int.reduceLT, one_imm, one_ref]
  refine VW_loop (fun b : Nat => ⟨[(2, .ptr 0 0 0), (3, .ptr 1 1 0), (5, .ptr 2 2 0), (6, I b)], [⟨0, 24, 1, bfL f⟩, ⟨1, 29, 1, [rowsA L.inn, rowsA L.out]⟩, ⟨2, 29, 1, [rowsA M.inn, rowsA M.out]⟩], 3⟩) (fun b => b ≤ f.n) (fun b => f.n - b) 0 (Wk.mk (by simp [get_cons]) ⟨[], rfl⟩ (Nat.le_refl _)) (Nat.zero_le _) ?_
  intro b hb
  by_cases hlt : b < f.n
  · simp only [go_sem,Nat.reduceEqDiff,Nat.reduceAdd,Nat.reduceMul,↓reduceIte,↓dreduceIte,reduceCtorEq,Nat.reduceLeDiff,Nat.reduceLT,Nat.reduceSub,Int.reduceToNat,Int.reduceLE,Int.reduceLT, one_imm, one_ref, List.length_map, hnl, eq_true (show (b : Int) < f.n by omega)]
    refine VW_loop (fun v : Nat => ⟨[(2, .ptr 0 0 0), (3, .ptr 1 1 0), (5, .ptr 2 2 0), (6, I b), (7, I v)], [⟨0, 24, 1, bfL f⟩, ⟨1, 29, 1, [rowsA L.inn, rowsA L.out]⟩, ⟨2, 29, 1, [rowsA M.inn, rowsA M.out]⟩], 3⟩) (fun v => v ≤ f.r) (fun v => f.r - v) 0 (Wk.mk (by simp [get_cons]) ⟨[], rfl⟩ (Nat.le_refl _)) (Nat.zero_le _) ?_
    intro v hv
    by_cases hvl : v < f.r
    · have lm := hM.min _ _ cL.cl b hlt v hvl
      have a1 : b < M.inn.length := by rw [hM.cl.sz.i]; exact hlt
      have a2 : b < M.out.length := by rw [hM.cl.sz.o]; exact hlt
      have a3 : b < L.inn.length := by rw [cL.sz.i]; exact hlt
      have a4 : b < L.out.length := by rw [cL.sz.o]; exact hlt
      have b1 := hM.cl.sz.ir _ (mem_getD a1)
      have b2 := hM.cl.sz.or _ (mem_getD a2)
      have b3 := cL.sz.ir _ (mem_getD a3)
      have b4 := cL.sz.or _ (mem_getD a4)
      obtain ⟨m1, m2⟩ : (((M.inn.getD b default).getD v default) = true → ((L.inn.getD b default).getD v default) = true) ∧ (((M.out.getD b default).getD v default) = true → ((L.out.getD b default).getD v default) = true) := lm
      generalize hR1 : M.inn.getD b default = R1 at m1 b1
      generalize hR2 : M.out.getD b default = R2 at m2 b2
      generalize hR3 : L.inn.getD b default = R3 at m1 b3
      generalize hR4 : L.out.getD b default = R4 at m2 b4
      generalize hx1 : R1.getD v default = x1 at m1
      generalize hx2 : R2.getD v default = x2 at m2
      generalize hx3 : R3.getD v default = x3 at m1
      generalize hx4 : R4.getD v default = x4 at m2
      have fin : ∃ s' : Nat, s' ≤ f.r ∧ f.r - s' < f.r - v ∧ s' = v + 1 := ⟨v + 1, by omega, by omega, rfl⟩
      cases x1 <;> cases x2 <;> (try (have := m1 rfl; subst this)) <;> (try (have := m2 rfl; subst this)) <;>
        (simp only [go_sem,Nat.reduceEqDiff,Nat.reduceAdd,Nat.reduceMul,↓reduceIte,↓dreduceIte,reduceCtorEq,Nat.reduceLeDiff,Nat.reduceLT,Nat.reduceSub,Int.reduceToNat,Int.reduceLE,Int.reduceLT, one_imm, one_ref, List.length_map, hregs, eq_true (show (v : Int) < f.r by omega), hR1, hR2, hR3, hR4, hx1, hx2, hx3, hx4]
         repeat ((with_reducible refine And.intro ?_ ?_); · omega)
         rw [i64_in (by omega) (by omega)]
         exact ⟨v + 1, by omega, by omega, Wk.mk (by simp [get_cons]) ⟨[], rfl⟩ (Nat.le_refl _)⟩)
    · simp only [go_sem,Nat.reduceEqDiff,Nat.reduceAdd,Nat.reduceMul,↓reduceIte,↓dreduceIte,reduceCtorEq,Nat.reduceLeDiff,Nat.reduceLT,Nat.reduceSub,Int.reduceToNat,Int.reduceLE,Int.reduceLT, one_imm, one_ref, List.length_map, hregs, eq_false (show ¬ (v : Int) < f.r by omega)]
      rw [i64_in (by omega) (by omega)]
      exact ⟨b + 1, by omega, by omega, Wk.mk (by simp [get_cons]) ⟨[], rfl⟩ (Nat.le_refl _)⟩
  · simp only [go_sem,Nat.reduceEqDiff,Nat.reduceAdd,Nat.reduceMul,↓reduceIte,↓dreduceIte,reduceCtorEq,Nat.reduceLeDiff,Nat.reduceLT,Nat.reduceSub,Int.reduceToNat,Int.reduceLE,Int.reduceLT, one_imm, one_ref, List.length_map, hnl, eq_false (show ¬ (b : Int) < f.n by omega)]
    refine VCall.of_contract awake_c (SleL.pure rfl) fun x hx => ?_
    subst hx
    simp only [go_sem,Nat.reduceEqDiff,Nat.reduceAdd,Nat.reduceMul,↓reduceIte,↓dreduceIte,reduceCtorEq,Nat.reduceLeDiff,Nat.reduceLT,Nat.reduceSub,Int.reduceToNat,Int.reduceLE,Int.reduceLT, one_imm, one_ref]
    exact ⟨_, Frz.pure rfl, rfl⟩

set_option maxRecDepth 100000 in
theorem liveleast_lifted (os : Os) (started : os.Started) (H : Type) (enc : TypeId × Value → H) :
    ReturnsInHanded {} Try.checked os 6 .any (Rows.liveLeastSpec.pre6 enc Try.prog Try.f6 Rows.liveLeastRow.domain false) (Rows.liveLeastSpec.post enc Try.prog Try.f6 false true false false) := by
  refine returnsInHanded_of_change_sized (C := Try.checked) Try.own started (by kernel_rfl) Try.func6
    (ChangeSpec.witness6 (enc := enc) (C := Try.checked) false ⟨#[], #[.agg #[.int .i64 0, .slice none 0 0], .agg #[.slice none 0 0, .slice none 0 0]], []⟩ 8 (by kernel_rfl) (by kernel_rfl) (by kernel_rfl) (by kernel_rfl)) ?_
  intro W base args ds gs before hval hW _ hwt _
  refine law_calls (P := Try.prog) (n := 20) (shs := [bfSh, liveSh]) (tb := 4) Try.laidOut rfl (by kernel_rfl) (by kernel_rfl) (by decide +kernel) (by kernel_rfl) (fun ds h => ?_) (fun xs hx => ?_) hval hW hwt
  · match ds, h with
    | [d1, d2], _ => rfl
  · obtain ⟨x, xs', rfl, hx1, hxs⟩ := fitS_cons hx
    obtain ⟨y, ys', rfl, hy, hys⟩ := fitS_cons hxs
    simp only [Sh.fitL] at hys
    subst hys
    obtain ⟨f, rfl, hF⟩ := bf_of hx1
    obtain ⟨L, rfl, hL⟩ := live_of hy
    exact liveleast_c f L hF hL

theorem liveleast_holds : Rows.LiveLeastSaid :=
  OpenClaim.holds_of_wide 6 Try.f6 rfl rfl rfl rfl rfl rfl rfl ⟨rfl, rfl, rfl, rfl, rfl⟩ rfl rfl rfl rfl rfl (by kernel_rfl) Try.func6 (by kernel_rfl)
    (of_decide_eq_true (by kernel_rfl)) (by unfold Func.isWrapper; first | (rw [if_pos (by decide +kernel)]; kernel_rfl) | (rw [if_neg (by decide +kernel)]; exact ⟨rfl, rfl⟩))
    (fun os started H enc _ => liveleast_lifted os started H enc)
end Go.Proofs.Ytjdeediehmhdoaa
