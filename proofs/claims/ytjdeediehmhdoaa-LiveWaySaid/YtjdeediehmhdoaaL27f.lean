/-
  LiveWay: the row. No condition.
-/
import Derived.Test.YtjdeediehmhdoaaL27a
import Derived.Test.YtjdeediehmhdoaaBU
namespace Go.Proofs.Ytjdeediehmhdoaa
set_option linter.unusedSimpArgs false
set_option linter.unusedVariables false
set_option maxRecDepth 10000
open Go.V Go.ChangeShapes Go.WideShapes Go.ChangeAt Go.RowKit

def anyN (f : BF) (M : LD) (b v i : Nat) : Bool := ((nxt (f.bk b)).take i).any fun k => (M.inn.getD k.toNat default).getD v default
theorem anyN_step (f : BF) (M : LD) (b v : Nat) {i : Nat} (hi : i < (nxt (f.bk b)).length) : anyN f M b v (i + 1) = (anyN f M b v i || (M.inn.getD ((nxt (f.bk b)).getD i default).toNat default).getD v default) := by
  unfold anyN
  rw [List.take_add_one, List.getElem?_eq_getElem hi, List.any_append]
  simp [List.getD, List.getElem?_eq_getElem hi]
theorem anyN_all {f : BF} {M : LD} (h : Least f M) {b v : Nat} (hb : b < f.n) (hv : v < f.r) : anyN f M b v (nxt (f.bk b)).length = (M.out.getD b default).getD v default := by
  have hw := h.way hb hv
  have ho : (M.out.getD b default).getD v default = M.O b v := rfl
  rw [ho]
  unfold anyN
  rw [List.take_length]
  cases e : M.O b v
  · rw [List.any_eq_false]
    intro k hk e2
    rw [hw.2 ⟨k, hk, e2⟩] at e; cases e
  · obtain ⟨k, hk, e2⟩ := hw.1 e
    exact List.any_eq_true.2 ⟨k, hk, e2⟩
theorem liveway_c (f : BF) (hF : BfOk f) : Contract Try.prog 8 [bfA f] (fun r => r = B true) := by
  refine Contract.of_call (VCall.of_body hmix f_sclaw27_LiveWay (by simp) ?_)
  simp only [go_sem,Nat.reduceEqDiff,Nat.reduceAdd,Nat.reduceMul,↓reduceIte,↓dreduceIte,reduceCtorEq,Nat.reduceLeDiff,Nat.reduceLT,Nat.reduceSub,Int.reduceToNat,Int.reduceLE,Int.reduceLT, one_imm, one_ref, c_sclaw27_LiveWay]
  refine VCall.of_contract (small_c f 12 60 hF (by decide) (by decide)) (SleL.pure rfl) fun x hx => ?_
  subst hx
  cases hs : smallB f 12 60
  · simp only [go_sem,Nat.reduceEqDiff,Nat.reduceAdd,Nat.reduceMul,↓reduceIte,↓dreduceIte,reduceCtorEq,Nat.reduceLeDiff,Nat.reduceLT,Nat.reduceSub,Int.reduceToNat,Int.reduceLE,Int.reduceLT, one_imm, one_ref]
    refine VCall.of_contract awake_c (SleL.pure rfl) fun x hx => ?_
    subst hx
    simp only [go_sem,Nat.reduceEqDiff,Nat.reduceAdd,Nat.reduceMul,↓reduceIte,↓dreduceIte,reduceCtorEq,Nat.reduceLeDiff,Nat.reduceLT,Nat.reduceSub,Int.reduceToNat,Int.reduceLE,Int.reduceLT, one_imm, one_ref]
    exact ⟨_, Frz.pure rfl, rfl⟩
  obtain ⟨hf, h12, h40, _, _⟩ := small_fine hs
  obtain ⟨M, hM⟩ := least_exists hf
  have hr : f.r ≤ 64 := by unfold BF.r; omega
  have hr0 := hf.r0
  have hregs : f.regs = (f.r : Int) := by unfold BF.r; omega
  have hnl : f.bks.length = f.n := rfl
  have hn5 : f.n ≤ 500 := hf.b1
  have hok := hM.cl.sz.ok hf
  simp only [go_sem,Nat.reduceEqDiff,Nat.reduceAdd,Nat.reduceMul,↓reduceIte,↓dreduceIte,reduceCtorEq,Nat.reduceLeDiff,Nat.reduceLT,Nat.reduceSub,Int.reduceToNat,Int.reduceLE,Int.reduceLT, one_imm, one_ref]
  refine VCall.of_contract (live_of_c f hf hr M hM) (SleL.pure rfl) fun x hx => ?_
  subst hx
  simp only [go_sem,Nat.reduceEqDiff,Nat.reduceAdd,Nat.reduceMul,↓reduceIte,↓dreduceIte,reduceCtorEq,Nat.reduceLeDiff,Nat.reduceLT,Nat.reduceSub,Int.reduceToNat,Int.reduceLE,Int.reduceLT, one_imm, one_ref]
  refine VCall.of_contract (refnext_c f hf.b1) (SleL.pure rfl) fun x hx => ?_
  subst hx
  simp only [go_sem,Nat.reduceEqDiff,Nat.reduceAdd,Nat.reduceMul,↓reduceIte,↓dreduceIte,reduceCtorEq,Nat.reduceLeDiff,Nat.reduceLT,Nat.reduceSub,Int.reduceToNat,Int.reduceLE,Int.reduceLT, one_imm, one_ref]
  refine VCall.of_contract (rSized_c f M hok.i hok.o) (SleL.pure rfl) fun x hx => ?_
  rw [(sizedB_iff hf.r0 M).2 hM.cl.sz] at hx
  subst hx
  simp only [go_sem,Nat.reduceEqDiff,Nat.reduceAdd,Nat.reduceMul,↓reduceIte,↓dreduceIte,reduceCtorEq,Nat.reduceLeDiff,Nat.reduceLT,Nat.reduceSub,Int.reduceToNat,Int.reduceLE,Int.reduceLT, one_imm, one_ref]
  refine VW_loop (fun b : Nat => ⟨[(1, .ptr 0 0 0), (3, .ptr 1 1 0), (4, nextA f), (5, I b)], [⟨0, 24, 1, bfL f⟩, ⟨1, 29, 1, [rowsA M.inn, rowsA M.out]⟩], 2⟩) (fun b => b ≤ f.n) (fun b => f.n - b) 0 (Wk.mk (by simp [get_cons]) ⟨[], rfl⟩ (Nat.le_refl _)) (Nat.zero_le _) ?_
  intro b hb
  by_cases hlt : b < f.n
  · have hbk : f.bks.getD b default = f.bk b := rfl
    have hnx := nxt_len (f.bk b)
    have hto := hf.to _ (BF.mem hlt)
    simp only [go_sem,Nat.reduceEqDiff,Nat.reduceAdd,Nat.reduceMul,↓reduceIte,↓dreduceIte,reduceCtorEq,Nat.reduceLeDiff,Nat.reduceLT,Nat.reduceSub,Int.reduceToNat,Int.reduceLE,Int.reduceLT, one_imm, one_ref, List.length_map, hnl, eq_true (show (b : Int) < f.n by omega)]
    refine VW_loop (fun v : Nat => ⟨[(1, .ptr 0 0 0), (3, .ptr 1 1 0), (4, nextA f), (5, I b), (6, I v)], [⟨0, 24, 1, bfL f⟩, ⟨1, 29, 1, [rowsA M.inn, rowsA M.out]⟩], 2⟩) (fun v => v ≤ f.r) (fun v => f.r - v) 0 (Wk.mk (by simp [get_cons]) ⟨[], rfl⟩ (Nat.le_refl _)) (Nat.zero_le _) ?_
    intro v hv
    by_cases hvl : v < f.r
    · simp only [go_sem,Nat.reduceEqDiff,Nat.reduceAdd,Nat.reduceMul,↓reduceIte,↓dreduceIte,reduceCtorEq,Nat.reduceLeDiff,Nat.reduceLT,Nat.reduceSub,Int.reduceToNat,Int.reduceLE,Int.reduceLT, one_imm, one_ref, List.length_map, hregs, eq_true (show (v : Int) < f.r by omega)]
      refine VW_loop (fun i : Nat => ⟨[(1, .ptr 0 0 0), (3, .ptr 1 1 0), (4, nextA f), (5, I b), (6, I v), (7, B (anyN f M b v i)), (8, I i)], [⟨0, 24, 1, bfL f⟩, ⟨1, 29, 1, [rowsA M.inn, rowsA M.out]⟩], 2⟩) (fun i => i ≤ (nxt (f.bk b)).length) (fun i => (nxt (f.bk b)).length - i) 0 (Wk.mk (by simp [get_cons, anyN]) ⟨[], rfl⟩ (Nat.le_refl _)) (Nat.zero_le _) ?_
      intro i hi
      by_cases hil : i < (nxt (f.bk b)).length
      · have hst := anyN_step f M b v hil
        have hkk := hto _ (mem_getD hil)
        obtain ⟨k, hkd⟩ : ∃ k, k = ((nxt (f.bk b)).getD i default).toNat := ⟨_, rfl⟩
        have hki : (nxt (f.bk b)).getD i default = (k : Int) := by omega
        have hkn : k < f.n := by unfold BF.n; omega
        have a1 : k < M.inn.length := by rw [hM.cl.sz.i]; exact hkn
        have b1 := hM.cl.sz.ir _ (mem_getD a1)
        rw [hki, Int.toNat_natCast] at hst
        generalize hR1 : M.inn.getD k default = R1 at hst b1
        generalize hx1 : R1.getD v default = x1 at hst
        cases hsm : anyN f M b v i
        · rw [hsm, Bool.false_or] at hst
          simp only [go_sem,Nat.reduceEqDiff,Nat.reduceAdd,Nat.reduceMul,↓reduceIte,↓dreduceIte,reduceCtorEq,Nat.reduceLeDiff,Nat.reduceLT,Nat.reduceSub,Int.reduceToNat,Int.reduceLE,Int.reduceLT, one_imm, one_ref, List.length_map, hnl, hbk, hki, hR1, hx1, hsm, eq_true (show (i : Int) < (nxt (f.bk b)).length by omega)]
          repeat ((with_reducible refine And.intro ?_ ?_); · omega)
          rw [i64_in (by omega) (by omega)]
          exact ⟨i + 1, by omega, by omega, Wk.mk (by simp [get_cons, hst]) ⟨[], rfl⟩ (Nat.le_refl _)⟩
        · rw [hsm, Bool.true_or] at hst
          simp only [go_sem,Nat.reduceEqDiff,Nat.reduceAdd,Nat.reduceMul,↓reduceIte,↓dreduceIte,reduceCtorEq,Nat.reduceLeDiff,Nat.reduceLT,Nat.reduceSub,Int.reduceToNat,Int.reduceLE,Int.reduceLT, one_imm, one_ref, List.length_map, hnl, hbk, hki, hR1, hx1, hsm, eq_true (show (i : Int) < (nxt (f.bk b)).length by omega)]
          repeat ((with_reducible refine And.intro ?_ ?_); · omega)
          rw [i64_in (by omega) (by omega)]
          exact ⟨i + 1, by omega, by omega, Wk.mk (by simp [get_cons, hst]) ⟨[], rfl⟩ (Nat.le_refl _)⟩
      · have hie : i = (nxt (f.bk b)).length := by omega
        subst hie
        have hal := anyN_all hM hlt hvl
        have a2 : b < M.out.length := by rw [hM.cl.sz.o]; exact hlt
        have b2 := hM.cl.sz.or _ (mem_getD a2)
        generalize hR2 : M.out.getD b default = R2 at hal b2
        simp only [go_sem,Nat.reduceEqDiff,Nat.reduceAdd,Nat.reduceMul,↓reduceIte,↓dreduceIte,reduceCtorEq,Nat.reduceLeDiff,Nat.reduceLT,Nat.reduceSub,Int.reduceToNat,Int.reduceLE,Int.reduceLT, one_imm, one_ref, List.length_map, hnl, hbk, hR2, ← hal, beq_self_eq_true, eq_false (show ¬ ((nxt (f.bk b)).length : Int) < (nxt (f.bk b)).length by omega)]
        repeat ((with_reducible refine And.intro ?_ ?_); · omega)
        rw [i64_in (by omega) (by omega)]
        exact ⟨v + 1, by omega, by omega, Wk.mk (by simp [get_cons]) ⟨[], rfl⟩ (Nat.le_refl _)⟩
    · simp only [go_sem,Nat.reduceEqDiff,Nat.reduceAdd,Nat.reduceMul,↓reduceIte,↓dreduceIte,reduceCtorEq,Nat.reduceLeDiff,Nat.reduceLT,Nat.reduceSub,Int.reduceToNat,Int.reduceLE,Int.reduceLT, one_imm, one_ref, List.length_map, hregs, eq_false (show ¬ (v : Int) < f.r by omega)]
      rw [i64_in (by omega) (by omega)]
      exact ⟨b + 1, by omega, by omega, Wk.mk (by simp [get_cons]) ⟨[], rfl⟩ (Nat.le_refl _)⟩
  · simp only [go_sem,Nat.reduceEqDiff,Nat.reduceAdd,Nat.reduceMul,↓reduceIte,↓dreduceIte,reduceCtorEq,Nat.reduceLeDiff,Nat.reduceLT,Nat.reduceSub,Int.reduceToNat,Int.reduceLE,Int.reduceLT, one_imm, one_ref, List.length_map, hnl, eq_false (show ¬ (b : Int) < f.n by omega)]
    refine VCall.of_contract awake_c (SleL.pure rfl) fun x hx => ?_
    subst hx
    simp only [go_sem,Nat.reduceEqDiff,Nat.reduceAdd,Nat.reduceMul,↓reduceIte,↓dreduceIte,reduceCtorEq,Nat.reduceLeDiff,Nat.reduceLT,Nat.reduceSub,Int.reduceToNat,Int.reduceLE,Int.reduceLT, one_imm, one_ref]
    exact ⟨_, Frz.pure rfl, rfl⟩

set_option maxRecDepth 100000 in
theorem liveway_lifted (os : Os) (started : os.Started) (H : Type) (enc : TypeId × Value → H) :
    ReturnsInHanded {} Try.checked os 8 .any (Rows.liveWaySpec.pre6 enc Try.prog Try.f8 Rows.liveWayRow.domain false) (Rows.liveWaySpec.post enc Try.prog Try.f8 false true false false) := by
  refine returnsInHanded_of_change_sized (C := Try.checked) Try.own started (by kernel_rfl) Try.func8
    (ChangeSpec.witness6 (enc := enc) (C := Try.checked) false ⟨#[], #[.agg #[.int .i64 0, .slice none 0 0]], []⟩ 8 (by kernel_rfl) (by kernel_rfl) (by kernel_rfl) (by kernel_rfl)) ?_
  intro W base args ds gs before hval hW _ hwt _
  refine law_calls (P := Try.prog) (n := 20) (shs := [bfSh]) (tb := 4) Try.laidOut rfl (by kernel_rfl) (by kernel_rfl) (by decide +kernel) (by kernel_rfl) (fun ds h => ?_) (fun xs hx => ?_) hval hW hwt
  · match ds, h with
    | [d1], _ => rfl
  · obtain ⟨x, xs', rfl, hx1, hxs⟩ := fitS_cons hx
    simp only [Sh.fitL] at hxs
    subst hxs
    obtain ⟨f, rfl, hF⟩ := bf_of hx1
    exact liveway_c f hF

theorem liveway_holds : Rows.LiveWaySaid :=
  OpenClaim.holds_of_wide 8 Try.f8 rfl rfl rfl rfl rfl rfl rfl ⟨rfl, rfl, rfl, rfl, rfl⟩ rfl rfl rfl rfl rfl (by kernel_rfl) Try.func8 (by kernel_rfl)
    (of_decide_eq_true (by kernel_rfl)) (by unfold Func.isWrapper; first | (rw [if_pos (by decide +kernel)]; kernel_rfl) | (rw [if_neg (by decide +kernel)]; exact ⟨rfl, rfl⟩))
    (fun os started H enc _ => liveway_lifted os started H enc)
end Go.Proofs.Ytjdeediehmhdoaa
