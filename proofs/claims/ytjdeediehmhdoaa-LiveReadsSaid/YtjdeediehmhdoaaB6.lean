/-
  What matters: the checks of both, rows that are the same, small functions: contracts. No condition.
-/
import Derived.Test.YtjdeediehmhdoaaDN
import Derived.Test.YtjdeediehmhdoaaBR
import Derived.Test.YtjdeediehmhdoaaBS
namespace Go.Proofs.Ytjdeediehmhdoaa
set_option linter.unusedSimpArgs false
set_option linter.unusedVariables false
set_option maxRecDepth 10000
open Go.V

theorem within_both {x y : List Bool} (hl : x.length = y.length) (h1 : withinB x y = true) (h2 : withinB y x = true) : x = y := by
  have g1 := of_decide_eq_true h1
  have g2 := of_decide_eq_true h2
  refine gB_ext hl fun v hv => ?_
  cases hx : gB x v <;> cases hy : gB y v
  · rfl
  · have := g2 v (by omega) hy; rw [hx] at this; cases this
  · have := g1 v hv hx; rw [hy] at this; cases this
  · rfl
theorem within_self (x : List Bool) : withinB x x = true := decide_eq_true fun _ _ h => h

theorem rrows_c (a b : List (List Bool)) (ha : a.length ≤ 140737488355328) (hr : ∀ l ∈ a, l.length ≤ 140737488355328) : Contract Try.prog 21 [rowsA a, rowsA b] (fun r => r = B (decide (a = b))) := by
  refine Contract.of_call (VCall.of_body hmix f_scref27_Rows (by simp) ?_)
  by_cases h : (a.length : Int) = b.length
  · have hl : a.length = b.length := by omega
    simp only [go_sem,Nat.reduceEqDiff,Nat.reduceAdd,Nat.reduceMul,↓reduceIte,↓dreduceIte,reduceCtorEq,Nat.reduceLeDiff,Nat.reduceLT,Nat.reduceSub,Int.reduceToNat,Int.reduceLE,Int.reduceLT, c_scref27_Rows, one_imm, List.length_map, eq_true h]
    refine VW_loop (fun k : Nat => ⟨[(0, rowsA a), (1, rowsA b), (5, I k)], [], 0⟩) (fun k => k ≤ a.length ∧ a.take k = b.take k) (fun k => a.length - k) 0 (Wk.mk (by simp [get_cons]) ⟨[], rfl⟩ (Nat.le_refl _)) ⟨by omega, rfl⟩ ?_
    rintro k ⟨hk, hp⟩
    by_cases h1 : k < a.length
    · have hrk := hr _ (mem_getD h1)
      have hcong : a = b → a.getD k default = b.getD k default := fun e => by rw [e]
      generalize hx : a.getD k default = x at hrk hcong
      generalize hy : b.getD k default = y at hcong
      by_cases h2 : (x.length : Int) = y.length
      · simp only [go_sem,Nat.reduceEqDiff,Nat.reduceAdd,Nat.reduceMul,↓reduceIte,↓dreduceIte,reduceCtorEq,Nat.reduceLeDiff,Nat.reduceLT,Nat.reduceSub,Int.reduceToNat,Int.reduceLE,Int.reduceLT, one_imm, List.length_map, eq_true (show (k : Int) < a.length by omega), hx, hy, eq_true h2]
        repeat ((with_reducible refine And.intro ?_ ?_); · omega)
        refine ECall.of (rwithin27_c x y (by omega) hrk) (SleL.pure rfl) ⟨_, fun _ => Iff.rfl⟩ fun r hr' => ?_
        subst hr'
        cases h3 : withinB x y
        · simp only [go_sem,Nat.reduceEqDiff,Nat.reduceAdd,Nat.reduceMul,↓reduceIte,↓dreduceIte,reduceCtorEq,Nat.reduceLeDiff,Nat.reduceLT,Nat.reduceSub,Int.reduceToNat,Int.reduceLE,Int.reduceLT, one_imm, List.length_map]
          refine ⟨_, Frz.pure rfl, ?_⟩
          rw [decide_eq_false fun e => by rw [hcong e, within_self] at h3; cases h3]
        · simp only [go_sem,Nat.reduceEqDiff,Nat.reduceAdd,Nat.reduceMul,↓reduceIte,↓dreduceIte,reduceCtorEq,Nat.reduceLeDiff,Nat.reduceLT,Nat.reduceSub,Int.reduceToNat,Int.reduceLE,Int.reduceLT, one_imm, List.length_map, hx, hy]
          repeat ((with_reducible refine And.intro ?_ ?_); · omega)
          refine ECall.of (rwithin27_c y x (by omega) (by omega)) (SleL.pure rfl) ⟨_, fun _ => Iff.rfl⟩ fun r hr' => ?_
          subst hr'
          cases h4 : withinB y x
          · simp only [go_sem,Nat.reduceEqDiff,Nat.reduceAdd,Nat.reduceMul,↓reduceIte,↓dreduceIte,reduceCtorEq,Nat.reduceLeDiff,Nat.reduceLT,Nat.reduceSub,Int.reduceToNat,Int.reduceLE,Int.reduceLT, one_imm, List.length_map]
            refine ⟨_, Frz.pure rfl, ?_⟩
            rw [decide_eq_false fun e => by rw [hcong e, within_self] at h4; cases h4]
          · simp only [go_sem,Nat.reduceEqDiff,Nat.reduceAdd,Nat.reduceMul,↓reduceIte,↓dreduceIte,reduceCtorEq,Nat.reduceLeDiff,Nat.reduceLT,Nat.reduceSub,Int.reduceToNat,Int.reduceLE,Int.reduceLT, one_imm, List.length_map]
            rw [i64_in (by omega) (by omega)]
            exact ⟨k + 1, ⟨by omega, take_ext h1 (by omega) hp (by rw [hx, hy, within_both (by omega) h3 h4])⟩, by omega, Wk.mk (by simp [get_cons]) ⟨[], rfl⟩ (Nat.le_refl _)⟩
      · simp only [go_sem,Nat.reduceEqDiff,Nat.reduceAdd,Nat.reduceMul,↓reduceIte,↓dreduceIte,reduceCtorEq,Nat.reduceLeDiff,Nat.reduceLT,Nat.reduceSub,Int.reduceToNat,Int.reduceLE,Int.reduceLT, one_imm, List.length_map, eq_true (show (k : Int) < a.length by omega), hx, hy, eq_false h2]
        repeat ((with_reducible refine And.intro ?_ ?_); · omega)
        refine ⟨_, Frz.pure rfl, ?_⟩
        have hab : a ≠ b := fun e => h2 (by rw [hcong e])
        rw [decide_eq_false hab]
    · simp only [go_sem,Nat.reduceEqDiff,Nat.reduceAdd,Nat.reduceMul,↓reduceIte,↓dreduceIte,reduceCtorEq,Nat.reduceLeDiff,Nat.reduceLT,Nat.reduceSub,Int.reduceToNat,Int.reduceLE,Int.reduceLT, one_imm, List.length_map, eq_false (show ¬ (k : Int) < a.length by omega)]
      refine ⟨_, Frz.pure rfl, ?_⟩
      rw [decide_eq_true (take_all (by omega) (by omega) hp)]
  · simp only [go_sem,Nat.reduceEqDiff,Nat.reduceAdd,Nat.reduceMul,↓reduceIte,↓dreduceIte,reduceCtorEq,Nat.reduceLeDiff,Nat.reduceLT,Nat.reduceSub,Int.reduceToNat,Int.reduceLE,Int.reduceLT, c_scref27_Rows, one_imm, List.length_map, eq_false h]
    refine ⟨_, Frz.pure rfl, ?_⟩
    rw [decide_eq_false (fun e => h (by rw [e]))]

def sameB (L M : LD) : Bool := decide (L.inn = M.inn) && decide (L.out = M.out)
theorem sameB_self (L : LD) : sameB L L = true := by simp [sameB]
theorem rSame_c (L M : LD) (h : LOK L) : Contract Try.prog 14 [liveA L, liveA M] (fun x => x = B (sameB L M)) := by
  refine Contract.of_call (VCall.of_body hmix f_scref27_Same (by simp) ?_)
  simp only [go_sem,Nat.reduceEqDiff,Nat.reduceAdd,Nat.reduceMul,↓reduceIte,↓dreduceIte,reduceCtorEq,Nat.reduceLeDiff,Nat.reduceLT,Nat.reduceSub,Int.reduceToNat,Int.reduceLE,Int.reduceLT, c_scref27_Same, one_imm, List.length_map]
  refine VCall.of_contract (rrows_c L.inn M.inn h.i h.ir) (SleL.pure rfl) fun x hx => ?_
  subst hx
  by_cases h1 : L.inn = M.inn
  · simp only [go_sem,Nat.reduceEqDiff,Nat.reduceAdd,Nat.reduceMul,↓reduceIte,↓dreduceIte,reduceCtorEq,Nat.reduceLeDiff,Nat.reduceLT,Nat.reduceSub,Int.reduceToNat,Int.reduceLE,Int.reduceLT, one_imm, List.length_map, eq_true h1]
    refine VCall.of_contract (rrows_c L.out M.out h.o h.or) (SleL.pure rfl) fun x hx => ?_
    subst hx
    simp only [go_sem,Nat.reduceEqDiff,Nat.reduceAdd,Nat.reduceMul,↓reduceIte,↓dreduceIte,reduceCtorEq,Nat.reduceLeDiff,Nat.reduceLT,Nat.reduceSub,Int.reduceToNat,Int.reduceLE,Int.reduceLT, one_imm, List.length_map]
    exact ⟨_, Frz.pure rfl, by simp [sameB, h1]⟩
  · simp only [go_sem,Nat.reduceEqDiff,Nat.reduceAdd,Nat.reduceMul,↓reduceIte,↓dreduceIte,reduceCtorEq,Nat.reduceLeDiff,Nat.reduceLT,Nat.reduceSub,Int.reduceToNat,Int.reduceLE,Int.reduceLT, one_imm, List.length_map, eq_false h1]
    exact ⟨_, Frz.pure rfl, by simp [sameB, h1]⟩
theorem Same_c (L M : LD) (h : LOK L) : Contract Try.prog 19 [liveA L, liveA M] (fun x => x = B (sameB L M)) := by
  refine Contract.of_call (VCall.of_body hmix f_live_Same (by simp) ?_)
  simp only [go_sem,Nat.reduceEqDiff,Nat.reduceAdd,Nat.reduceMul,↓reduceIte,↓dreduceIte,reduceCtorEq,Nat.reduceLeDiff,Nat.reduceLT,Nat.reduceSub,Int.reduceToNat,Int.reduceLE,Int.reduceLT, c_live_Same, one_imm, List.length_map]
  refine VCall.of_contract (same_c L.inn M.inn h.i h.ir) (SleL.pure rfl) fun x hx => ?_
  subst hx
  by_cases h1 : L.inn = M.inn
  · simp only [go_sem,Nat.reduceEqDiff,Nat.reduceAdd,Nat.reduceMul,↓reduceIte,↓dreduceIte,reduceCtorEq,Nat.reduceLeDiff,Nat.reduceLT,Nat.reduceSub,Int.reduceToNat,Int.reduceLE,Int.reduceLT, one_imm, List.length_map, eq_true h1]
    refine VCall.of_contract (same_c L.out M.out h.o h.or) (SleL.pure rfl) fun x hx => ?_
    subst hx
    simp only [go_sem,Nat.reduceEqDiff,Nat.reduceAdd,Nat.reduceMul,↓reduceIte,↓dreduceIte,reduceCtorEq,Nat.reduceLeDiff,Nat.reduceLT,Nat.reduceSub,Int.reduceToNat,Int.reduceLE,Int.reduceLT, one_imm, List.length_map]
    exact ⟨_, Frz.pure rfl, by simp [sameB, h1]⟩
  · simp only [go_sem,Nat.reduceEqDiff,Nat.reduceAdd,Nat.reduceMul,↓reduceIte,↓dreduceIte,reduceCtorEq,Nat.reduceLeDiff,Nat.reduceLT,Nat.reduceSub,Int.reduceToNat,Int.reduceLE,Int.reduceLT, one_imm, List.length_map, eq_false h1]
    exact ⟨_, Frz.pure rfl, by simp [sameB, h1]⟩

def blkC (f : BF) (L : LD) (b : Nat) : Bool := (nxt (f.bk b)).all (fun k => withinB (L.inn.getD k.toNat default) (L.out.getD b default)) && withinB (aheadL (f.bk b) (L.out.getD b default)) (L.inn.getD b default)
def checkB (f : BF) (L : LD) : Bool := sizedB f L && (List.range f.n).all (blkC f L)
theorem checkB_iff {f : BF} (hf : Fine f) (L : LD) : checkB f L = true ↔ ClosedP f L := by
  unfold checkB
  rw [Bool.and_eq_true, sizedB_iff hf.r0, List.all_eq_true]
  have hrow : ∀ (m : List (List Bool)) b, m.getD b default = m.getD b [] := fun _ _ => rfl
  refine ⟨fun ⟨hs, h⟩ => ⟨hs, ⟨fun b hb k hk v hv h1 => ?_, fun b hb v hv h1 => ?_⟩⟩, fun h => ⟨h.sz, fun b hb => ?_⟩⟩
  · have := h b (List.mem_range.2 hb)
    unfold blkC at this
    rw [Bool.and_eq_true, List.all_eq_true] at this
    have hk' := hf.to _ (BF.mem hb) k hk
    exact of_decide_eq_true (this.1 k hk) v (by rw [hrow, hs.il (show k.toNat < f.n by unfold BF.n; omega)]; exact hv) h1
  · have := h b (List.mem_range.2 hb)
    unfold blkC at this
    rw [Bool.and_eq_true, List.all_eq_true] at this
    refine of_decide_eq_true this.2 v (by rw [aheadL_len, hrow, hs.ol hb]; exact hv) ?_
    rw [hrow, gB_ahead hf hb _ (hs.ol hb) hv]
    exact h1
  · have hb := List.mem_range.1 hb
    unfold blkC
    rw [Bool.and_eq_true, List.all_eq_true]
    refine ⟨fun k hk => ?_, ?_⟩
    · have hk' := hf.to _ (BF.mem hb) k hk
      refine decide_eq_true fun v hv h1 => h.cl.way b hb k hk v ?_ h1
      rw [hrow, h.sz.il (show k.toNat < f.n by unfold BF.n; omega)] at hv
      exact hv
    · refine decide_eq_true fun v hv h1 => h.cl.ahead b hb v ?_ ?_
      · rw [aheadL_len, hrow, h.sz.ol hb] at hv; exact hv
      · rw [aheadL_len, hrow, h.sz.ol hb] at hv
        have := gB_ahead hf hb _ (h.sz.ol hb) hv
        rw [hrow] at h1
        rw [h1] at this
        exact this.symm

theorem Fine.regs {f : BF} (hf : Fine f) {b : Nat} (hb : b < f.n) {l : List Bool} (hl : l.length = f.r) : (∀ t ∈ (f.bk b).ins, RegT t l.length) ∧ ((f.bk b).e = 2 → 0 ≤ (f.bk b).v ∧ (f.bk b).v < l.length) := by
  have h0 := hf.r0
  have e : (l.length : Int) = f.regs := by rw [hl]; unfold BF.r; omega
  rw [e]
  exact ⟨hf.ins _ (BF.mem hb), hf.v _ (BF.mem hb)⟩
theorem next_at {f : BF} {b : Nat} (hb : b < f.n) : (f.bks.map fun b => ints (nxt b)).getD b .dead = ints (nxt (f.bk b)) := by
  simp [BF.bk, List.getD, List.getElem?_eq_getElem (show b < f.bks.length from hb)]

theorem rcheck_c (f : BF) (L : LD) (hf : Fine f) (hL : LOK L) : Contract Try.prog 16 [bfA f, liveA L] (fun x => x = B (checkB f L)) := by
  refine Contract.of_call (VCall.of_body hmix f_scref27_Check (by simp) ?_)
  have hn : f.bks.length = f.n := rfl
  have hn5 := hf.b1
  rw [hn] at hn5
  have hr4 := hf.r1
  have hr0 := hf.r0
  have hr : f.r ≤ 4000 := by unfold BF.r; omega
  simp only [go_sem,Nat.reduceEqDiff,Nat.reduceAdd,Nat.reduceMul,↓reduceIte,↓dreduceIte,reduceCtorEq,Nat.reduceLeDiff,Nat.reduceLT,Nat.reduceSub,Int.reduceToNat,Int.reduceLE,Int.reduceLT, c_scref27_Check, one_imm, List.length_map]
  refine VCall.of_contract (rSized_c f L hL.i hL.o) (SleL.pure rfl) fun x hx => ?_
  subst hx
  cases hs : sizedB f L
  · simp only [go_sem,Nat.reduceEqDiff,Nat.reduceAdd,Nat.reduceMul,↓reduceIte,↓dreduceIte,reduceCtorEq,Nat.reduceLeDiff,Nat.reduceLT,Nat.reduceSub,Int.reduceToNat,Int.reduceLE,Int.reduceLT, one_imm, List.length_map]
    exact ⟨_, Frz.pure rfl, by simp [checkB, hs]⟩
  have hS := (sizedB_iff hr0 L).1 hs
  simp only [go_sem,Nat.reduceEqDiff,Nat.reduceAdd,Nat.reduceMul,↓reduceIte,↓dreduceIte,reduceCtorEq,Nat.reduceLeDiff,Nat.reduceLT,Nat.reduceSub,Int.reduceToNat,Int.reduceLE,Int.reduceLT, one_imm, List.length_map]
  refine VCall.of_contract (refnext_c f hf.b1) (SleL.pure rfl) fun x hx => ?_
  subst hx
  simp only [go_sem,Nat.reduceEqDiff,Nat.reduceAdd,Nat.reduceMul,↓reduceIte,↓dreduceIte,reduceCtorEq,Nat.reduceLeDiff,Nat.reduceLT,Nat.reduceSub,Int.reduceToNat,Int.reduceLE,Int.reduceLT, one_imm, List.length_map]
  refine VW_loop (fun k : Nat => ⟨[(2, .ptr 0 0 0), (3, .ptr 1 1 0), (5, .imm 1 (f.bks.map fun b => ints (nxt b))), (6, I k)], [⟨0, 24, 1, [I f.regs, bksA f.bks]⟩, ⟨1, 29, 1, [rowsA L.inn, rowsA L.out]⟩], 2⟩)
    (fun k => k ≤ f.n ∧ ∀ b < k, blkC f L b = true) (fun k => f.n - k) 0 (Wk.mk (by simp [get_cons]) ⟨[], rfl⟩ (Nat.le_refl _)) ⟨by omega, by omega⟩ ?_
  rintro b ⟨hb, hp⟩
  by_cases hlt : b < f.n
  · have hfalse : blkC f L b = false → checkB f L = false := fun e => by
      unfold checkB
      rw [List.all_eq_false.2 ⟨b, List.mem_range.2 hlt, by rw [e]; decide⟩]; simp
    have hbk : f.bks.getD b default = f.bk b := rfl
    have hli : (L.inn.getD b default).length = f.r := hS.il hlt
    have hlo : (L.out.getD b default).length = f.r := hS.ol hlt
    have hnl := nxt_len (f.bk b)
    have hreg := hf.regs hlt hlo
    have hto := hf.to _ (BF.mem hlt)
    have h1i := hS.i
    have h1o := hS.o
    simp only [go_sem,Nat.reduceEqDiff,Nat.reduceAdd,Nat.reduceMul,↓reduceIte,↓dreduceIte,reduceCtorEq,Nat.reduceLeDiff,Nat.reduceLT,Nat.reduceSub,Int.reduceToNat,Int.reduceLE,Int.reduceLT, one_imm, List.length_map, eq_true (show (b : Int) < f.bks.length by omega), hbk]
    refine VW_loop (fun j : Nat => ⟨[(2, .ptr 0 0 0), (3, .ptr 1 1 0), (5, .imm 1 (f.bks.map fun b => ints (nxt b))), (6, I b), (7, I j)], [⟨0, 24, 1, [I f.regs, bksA f.bks]⟩, ⟨1, 29, 1, [rowsA L.inn, rowsA L.out]⟩], 2⟩)
      (fun j => j ≤ (nxt (f.bk b)).length ∧ ((nxt (f.bk b)).take j).all (fun k => withinB (L.inn.getD k.toNat default) (L.out.getD b default)) = true) (fun j => (nxt (f.bk b)).length - j) 0 (Wk.mk (by simp [get_cons]) ⟨[], rfl⟩ (Nat.le_refl _)) ⟨by omega, rfl⟩ ?_
    rintro j ⟨hj, hq⟩
    by_cases hl2 : j < (nxt (f.bk b)).length
    · have hto' := hto _ (mem_getD hl2)
      have hlk : (L.inn.getD ((nxt (f.bk b)).getD j default).toNat default).length = f.r := hS.il (by omega)
      simp only [go_sem,Nat.reduceEqDiff,Nat.reduceAdd,Nat.reduceMul,↓reduceIte,↓dreduceIte,reduceCtorEq,Nat.reduceLeDiff,Nat.reduceLT,Nat.reduceSub,Int.reduceToNat,Int.reduceLE,Int.reduceLT, one_imm, List.length_map, hbk, eq_true (show (j : Int) < (nxt (f.bk b)).length by omega)]
      repeat ((with_reducible refine And.intro ?_ ?_); · omega)
      refine VCall.of_contract (rwithin27_c _ _ (by rw [hlk, hlo]; omega) (by rw [hlk]; omega)) (SleL.pure rfl) fun x hx => ?_
      subst hx
      cases hw : withinB (L.inn.getD ((nxt (f.bk b)).getD j default).toNat default) (L.out.getD b default)
      · simp only [go_sem,Nat.reduceEqDiff,Nat.reduceAdd,Nat.reduceMul,↓reduceIte,↓dreduceIte,reduceCtorEq,Nat.reduceLeDiff,Nat.reduceLT,Nat.reduceSub,Int.reduceToNat,Int.reduceLE,Int.reduceLT, one_imm, List.length_map]
        refine ⟨_, Frz.pure rfl, ?_⟩
        rw [hfalse (by unfold blkC; rw [all_stop hl2 hw]; rfl)]
      · simp only [go_sem,Nat.reduceEqDiff,Nat.reduceAdd,Nat.reduceMul,↓reduceIte,↓dreduceIte,reduceCtorEq,Nat.reduceLeDiff,Nat.reduceLT,Nat.reduceSub,Int.reduceToNat,Int.reduceLE,Int.reduceLT, one_imm, List.length_map]
        rw [i64_in (by omega) (by omega)]
        exact ⟨j + 1, ⟨by omega, all_step hl2 hq hw⟩, by omega, Wk.mk (by simp [get_cons]) ⟨[], rfl⟩ (Nat.le_refl _)⟩
    · simp only [go_sem,Nat.reduceEqDiff,Nat.reduceAdd,Nat.reduceMul,↓reduceIte,↓dreduceIte,reduceCtorEq,Nat.reduceLeDiff,Nat.reduceLT,Nat.reduceSub,Int.reduceToNat,Int.reduceLE,Int.reduceLT, one_imm, List.length_map, hbk, eq_false (show ¬ (j : Int) < (nxt (f.bk b)).length by omega)]
      repeat ((with_reducible refine And.intro ?_ ?_); · omega)
      refine ECall.of (rahead_c (f.bk b) (L.out.getD b default) (by omega) (by have := hf.len _ (BF.mem hlt); omega) hreg.2 hreg.1) (SleL.pure rfl) ⟨_, fun _ => Iff.rfl⟩ fun x hx => ?_
      subst hx
      simp only [go_sem,Nat.reduceEqDiff,Nat.reduceAdd,Nat.reduceMul,↓reduceIte,↓dreduceIte,reduceCtorEq,Nat.reduceLeDiff,Nat.reduceLT,Nat.reduceSub,Int.reduceToNat,Int.reduceLE,Int.reduceLT, one_imm, List.length_map]
      repeat ((with_reducible refine And.intro ?_ ?_); · omega)
      refine ECall.of (rwithin27_c _ _ (by rw [aheadL_len, hli, hlo]; omega) (by rw [aheadL_len, hlo]; omega)) (SleL.pure rfl) ⟨_, fun _ => Iff.rfl⟩ fun x hx => ?_
      subst hx
      cases hw : withinB (aheadL (f.bk b) (L.out.getD b default)) (L.inn.getD b default)
      · simp only [go_sem,Nat.reduceEqDiff,Nat.reduceAdd,Nat.reduceMul,↓reduceIte,↓dreduceIte,reduceCtorEq,Nat.reduceLeDiff,Nat.reduceLT,Nat.reduceSub,Int.reduceToNat,Int.reduceLE,Int.reduceLT, one_imm, List.length_map]
        refine ⟨_, Frz.pure rfl, ?_⟩
        rw [hfalse (by unfold blkC; rw [hw]; simp)]
      · simp only [go_sem,Nat.reduceEqDiff,Nat.reduceAdd,Nat.reduceMul,↓reduceIte,↓dreduceIte,reduceCtorEq,Nat.reduceLeDiff,Nat.reduceLT,Nat.reduceSub,Int.reduceToNat,Int.reduceLE,Int.reduceLT, one_imm, List.length_map]
        rw [i64_in (by omega) (by omega)]
        refine ⟨b + 1, ⟨by omega, fun i hi => ?_⟩, by omega, Wk.mk (by simp [get_cons]) ⟨[], rfl⟩ (Nat.le_refl _)⟩
        by_cases e : i = b
        · rw [e]; unfold blkC; rw [hw, all_end (by omega) hq]; rfl
        · exact hp i (by omega)
  · simp only [go_sem,Nat.reduceEqDiff,Nat.reduceAdd,Nat.reduceMul,↓reduceIte,↓dreduceIte,reduceCtorEq,Nat.reduceLeDiff,Nat.reduceLT,Nat.reduceSub,Int.reduceToNat,Int.reduceLE,Int.reduceLT, one_imm, List.length_map, eq_false (show ¬ (b : Int) < f.bks.length by omega)]
    refine ⟨_, Frz.pure rfl, ?_⟩
    rw [show checkB f L = true from ?_]
    unfold checkB
    rw [hs, Bool.true_and, List.all_eq_true]
    exact fun i hi => hp i (by have := List.mem_range.1 hi; omega)
theorem check_c (f : BF) (L : LD) (hf : Fine f) (hL : LOK L) : Contract Try.prog 17 [bfA f, liveA L] (fun x => x = B (checkB f L)) := by
  refine Contract.of_call (VCall.of_body hmix f_live_Check (by simp) ?_)
  have hn : f.bks.length = f.n := rfl
  have hn5 := hf.b1
  rw [hn] at hn5
  have hr4 := hf.r1
  have hr0 := hf.r0
  have hr : f.r ≤ 4000 := by unfold BF.r; omega
  simp only [go_sem,Nat.reduceEqDiff,Nat.reduceAdd,Nat.reduceMul,↓reduceIte,↓dreduceIte,reduceCtorEq,Nat.reduceLeDiff,Nat.reduceLT,Nat.reduceSub,Int.reduceToNat,Int.reduceLE,Int.reduceLT, c_live_Check, one_imm, List.length_map]
  refine VCall.of_contract (fits_c f L.inn hL.i) (SleL.pure rfl) fun x hx => ?_
  subst hx
  cases hs1 : sizedL L.inn f.bks.length f.regs
  · simp only [go_sem,Nat.reduceEqDiff,Nat.reduceAdd,Nat.reduceMul,↓reduceIte,↓dreduceIte,reduceCtorEq,Nat.reduceLeDiff,Nat.reduceLT,Nat.reduceSub,Int.reduceToNat,Int.reduceLE,Int.reduceLT, one_imm, List.length_map]
    exact ⟨_, Frz.pure rfl, by simp [checkB, sizedB, hs1]⟩
  simp only [go_sem,Nat.reduceEqDiff,Nat.reduceAdd,Nat.reduceMul,↓reduceIte,↓dreduceIte,reduceCtorEq,Nat.reduceLeDiff,Nat.reduceLT,Nat.reduceSub,Int.reduceToNat,Int.reduceLE,Int.reduceLT, one_imm, List.length_map]
  refine VCall.of_contract (fits_c f L.out hL.o) (SleL.pure rfl) fun x hx => ?_
  subst hx
  cases hs2 : sizedL L.out f.bks.length f.regs
  · simp only [go_sem,Nat.reduceEqDiff,Nat.reduceAdd,Nat.reduceMul,↓reduceIte,↓dreduceIte,reduceCtorEq,Nat.reduceLeDiff,Nat.reduceLT,Nat.reduceSub,Int.reduceToNat,Int.reduceLE,Int.reduceLT, one_imm, List.length_map]
    exact ⟨_, Frz.pure rfl, by simp [checkB, sizedB, hs1, hs2]⟩
  have hs : sizedB f L = true := by unfold sizedB; rw [hs1, hs2]; rfl
  have hS := (sizedB_iff hr0 L).1 hs
  simp only [go_sem,Nat.reduceEqDiff,Nat.reduceAdd,Nat.reduceMul,↓reduceIte,↓dreduceIte,reduceCtorEq,Nat.reduceLeDiff,Nat.reduceLT,Nat.reduceSub,Int.reduceToNat,Int.reduceLE,Int.reduceLT, one_imm, List.length_map]
  refine VCall.of_contract (next_c f hf.b1) (SleL.pure rfl) fun x hx => ?_
  subst hx
  simp only [go_sem,Nat.reduceEqDiff,Nat.reduceAdd,Nat.reduceMul,↓reduceIte,↓dreduceIte,reduceCtorEq,Nat.reduceLeDiff,Nat.reduceLT,Nat.reduceSub,Int.reduceToNat,Int.reduceLE,Int.reduceLT, one_imm, List.length_map]
  refine VW_loop (fun k : Nat => ⟨[(2, .ptr 0 0 0), (3, .ptr 1 1 0), (5, .imm 1 (f.bks.map fun b => ints (nxt b))), (25, I f.bks.length), (26, I k)], [⟨0, 24, 1, [I f.regs, bksA f.bks]⟩, ⟨1, 29, 1, [rowsA L.inn, rowsA L.out]⟩], 2⟩)
    (fun k => k ≤ f.n ∧ ∀ b < k, blkC f L b = true) (fun k => f.n - k) 0 (Wk.mk (by simp [get_cons]) ⟨[], rfl⟩ (Nat.le_refl _)) ⟨by omega, by omega⟩ ?_
  rintro b ⟨hb, hp⟩
  by_cases hlt : b < f.n
  · have hfalse : blkC f L b = false → checkB f L = false := fun e => by
      unfold checkB
      rw [List.all_eq_false.2 ⟨b, List.mem_range.2 hlt, by rw [e]; decide⟩]; simp
    have hbk : f.bks.getD b default = f.bk b := rfl
    have hli : (L.inn.getD b default).length = f.r := hS.il hlt
    have hlo : (L.out.getD b default).length = f.r := hS.ol hlt
    have hnl := nxt_len (f.bk b)
    have hreg := hf.regs hlt hlo
    have hto := hf.to _ (BF.mem hlt)
    have h1i := hS.i
    have h1o := hS.o
    simp only [go_sem,Nat.reduceEqDiff,Nat.reduceAdd,Nat.reduceMul,↓reduceIte,↓dreduceIte,reduceCtorEq,Nat.reduceLeDiff,Nat.reduceLT,Nat.reduceSub,Int.reduceToNat,Int.reduceLE,Int.reduceLT, one_imm, List.length_map, eq_true (show (b : Int) < f.bks.length by omega), hbk]
    repeat ((with_reducible refine And.intro ?_ ?_); · omega)
    refine VW_loop (fun j : Nat => ⟨[(2, .ptr 0 0 0), (3, .ptr 1 1 0), (5, .imm 1 (f.bks.map fun b => ints (nxt b))), (25, I f.bks.length), (26, I b), (6, I b), (32, ints (nxt (f.bk b))), (33, I (nxt (f.bk b)).length), (34, I j)], [⟨0, 24, 1, [I f.regs, bksA f.bks]⟩, ⟨1, 29, 1, [rowsA L.inn, rowsA L.out]⟩], 2⟩)
      (fun j => j ≤ (nxt (f.bk b)).length ∧ ((nxt (f.bk b)).take j).all (fun k => withinB (L.inn.getD k.toNat default) (L.out.getD b default)) = true) (fun j => (nxt (f.bk b)).length - j) 0 (Wk.mk (by simp [get_cons]) ⟨[], rfl⟩ (Nat.le_refl _)) ⟨by omega, rfl⟩ ?_
    rintro j ⟨hj, hq⟩
    by_cases hl2 : j < (nxt (f.bk b)).length
    · have hto' := hto _ (mem_getD hl2)
      have hlk : (L.inn.getD ((nxt (f.bk b)).getD j default).toNat default).length = f.r := hS.il (by omega)
      simp only [go_sem,Nat.reduceEqDiff,Nat.reduceAdd,Nat.reduceMul,↓reduceIte,↓dreduceIte,reduceCtorEq,Nat.reduceLeDiff,Nat.reduceLT,Nat.reduceSub,Int.reduceToNat,Int.reduceLE,Int.reduceLT, one_imm, List.length_map, hbk, eq_true (show (j : Int) < (nxt (f.bk b)).length by omega)]
      repeat ((with_reducible refine And.intro ?_ ?_); · omega)
      refine VCall.of_contract (within_c _ _ (by rw [hlk, hlo]; omega) (by rw [hlk]; omega)) (SleL.pure rfl) fun x hx => ?_
      subst hx
      cases hw : withinB (L.inn.getD ((nxt (f.bk b)).getD j default).toNat default) (L.out.getD b default)
      · simp only [go_sem,Nat.reduceEqDiff,Nat.reduceAdd,Nat.reduceMul,↓reduceIte,↓dreduceIte,reduceCtorEq,Nat.reduceLeDiff,Nat.reduceLT,Nat.reduceSub,Int.reduceToNat,Int.reduceLE,Int.reduceLT, one_imm, List.length_map]
        refine ⟨_, Frz.pure rfl, ?_⟩
        rw [hfalse (by unfold blkC; rw [all_stop hl2 hw]; rfl)]
      · simp only [go_sem,Nat.reduceEqDiff,Nat.reduceAdd,Nat.reduceMul,↓reduceIte,↓dreduceIte,reduceCtorEq,Nat.reduceLeDiff,Nat.reduceLT,Nat.reduceSub,Int.reduceToNat,Int.reduceLE,Int.reduceLT, one_imm, List.length_map]
        rw [i64_in (by omega) (by omega)]
        exact ⟨j + 1, ⟨by omega, all_step hl2 hq hw⟩, by omega, Wk.mk (by simp [get_cons]) ⟨[], rfl⟩ (Nat.le_refl _)⟩
    · simp only [go_sem,Nat.reduceEqDiff,Nat.reduceAdd,Nat.reduceMul,↓reduceIte,↓dreduceIte,reduceCtorEq,Nat.reduceLeDiff,Nat.reduceLT,Nat.reduceSub,Int.reduceToNat,Int.reduceLE,Int.reduceLT, one_imm, List.length_map, hbk, eq_false (show ¬ (j : Int) < (nxt (f.bk b)).length by omega)]
      repeat ((with_reducible refine And.intro ?_ ?_); · omega)
      refine ECall.of (through_c (f.bk b) (L.out.getD b default) (by omega) (by have := hf.len _ (BF.mem hlt); omega) hreg.2 hreg.1) (SleL.pure rfl) ⟨_, fun _ => Iff.rfl⟩ fun x hx => ?_
      subst hx
      simp only [go_sem,Nat.reduceEqDiff,Nat.reduceAdd,Nat.reduceMul,↓reduceIte,↓dreduceIte,reduceCtorEq,Nat.reduceLeDiff,Nat.reduceLT,Nat.reduceSub,Int.reduceToNat,Int.reduceLE,Int.reduceLT, one_imm, List.length_map]
      repeat ((with_reducible refine And.intro ?_ ?_); · omega)
      refine ECall.of (within_c _ _ (by rw [aheadL_len, hli, hlo]; omega) (by rw [aheadL_len, hlo]; omega)) (SleL.pure rfl) ⟨_, fun _ => Iff.rfl⟩ fun x hx => ?_
      subst hx
      cases hw : withinB (aheadL (f.bk b) (L.out.getD b default)) (L.inn.getD b default)
      · simp only [go_sem,Nat.reduceEqDiff,Nat.reduceAdd,Nat.reduceMul,↓reduceIte,↓dreduceIte,reduceCtorEq,Nat.reduceLeDiff,Nat.reduceLT,Nat.reduceSub,Int.reduceToNat,Int.reduceLE,Int.reduceLT, one_imm, List.length_map]
        refine ⟨_, Frz.pure rfl, ?_⟩
        rw [hfalse (by unfold blkC; rw [hw]; simp)]
      · simp only [go_sem,Nat.reduceEqDiff,Nat.reduceAdd,Nat.reduceMul,↓reduceIte,↓dreduceIte,reduceCtorEq,Nat.reduceLeDiff,Nat.reduceLT,Nat.reduceSub,Int.reduceToNat,Int.reduceLE,Int.reduceLT, one_imm, List.length_map]
        rw [i64_in (by omega) (by omega)]
        refine ⟨b + 1, ⟨by omega, fun i hi => ?_⟩, by omega, Wk.mk (by simp [get_cons]) ⟨[], rfl⟩ (Nat.le_refl _)⟩
        by_cases e : i = b
        · rw [e]; unfold blkC; rw [hw, all_end (by omega) hq]; rfl
        · exact hp i (by omega)
  · simp only [go_sem,Nat.reduceEqDiff,Nat.reduceAdd,Nat.reduceMul,↓reduceIte,↓dreduceIte,reduceCtorEq,Nat.reduceLeDiff,Nat.reduceLT,Nat.reduceSub,Int.reduceToNat,Int.reduceLE,Int.reduceLT, one_imm, List.length_map, eq_false (show ¬ (b : Int) < f.bks.length by omega)]
    refine ⟨_, Frz.pure rfl, ?_⟩
    rw [show checkB f L = true from ?_]
    unfold checkB
    rw [hs, Bool.true_and, List.all_eq_true]
    exact fun i hi => hp i (by have := List.mem_range.1 hi; omega)
end Go.Proofs.Ytjdeediehmhdoaa
