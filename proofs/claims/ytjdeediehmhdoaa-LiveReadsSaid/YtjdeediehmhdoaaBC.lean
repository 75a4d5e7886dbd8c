/-
  Rows as words of the program's own: contracts. No condition.
-/
import Derived.Test.YtjdeediehmhdoaaBB
import Derived.Test.YtjdeediehmhdoaaB7
namespace Go.Proofs.Ytjdeediehmhdoaa
set_option linter.unusedSimpArgs false
set_option linter.unusedVariables false
set_option maxRecDepth 10000
open Go.V

abbrev U64 (n : Int) : AV := .val (.int .u64 n)
/-- How many words a row of so many has. -/
def rl (r : Nat) : Nat := if r = 0 then 0 else 1
def rowC64 (l : List Bool) : List AV := if l.length = 0 then [] else [U64 (wd l)]
theorem rowC64_pos {l : List Bool} (h : l.length ≠ 0) : rowC64 l = [U64 (wd l)] := if_neg h
theorem rl_pos {r : Nat} (h : r ≠ 0) : rl r = 1 := if_neg h
theorem rowC64_len (l : List Bool) : (rowC64 l).length = rl l.length := by
  unfold rowC64 rl; split <;> rfl

theorem u64_nat {a : Nat} (h : a < 2 ^ 64) : IntKind.u64.wrap (a : Int) = a := by
  rw [IntKind.wrap_u64]; omega
theorem bv_nat {a : Nat} : BitVec.ofInt 64 (a : Int) = BitVec.ofNat 64 a := by
  rw [BitVec.ofInt_natCast]
theorem or64 {a b : Nat} (ha : a < 2 ^ 64) (hb : b < 2 ^ 64) : IntKind.u64.wrap ((BitVec.ofInt 64 (a : Int) ||| BitVec.ofInt 64 (b : Int)).toNat : Nat) = ((a ||| b : Nat) : Int) := by
  rw [bv_nat, bv_nat]
  have e : ((BitVec.ofNat 64 a ||| BitVec.ofNat 64 b).toNat) = a ||| b := by
    rw [BitVec.toNat_or, BitVec.toNat_ofNat, BitVec.toNat_ofNat, Nat.mod_eq_of_lt ha, Nat.mod_eq_of_lt hb]
  have h : a ||| b < 2 ^ 64 := Nat.or_lt_two_pow ha hb
  show IntKind.u64.wrap (((BitVec.ofNat 64 a ||| BitVec.ofNat 64 b).toNat : Nat) : Int) = _
  rw [e, u64_nat h]
/-- What is left of a row, another one's truths taken out. -/
def subL (a b : List Bool) : List Bool := (List.range a.length).map fun v => gB a v && !gB b v
theorem subL_len (a b : List Bool) : (subL a b).length = a.length := by simp [subL]
theorem gB_sub (a b : List Bool) {v : Nat} (hv : v < a.length) : gB (subL a b) v = (gB a v && !gB b v) := by
  unfold subL; rw [gB, List.getD]; simp [hv]
theorem andNot64 {a b : List Bool} (ha : a.length ≤ 64) (hb : b.length ≤ 64) : IntKind.u64.wrap ((BitVec.ofInt 64 (wd a : Int) &&& ~~~BitVec.ofInt 64 (wd b : Int)).toNat : Nat) = ((wd (subL a b) : Nat) : Int) := by
  rw [bv_nat, bv_nat]
  have e : (BitVec.ofNat 64 (wd a) &&& ~~~BitVec.ofNat 64 (wd b)).toNat = wd (subL a b) := wd_eq fun i => by
    rw [BitVec.testBit_toNat, BitVec.getLsbD_and, BitVec.getLsbD_not, BitVec.getLsbD_ofNat, BitVec.getLsbD_ofNat, wd_bit, wd_bit]
    rcases Nat.lt_or_ge i a.length with h | h
    · rw [gB_sub _ _ h]
      have : i < 64 := by omega
      simp [this]
    · rw [gB_out (l := a) h, gB_out (l := subL a b) (by rw [subL_len]; exact h)]; simp
  show IntKind.u64.wrap (((BitVec.ofNat 64 (wd a) &&& ~~~BitVec.ofNat 64 (wd b)).toNat : Nat) : Int) = _
  rw [e, u64_nat (wd_lt64 (by rw [subL_len]; exact ha))]
theorem shl64 {i : Nat} (h : i < 64) : IntKind.u64.wrap (1 * 2 ^ (min i 64)) = ((2 ^ i : Nat) : Int) := by
  rw [Nat.min_eq_left (by omega), Int.one_mul]
  have h2 : 2 ^ i < 2 ^ 64 := Nat.pow_lt_pow_right (by decide) h
  have := u64_nat h2
  rw [← this]
  congr 1
theorem wd_one {l : List Bool} {i : Nat} (hi : i < l.length) : 2 ^ i = wd ((List.replicate l.length false).set i true) := by
  have := wd_set (l := List.replicate l.length false) (i := i) (by simpa using hi)
  rw [wd_zero, Nat.zero_or] at this
  exact this
theorem sub_one {l : List Bool} {i : Nat} (hi : i < l.length) : subL l ((List.replicate l.length false).set i true) = l.set i false := gB_ext (by simp [subL]) fun v hv => by
  rw [subL_len] at hv
  rw [gB_sub _ _ hv, gB_set _ _ _ _ (by simpa using hv), gB_set _ _ _ _ hv, gB_rep]
  by_cases h : i = v
  · rw [if_pos h, if_pos h]; simp
  · rw [if_neg h, if_neg h]; simp

theorem rowOf_v (r : Nat) (hr : r ≤ 64) (H : List VObj) (nx : Nat) (C : AV → List VObj → Nat → Prop)
    (hC : C (.ref H.length nx 0 (rl r)) (H ++ [⟨nx, 88, 1, rowC64 (List.replicate r false)⟩]) (nx + 1)) : VCall Try.prog 49 [I r] H nx C := by
  refine VCall.of_body hmix f_live_rowOf (by simp) ?_
  have e1 : IntKind.i64.wrap ((r : Int) + 63) = r + 63 := i64_in (by omega) (by omega)
  have e2 : ((r : Int) + 63).tdiv 64 = rl r := by
    unfold rl
    split
    · rename_i h; subst h; rfl
    · rw [Int.tdiv_eq_ediv_of_nonneg (by omega)]; omega
  have e3 : IntKind.i64.wrap (rl r : Int) = rl r := by unfold rl; split <;> rfl
  have e4 : rl r ≤ 1 := by unfold rl; split <;> decide
  simp only [go_sem,Nat.reduceEqDiff,Nat.reduceAdd,Nat.reduceMul,↓reduceIte,↓dreduceIte,reduceCtorEq,Nat.reduceLeDiff,Nat.reduceLT,Nat.reduceSub,Int.reduceToNat,Int.reduceLE,Int.reduceLT, c_live_rowOf, e1, e2, e3]
  repeat ((with_reducible refine And.intro ?_ ?_); · first | omega | decide)
  rw [show (List.replicate (rl r) [AV.val (.int .u64 0)]).flatten = rowC64 (List.replicate r false) by
    unfold rl rowC64
    by_cases h : r = 0
    · subst h; rfl
    · rw [if_neg h, if_neg (by simpa using h), wd_zero]; rfl]
  exact hC

section
variable (l : List Bool) (i : Int) (H : List VObj) (nx k s m : Nat) (hm : m = rl l.length) (hl : l.length ≤ 64) (hi : 0 ≤ i ∧ i < l.length) (ho : H[k]? = some ⟨s, 88, 1, rowC64 l⟩) (C : AV → List VObj → Nat → Prop)
include hm hl hi ho
theorem add_v (hC : ∀ r, C r (H.set k ⟨s, 88, 1, rowC64 (l.set i.toNat true)⟩) nx) : VCall Try.prog 58 [.ref k s 0 m, I i] H nx C := by
  refine VCall.of_body hmix f_live_row_add (by simp) ?_
  subst hm
  obtain ⟨j, rfl⟩ : ∃ j : Nat, i = j := ⟨i.toNat, by omega⟩
  have hj : j < l.length := by omega
  have hne : l.length ≠ 0 := by omega
  have e1 : ((j : Int)).tdiv 64 = 0 := by rw [Int.tdiv_eq_ediv_of_nonneg (by omega)]; omega
  have e2 : ((j : Int)).tmod 64 = j := by rw [Int.tmod_eq_emod_of_nonneg (by omega)]; omega
  have e3 := shl64 (show j < 64 by omega)
  have e4 : IntKind.i64.wrap 0 = 0 := rfl
  have e5 : IntKind.i64.wrap (j : Int) = j := i64_in (by omega) (by omega)
  have e6 := or64 (wd_lt64 hl) (show 2 ^ j < 2 ^ 64 from Nat.pow_lt_pow_right (by decide) (by omega))
  rw [wd_set hj] at e6
  have hC' := hC
  rw [rowC64_pos (by simpa using hne), Int.toNat_natCast] at hC'
  rw [rowC64_pos hne] at ho
  simp only [go_sem,Nat.reduceEqDiff,Nat.reduceAdd,Nat.reduceMul,↓reduceIte,↓dreduceIte,reduceCtorEq,Nat.reduceLeDiff,Nat.reduceLT,Nat.reduceSub,Int.reduceToNat,Int.reduceLE,Int.reduceLT, c_live_row_add, e1, e2, e3, e4, e5, ho, rl_pos hne]
  repeat ((with_reducible refine And.intro ?_ ?_); · first | omega | decide)
  have h7 : ∀ r, C r (H.set k ⟨s, 88, 1, [U64 (IntKind.u64.wrap ((BitVec.ofInt 64 (wd l : Int) ||| BitVec.ofInt 64 ((2 ^ j : Nat) : Int)).toNat : Nat))]⟩) nx := fun r => by rw [e6]; exact hC' _
  exact h7 _
theorem remove_v (hC : ∀ r, C r (H.set k ⟨s, 88, 1, rowC64 (l.set i.toNat false)⟩) nx) : VCall Try.prog 59 [.ref k s 0 m, I i] H nx C := by
  refine VCall.of_body hmix f_live_row_remove (by simp) ?_
  subst hm
  obtain ⟨j, rfl⟩ : ∃ j : Nat, i = j := ⟨i.toNat, by omega⟩
  have hj : j < l.length := by omega
  have hne : l.length ≠ 0 := by omega
  have e1 : ((j : Int)).tdiv 64 = 0 := by rw [Int.tdiv_eq_ediv_of_nonneg (by omega)]; omega
  have e2 : ((j : Int)).tmod 64 = j := by rw [Int.tmod_eq_emod_of_nonneg (by omega)]; omega
  have e3 := shl64 (show j < 64 by omega)
  have e4 : IntKind.i64.wrap 0 = 0 := rfl
  have e5 : IntKind.i64.wrap (j : Int) = j := i64_in (by omega) (by omega)
  have e6 := andNot64 (b := (List.replicate l.length false).set j true) hl (by simpa using hl)
  rw [← wd_one hj, sub_one hj] at e6
  have hC' := hC
  rw [rowC64_pos (by simpa using hne), Int.toNat_natCast] at hC'
  rw [rowC64_pos hne] at ho
  simp only [go_sem,Nat.reduceEqDiff,Nat.reduceAdd,Nat.reduceMul,↓reduceIte,↓dreduceIte,reduceCtorEq,Nat.reduceLeDiff,Nat.reduceLT,Nat.reduceSub,Int.reduceToNat,Int.reduceLE,Int.reduceLT, c_live_row_remove, e1, e2, e3, e4, e5, ho, rl_pos hne]
  repeat ((with_reducible refine And.intro ?_ ?_); · first | omega | decide)
  have h7 : ∀ r, C r (H.set k ⟨s, 88, 1, [U64 (IntKind.u64.wrap ((BitVec.ofInt 64 (wd l : Int) &&& ~~~BitVec.ofInt 64 ((2 ^ j : Nat) : Int)).toNat : Nat))]⟩) nx := fun r => by rw [e6]; exact hC' _
  exact h7 _
end
end Go.Proofs.Ytjdeediehmhdoaa
