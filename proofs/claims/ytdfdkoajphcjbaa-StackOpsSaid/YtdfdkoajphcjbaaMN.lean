/-
  Words as numbers, plainly: bits, and what the operations make of them. No condition.
-/
import Derived.Test.YtdfdkoajphcjbaaM2
namespace Go.Proofs.Ytdfdkoajphcjbaa
set_option linter.unusedSimpArgs false
set_option linter.unusedVariables false
open Go.V

/-- A number of 32 bits. -/
def In32 (n : Int) : Prop := 0 ≤ n ∧ n < 4294967296

theorem w32_in {n : Int} (h : In32 n) : IntKind.u32.wrap n = n := by
  rw [IntKind.wrap_u32]; have := h.1; have := h.2; omega
theorem w32_ok (n : Int) : In32 (IntKind.u32.wrap n) := by
  rw [IntKind.wrap_u32]; constructor <;> omega

/-- The bits of a number, the low end first. -/
def bitsN (x n : Nat) : List Int := (List.range n).map fun i => ((x / 2 ^ i % 2 : Nat) : Int)
theorem bitsN_length (x n : Nat) : (bitsN x n).length = n := by simp [bitsN]
theorem bitsN_get {x n i : Nat} (h : i < n) : (bitsN x n).getD i default = ((x / 2 ^ i % 2 : Nat) : Int) := by simp [bitsN, List.getD, h]
theorem bitsN_succ (x n : Nat) : bitsN x (n + 1) = bitsN x n ++ [((x / 2 ^ n % 2 : Nat) : Int)] := by simp [bitsN, List.range_succ]
theorem bitsN_cons (x n : Nat) : bitsN x (n + 1) = ((x % 2 : Nat) : Int) :: bitsN (x / 2) n := by
  simp only [bitsN, List.range_succ_eq_map, List.map_cons, List.map_map, Nat.pow_zero, Nat.div_one]
  congr 1
  refine List.map_congr_left fun i _ => ?_
  simp only [Function.comp, Nat.pow_succ, Nat.div_div_eq_div_mul]
  rw [Nat.mul_comm]

/-- The number of bits. -/
def numN : List Int → Nat
  | [] => 0
  | b :: l => b.toNat + 2 * numN l
theorem numN_bits : ∀ (n x : Nat), numN (bitsN x n) = x % 2 ^ n
  | 0, x => by simp [bitsN, numN, Nat.mod_one]
  | n + 1, x => by
    rw [bitsN_cons, numN, numN_bits n, Int.toNat_natCast, Nat.pow_succ, Nat.mul_comm (2 ^ n) 2, Nat.mod_mul]

theorem bit_and (x y i : Nat) : (x &&& y) / 2 ^ i % 2 = if x / 2 ^ i % 2 + y / 2 ^ i % 2 = 2 then 1 else 0 := by
  have h := Nat.testBit_and x y i
  simp only [Nat.testBit_eq_decide_div_mod_eq] at h
  have h1 := Nat.mod_two_eq_zero_or_one (x / 2 ^ i)
  have h2 := Nat.mod_two_eq_zero_or_one (y / 2 ^ i)
  have h3 := Nat.mod_two_eq_zero_or_one ((x &&& y) / 2 ^ i)
  rcases h1 with h1 | h1 <;> rcases h2 with h2 | h2 <;> rcases h3 with h3 | h3 <;> simp_all
theorem bit_or (x y i : Nat) : (x ||| y) / 2 ^ i % 2 = if x / 2 ^ i % 2 + y / 2 ^ i % 2 = 0 then 0 else 1 := by
  have h := Nat.testBit_or x y i
  simp only [Nat.testBit_eq_decide_div_mod_eq] at h
  have h1 := Nat.mod_two_eq_zero_or_one (x / 2 ^ i)
  have h2 := Nat.mod_two_eq_zero_or_one (y / 2 ^ i)
  have h3 := Nat.mod_two_eq_zero_or_one ((x ||| y) / 2 ^ i)
  rcases h1 with h1 | h1 <;> rcases h2 with h2 | h2 <;> rcases h3 with h3 | h3 <;> simp_all
theorem bit_xor (x y i : Nat) : (x ^^^ y) / 2 ^ i % 2 = if x / 2 ^ i % 2 + y / 2 ^ i % 2 = 1 then 1 else 0 := by
  have h := Nat.testBit_xor x y i
  simp only [Nat.testBit_eq_decide_div_mod_eq] at h
  have h1 := Nat.mod_two_eq_zero_or_one (x / 2 ^ i)
  have h2 := Nat.mod_two_eq_zero_or_one (y / 2 ^ i)
  have h3 := Nat.mod_two_eq_zero_or_one ((x ^^^ y) / 2 ^ i)
  rcases h1 with h1 | h1 <;> rcases h2 with h2 | h2 <;> rcases h3 with h3 | h3 <;> simp_all

theorem bv32 {a : Int} (h : In32 a) : (BitVec.ofInt IntKind.u32.bits a).toNat = a.toNat := by
  show (BitVec.ofInt 32 a).toNat = a.toNat
  rw [BitVec.toNat_ofInt]
  obtain ⟨h1, h2⟩ := h
  omega

theorem andW_eq {a b : Int} (ha : In32 a) (hb : In32 b) : andW a b = ((a.toNat &&& b.toNat : Nat) : Int) := by
  unfold andW
  rw [BitVec.toNat_and, bv32 ha, bv32 hb]
  refine w32_in ⟨by omega, ?_⟩
  have := Nat.and_lt_two_pow (n := 32) a.toNat (y := b.toNat) (by have := hb.2; have := hb.1; omega)
  omega
theorem orW_eq {a b : Int} (ha : In32 a) (hb : In32 b) : orW a b = ((a.toNat ||| b.toNat : Nat) : Int) := by
  unfold orW
  rw [BitVec.toNat_or, bv32 ha, bv32 hb]
  refine w32_in ⟨by omega, ?_⟩
  have := Nat.or_lt_two_pow (n := 32) (x := a.toNat) (y := b.toNat) (by have := ha.2; have := ha.1; omega) (by have := hb.2; have := hb.1; omega)
  omega
theorem xorW_eq {a b : Int} (ha : In32 a) (hb : In32 b) : xorW a b = ((a.toNat ^^^ b.toNat : Nat) : Int) := by
  unfold xorW
  rw [BitVec.toNat_xor, bv32 ha, bv32 hb]
  refine w32_in ⟨by omega, ?_⟩
  have := Nat.xor_lt_two_pow (n := 32) (x := a.toNat) (y := b.toNat) (by have := ha.2; have := ha.1; omega) (by have := hb.2; have := hb.1; omega)
  omega

theorem andW_mask {a : Int} (ha : In32 a) (k : Nat) (hk : k ≤ 32) : andW a ((2 ^ k - 1 : Nat) : Int) = a % 2 ^ k := by
  have hp : 2 ^ k ≤ 2 ^ 32 := Nat.pow_le_pow_right (by omega) hk
  have hp0 : 0 < 2 ^ k := Nat.two_pow_pos k
  rw [andW_eq ha ⟨by omega, by omega⟩, Int.toNat_natCast, Nat.and_two_pow_sub_one_eq_mod]
  have := ha.1
  rw [show a = ((a.toNat : Nat) : Int) by omega]
  simp

theorem shrW_eq {a : Int} (ha : In32 a) (k : Nat) (hk : k ≤ 32) : shrW a k = ((a.toNat / 2 ^ k : Nat) : Int) := by
  unfold shrW
  rw [Int.toNat_natCast, Nat.min_eq_left (by show k ≤ 32; exact hk), Int.fdiv_eq_ediv_of_nonneg _ (by exact Int.le_of_lt (Int.pow_pos (by decide)))]
  have := ha.1
  conv => lhs; rw [show a = ((a.toNat : Nat) : Int) by omega]
  simp

/-- The bits of what an operation makes of two words. -/
theorem both_bits {op a b : Int} (ha : In32 a) (hb : In32 b) (ho : op = 9 ∨ op = 10 ∨ op = 11) : (applyW op a b).2 = 0 ∧ In32 (applyW op a b).1 ∧ ∀ i, (applyW op a b).1.toNat / 2 ^ i % 2 = if (a.toNat / 2 ^ i % 2 + b.toNat / 2 ^ i % 2 = 2 ∧ op ≠ 11) ∨ (a.toNat / 2 ^ i % 2 + b.toNat / 2 ^ i % 2 = 1 ∧ op ≠ 9) then 1 else 0 := by
  rcases ho with rfl | rfl | rfl
  · refine ⟨rfl, w32_ok _, fun i => ?_⟩
    show (andW a b).toNat / _ % 2 = _
    rw [andW_eq ha hb, Int.toNat_natCast, bit_and]; simp
  · refine ⟨rfl, w32_ok _, fun i => ?_⟩
    show (orW a b).toNat / _ % 2 = _
    rw [orW_eq ha hb, Int.toNat_natCast, bit_or]
    have h1 := Nat.mod_two_eq_zero_or_one (a.toNat / 2 ^ i)
    have h2 := Nat.mod_two_eq_zero_or_one (b.toNat / 2 ^ i)
    rcases h1 with h1 | h1 <;> rcases h2 with h2 | h2 <;> simp [h1, h2]
  · refine ⟨rfl, w32_ok _, fun i => ?_⟩
    show (xorW a b).toNat / _ % 2 = _
    rw [xorW_eq ha hb, Int.toNat_natCast, bit_xor]; simp
end Go.Proofs.Ytdfdkoajphcjbaa
