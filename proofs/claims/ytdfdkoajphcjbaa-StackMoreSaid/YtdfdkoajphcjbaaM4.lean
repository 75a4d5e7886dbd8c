/-
  The document's words: contracts: bits, shifts, what the operations make of two words. No condition.
-/
import Derived.Test.YtdfdkoajphcjbaaMN
namespace Go.Proofs.Ytdfdkoajphcjbaa
set_option linter.unusedSimpArgs false
set_option linter.unusedVariables false
set_option maxRecDepth 10000
open Go.V

theorem flag_c (b : Bool) : Contract Try.prog 54 [B b] (fun r => r = U32 (if b then 1 else 0)) := by
  refine Contract.of_call (VCall.of_body hmix f_scref01_flag (by simp) ?_)
  cases b <;> simp only [go_sem,Nat.reduceEqDiff,Nat.reduceAdd,Nat.reduceMul,↓reduceIte,↓dreduceIte,reduceCtorEq,Nat.reduceLeDiff,Nat.reduceLT,Nat.reduceSub,Int.reduceToNat,Int.reduceLE,Int.reduceLT, c_scref01_flag] <;> exact ⟨_, Frz.pure rfl, by simp⟩

section
variable {α : Type}
theorem obj_get (H : List α) (o : α) (tl : List α) : (H ++ o :: tl)[H.length]? = some o := by simp
theorem obj_get1 (H : List α) (o t : α) (tl : List α) : (H ++ o :: t :: tl)[H.length + 1]? = some t := by
  rw [List.getElem?_append_right (by omega)]; simp
theorem obj_set (H : List α) (o x : α) (tl : List α) : (H ++ o :: tl).set H.length x = H ++ x :: tl := by
  rw [List.set_append_right _ _ (by omega)]; simp
end

theorem bits_v (a : Int) (ha : In32 a) (H : List VObj) (nx : Nat) (C : AV → List VObj → Nat → Prop)
    (hC : ∀ s nx' tl, nx ≤ s → s < nx' → C (.ref H.length s 0 32) (H ++ ⟨s, 3, 1, (bitsN a.toNat 32).map I⟩ :: tl) nx') : VCall Try.prog 55 [U32 a] H nx C := by
  refine VCall.of_body hmix f_scref01_Bits (by simp) ?_
  simp only [go_sem,Nat.reduceEqDiff,Nat.reduceAdd,Nat.reduceMul,↓reduceIte,↓dreduceIte,reduceCtorEq,Nat.reduceLeDiff,Nat.reduceLT,Nat.reduceSub,Int.reduceToNat,Int.reduceLE,Int.reduceLT, c_scref01_Bits]
  have hmx : (2000000 : Nat) ≤ maxLen := by decide
  refine VW_loop (fun q : Nat × Nat × Nat => ⟨[(0, U32 ((a.toNat / 2 ^ q.1 : Nat) : Int)), (3, .ref H.length q.2.1 0 q.1), (4, I q.1)], H ++ [⟨q.2.1, 3, 1, (bitsN a.toNat q.1).map I⟩], q.2.2⟩)
    (fun q => q.1 ≤ 32 ∧ nx ≤ q.2.1 ∧ q.2.1 < q.2.2) (fun q => 32 - q.1) (0, nx, nx + 1)
    (Wk.virt 3 1 (by decide) ?_ ⟨H, rfl, rfl, fun j ob' ho => ⟨ob', ho, rfl, rfl, rfl, rfl, fun _ => rfl, fun i x y hx hy => .inl (by rw [hx] at hy; exact Option.some.inj hy)⟩⟩ rfl) ⟨by simp, Nat.le_refl _, by simp⟩ ?_
  · have := ha.1
    simp [get_cons]; omega
  rintro ⟨k, s, n⟩ ⟨hk, hs, hsn⟩
  simp only at hk hs hsn
  by_cases h1 : k < 32
  case neg =>
    have h1' := eq_false (show ¬ (k : Int) < 32 by omega)
    have : k = 32 := by omega
    subst this
    simp only [go_sem,Nat.reduceEqDiff,Nat.reduceAdd,Nat.reduceMul,↓reduceIte,↓dreduceIte,reduceCtorEq,Nat.reduceLeDiff,Nat.reduceLT,Nat.reduceSub,Int.reduceToNat,Int.reduceLE,Int.reduceLT, h1']
    exact hC s n [] hs hsn
  have h1' := eq_true (show (k : Int) < 32 by omega)
  have hl := bitsN_length a.toNat k
  have hsu : ((a.toNat / 2 ^ (k + 1) : Nat) : Int) = ((a.toNat / 2 ^ k / 2 : Nat) : Int) := by rw [Nat.pow_succ, Nat.div_div_eq_div_mul]
  have hqa : a.toNat / 2 ^ k ≤ a.toNat := Nat.div_le_self _ _
  have hbs := bitsN_succ a.toNat k
  have ha2 := ha.2
  have ha1 := ha.1
  generalize a.toNat / 2 ^ k = q at hsu hqa hbs
  have hw1 : IntKind.i64.wrap ((q : Int).tmod 2) = ((q % 2 : Nat) : Int) := by
    rw [Int.tmod_eq_emod_of_nonneg (by omega), i64_in (by omega) (by omega)]; omega
  have hw2 : IntKind.u32.wrap ((q : Int).tdiv 2) = ((q / 2 : Nat) : Int) := by
    rw [Int.tdiv_eq_ediv_of_nonneg (by omega), w32_in ⟨by omega, by omega⟩]; omega
  simp only [go_sem,Nat.reduceEqDiff,Nat.reduceAdd,Nat.reduceMul,↓reduceIte,↓dreduceIte,reduceCtorEq,Nat.reduceLeDiff,Nat.reduceLT,Nat.reduceSub,Int.reduceToNat,Int.reduceLE,Int.reduceLT, h1', List.append_assoc, obj_get, obj_get1, obj_set, List.length_append, hw1, hw2]
  repeat (refine And.intro (by omega) ?_)
  rw [i64_in (by omega) (by omega)]
  refine ⟨(k + 1, n + 1, n + 1 + 1), ⟨by simp only; omega, by simp only; omega, by simp only; omega⟩, by simp only; omega, Wk.mk (by simp only [hsu]; simp [get_cons]) ⟨[⟨n, 3, 1, [I ((q % 2 : Nat) : Int)]⟩], ?_⟩ (Nat.le_refl _)⟩
  rw [List.take_of_length_le (by simp [hl]), hbs, List.map_append]
  simp

theorem numN_lt : ∀ (l : List Int), (∀ b ∈ l, b = 0 ∨ b = 1) → numN l < 2 ^ l.length
  | [], _ => by simp [numN]
  | b :: l, h => by
    have := numN_lt l fun c hc => h c (by simp [hc])
    have := h b (by simp)
    simp only [numN, List.length_cons, Nat.pow_succ]
    omega

theorem ofN_c (l : List Int) (hl : l.length ≤ 32) (hb : ∀ b ∈ l, b = 0 ∨ b = 1) : ContractN Try.prog 56 [ints l] (fun r => r = U32 ((numN l : Nat) : Int)) := by
  refine ContractN.of_call (VCall.of_body hmix f_scref01_Of (by simp) ?_)
  simp only [go_sem,Nat.reduceEqDiff,Nat.reduceAdd,Nat.reduceMul,↓reduceIte,↓dreduceIte,reduceCtorEq,Nat.reduceLeDiff,Nat.reduceLT,Nat.reduceSub,Int.reduceToNat,Int.reduceLE,Int.reduceLT, c_scref01_Of]
  rw [i64_in (by omega) (by omega)]
  refine VW_loop (fun j : Nat => ⟨[(0, ints l), (3, .val (.int .u64 (numN (l.drop j) : Nat))), (4, I ((j : Int) - 1))], [], 0⟩) (fun j => j ≤ l.length) (fun j => j) l.length
    (Wk.mk (by simp [get_cons, numN]) ⟨[], rfl⟩ (Nat.le_refl _)) (Nat.le_refl _) ?_
  intro j hj
  have hlt := numN_lt (l.drop j) fun b hx => hb b (List.mem_of_mem_drop hx)
  have hp : 2 ^ (l.drop j).length ≤ 2 ^ 32 := Nat.pow_le_pow_right (by omega) (by simp; omega)
  by_cases h1 : j = 0
  · subst h1
    simp only [go_sem,Nat.reduceEqDiff,Nat.reduceAdd,Nat.reduceMul,↓reduceIte,↓dreduceIte,reduceCtorEq,Nat.reduceLeDiff,Nat.reduceLT,Nat.reduceSub,Int.reduceToNat,Int.reduceLE,Int.reduceLT]
    rw [List.drop_zero] at hlt hp
    refine ⟨fun h => by omega, fun _ => ?_⟩
    have hm : IntKind.u32.wrap (((numN l : Nat) : Int).tmod 4294967296) = ((numN l : Nat) : Int) := by
      rw [Int.tmod_eq_emod_of_nonneg (by omega), IntKind.wrap_u32]; omega
    rw [hm]
    exact ⟨by omega, _, FrzN.val, rfl⟩
  · have h1' := eq_true (show (0 : Int) ≤ (j : Int) - 1 by omega)
    have e1 : ((j : Int) - 1).toNat = j - 1 := by omega
    obtain ⟨i, rfl⟩ : ∃ i, j = i + 1 := ⟨j - 1, by omega⟩
    have hi : i < l.length := by omega
    have hd := List.drop_eq_getElem_cons hi
    have hbit := hb l[i] (List.getElem_mem hi)
    have eg : l.getD i default = l[i] := by simp [List.getD, List.getElem?_eq_getElem hi]
    have hlt2 := numN_lt (l.drop (i + 1)) fun b hx => hb b (List.mem_of_mem_drop hx)
    simp only [go_sem,Nat.reduceEqDiff,Nat.reduceAdd,Nat.reduceMul,↓reduceIte,↓dreduceIte,reduceCtorEq,Nat.reduceLeDiff,Nat.reduceLT,Nat.reduceSub,Int.reduceToNat,Int.reduceLE,Int.reduceLT, h1', e1, Nat.add_sub_cancel, eg]
    repeat (refine And.intro (by omega) ?_)
    have hw : IntKind.u64.wrap (IntKind.u64.wrap (2 * ((numN (l.drop (i + 1)) : Nat) : Int)) + IntKind.u64.wrap l[i]) = ((numN (l.drop i) : Nat) : Int) := by
      rw [hd, numN]
      simp only [IntKind.wrap_u64]
      omega
    rw [hw, i64_in (by omega) (by omega)]
    exact ⟨i, by omega, by omega, Wk.mk (by simp [get_cons] <;> omega) ⟨[], rfl⟩ (Nat.le_refl _)⟩

/-- What is left of a word, k places on. -/
def shN (op a : Int) (k : Nat) : Int := if op = 12 then ((a.toNat * 2 ^ k % 4294967296 : Nat) : Int) else ((a.toNat / 2 ^ k : Nat) : Int)

theorem refshift_c (op a b : Int) (ha : In32 a) (hb : In32 b) : Contract Try.prog 53 [I op, U32 a, U32 b] (fun r => r = U32 (if 31 < b then 0 else shN op a b.toNat)) := by
  refine Contract.of_call (VCall.of_body hmix f_scref01_shift (by simp) ?_)
  obtain ⟨ha1, ha2⟩ := ha
  obtain ⟨hb1, hb2⟩ := hb
  by_cases h0 : 32 ≤ b
  · simp only [go_sem,Nat.reduceEqDiff,Nat.reduceAdd,Nat.reduceMul,↓reduceIte,↓dreduceIte,reduceCtorEq,Nat.reduceLeDiff,Nat.reduceLT,Nat.reduceSub,Int.reduceToNat,Int.reduceLE,Int.reduceLT, c_scref01_shift, eq_true h0]
    exact ⟨_, Frz.pure rfl, by rw [if_pos (by omega)]⟩
  simp only [go_sem,Nat.reduceEqDiff,Nat.reduceAdd,Nat.reduceMul,↓reduceIte,↓dreduceIte,reduceCtorEq,Nat.reduceLeDiff,Nat.reduceLT,Nat.reduceSub,Int.reduceToNat,Int.reduceLE,Int.reduceLT, c_scref01_shift, eq_false h0]
  have hshl : ∀ k, shN op a k ≤ 4294967295 ∧ 0 ≤ shN op a k := fun k => by
    unfold shN
    split
    · omega
    · have := Nat.div_le_self a.toNat (2 ^ k)
      generalize a.toNat / 2 ^ k = q at *
      omega
  have hs : ∀ k, shN op a (k + 1) = if op = 12 then (2 * shN op a k) % 4294967296 else shN op a k / 2 := fun k => by
    unfold shN
    by_cases e : op = 12
    · simp only [if_pos e]
      rw [Nat.pow_succ, ← Nat.mul_assoc]
      generalize a.toNat * 2 ^ k = q
      omega
    · simp only [if_neg e]
      rw [Nat.pow_succ, ← Nat.div_div_eq_div_mul]
      generalize a.toNat / 2 ^ k = q
      omega
  have hz : shN op a 0 = a := by unfold shN; split <;> simp <;> omega
  refine VW_loop (fun k : Nat => ⟨[(0, I op), (2, U32 b), (7, .val (.int .u64 (shN op a k))), (8, U32 k)], [], 0⟩) (fun k => k ≤ b.toNat) (fun k => b.toNat - k) 0
    (Wk.mk ?_ ⟨[], rfl⟩ (Nat.le_refl _)) (by omega) ?_
  · have : IntKind.u64.wrap a = a := by rw [IntKind.wrap_u64]; omega
    simp [get_cons, hz, this]
  intro k hk
  have hk1 := hshl k
  by_cases h1 : k < b.toNat
  case neg =>
    have h1' := eq_false (show ¬ (k : Int) < b by omega)
    simp only [go_sem,Nat.reduceEqDiff,Nat.reduceAdd,Nat.reduceMul,↓reduceIte,↓dreduceIte,reduceCtorEq,Nat.reduceLeDiff,Nat.reduceLT,Nat.reduceSub,Int.reduceToNat,Int.reduceLE,Int.reduceLT, h1']
    have : k = b.toNat := by omega
    subst this
    rw [w32_in ⟨hk1.2, by omega⟩]
    exact ⟨_, Frz.pure rfl, by rw [if_neg (by omega)]⟩
  have h1' := eq_true (show (k : Int) < b by omega)
  by_cases e : op = 12
  case pos =>
    simp only [go_sem,Nat.reduceEqDiff,Nat.reduceAdd,Nat.reduceMul,↓reduceIte,↓dreduceIte,reduceCtorEq,Nat.reduceLeDiff,Nat.reduceLT,Nat.reduceSub,Int.reduceToNat,Int.reduceLE,Int.reduceLT, h1', eq_true e]
    have hw : (IntKind.u64.wrap (2 * shN op a k)).tmod 4294967296 = shN op a (k + 1) := by
      rw [hs, if_pos e, IntKind.wrap_u64, Int.tmod_eq_emod_of_nonneg (by omega)]; omega
    refine ⟨by omega, ?_⟩
    rw [hw, w32_in ⟨by omega, by omega⟩]
    exact ⟨k + 1, by omega, by omega, Wk.mk (by simp [get_cons, e]) ⟨[], rfl⟩ (Nat.le_refl _)⟩
  case neg =>
    simp only [go_sem,Nat.reduceEqDiff,Nat.reduceAdd,Nat.reduceMul,↓reduceIte,↓dreduceIte,reduceCtorEq,Nat.reduceLeDiff,Nat.reduceLT,Nat.reduceSub,Int.reduceToNat,Int.reduceLE,Int.reduceLT, h1', eq_false e]
    have hw : IntKind.u64.wrap ((shN op a k).tdiv 2) = shN op a (k + 1) := by
      rw [hs, if_neg e, Int.tdiv_eq_ediv_of_nonneg (by omega), IntKind.wrap_u64]; omega
    refine ⟨by omega, ?_⟩
    rw [hw, w32_in ⟨by omega, by omega⟩]
    exact ⟨k + 1, by omega, by omega, Wk.mk (by simp [get_cons]) ⟨[], rfl⟩ (Nat.le_refl _)⟩

/-- Amid both: k bits of x done, the others a's. -/
def zL (x a k : Nat) : List Int := bitsN x k ++ (bitsN a 32).drop k
theorem zL_length {x a k : Nat} (h : k ≤ 32) : (zL x a k).length = 32 := by simp [zL, bitsN_length]; omega
theorem zL_get {x a k : Nat} (h : k < 32) : (zL x a k).getD k default = ((a / 2 ^ k % 2 : Nat) : Int) := by
  have : (zL x a k).getD k default = (bitsN a 32).getD k default := by
    unfold zL
    simp only [List.getD]
    rw [List.getElem?_append_right (by rw [bitsN_length]; exact Nat.le_refl _), bitsN_length, Nat.sub_self, List.getElem?_drop, Nat.add_zero]
  rw [this, bitsN_get h]
theorem zL_set {x a k : Nat} (h : k < 32) : (zL x a k).set k ((x / 2 ^ k % 2 : Nat) : Int) = zL x a (k + 1) := by
  have hk : k < (bitsN a 32).length := by rw [bitsN_length]; exact h
  unfold zL
  rw [bitsN_succ x k]
  generalize bitsN a 32 = l at hk
  rw [List.set_append_right _ _ (by rw [bitsN_length]; exact Nat.le_refl _), bitsN_length, Nat.sub_self, List.drop_eq_getElem_cons hk, List.set_cons_zero, List.append_assoc]
  rfl

theorem both_c (op a b : Int) (ho : op = 9 ∨ op = 10 ∨ op = 11) (ha : In32 a) (hb : In32 b) : Contract Try.prog 52 [I op, U32 a, U32 b] (fun r => r = U32 (applyW op a b).1) := by
  refine Contract.of_call (VCall.of_body hmix f_scref01_both (by simp) ?_)
  simp only [go_sem,Nat.reduceEqDiff,Nat.reduceAdd,Nat.reduceMul,↓reduceIte,↓dreduceIte,reduceCtorEq,Nat.reduceLeDiff,Nat.reduceLT,Nat.reduceSub,Int.reduceToNat,Int.reduceLE,Int.reduceLT, c_scref01_both]
  refine bits_v a ha _ _ _ fun s1 nx1 tl1 hs1 hn1 => ?_
  simp only [go_sem,Nat.reduceEqDiff,Nat.reduceAdd,Nat.reduceMul,↓reduceIte,↓dreduceIte,reduceCtorEq,Nat.reduceLeDiff,Nat.reduceLT,Nat.reduceSub,Int.reduceToNat,Int.reduceLE,Int.reduceLT]
  refine bits_v b hb _ _ _ fun s2 nx2 tl2 hs2 hn2 => ?_
  simp only [go_sem,Nat.reduceEqDiff,Nat.reduceAdd,Nat.reduceMul,↓reduceIte,↓dreduceIte,reduceCtorEq,Nat.reduceLeDiff,Nat.reduceLT,Nat.reduceSub,Int.reduceToNat,Int.reduceLE,Int.reduceLT]
  obtain ⟨_, hin, hbit⟩ := both_bits ha hb ho
  obtain ⟨x, hx⟩ : ∃ x, (applyW op a b).1.toNat = x := ⟨_, rfl⟩
  rw [hx] at hbit
  have hx2 : (applyW op a b).1 = (x : Int) := by have := hin.1; omega
  rw [hx2]
  refine VW_loop (fun k : Nat => ⟨[(0, I op), (7, .ref 0 s1 0 32), (8, ints (bitsN b.toNat 32)), (9, I k)], [⟨s1, 3, 1, (zL x a.toNat k).map I⟩], nx2⟩) (fun k => k ≤ 32) (fun k => 32 - k) 0
    (Wk.give ?_ ?_ (Nat.le_refl _)) (by omega) ?_
  · intro p hp
    simp only [List.mem_cons, List.not_mem_nil, or_false] at hp
    rcases hp with rfl | rfl | rfl | rfl
    · exact .inl rfl
    · exact .inl rfl
    · exact .inr (frz_ints (ty := 3) (by simp) (by simp) (bitsN_length _ _).symm)
    · exact .inl rfl
  · refine ⟨rfl, rfl, rfl, by simp, ?_, by simp [OW]⟩
    simp only [zL, List.drop_zero]
    exact CW.refl _
  intro k hk
  have hzl := zL_length (x := x) (a := a.toNat) hk
  have hbl := bitsN_length b.toNat 32
  by_cases h1 : k < 32
  case neg =>
    have h1' := eq_false (show ¬ (k : Int) < 32 by omega)
    have : k = 32 := by omega
    subst this
    simp only [go_sem,Nat.reduceEqDiff,Nat.reduceAdd,Nat.reduceMul,↓reduceIte,↓dreduceIte,reduceCtorEq,Nat.reduceLeDiff,Nat.reduceLT,Nat.reduceSub,Int.reduceToNat,Int.reduceLE,Int.reduceLT, h1']
    have ez : zL x a.toNat 32 = bitsN x 32 := by simp [zL, bitsN_length]
    rw [ez] at hzl ⊢
    refine VCall.of_contractN (ofN_c (bitsN x 32) (by omega) fun b hb => ?_) ?_ fun r hr => ?_
    · obtain ⟨i, _, rfl⟩ := List.mem_map.1 hb
      have := Nat.mod_two_eq_zero_or_one (x / 2 ^ i)
      omega
    · exact ⟨_, _, rfl, frz_ints (by omega) rfl hzl.symm, rfl⟩
    · subst hr
      simp only [go_sem,Nat.reduceEqDiff,Nat.reduceAdd,Nat.reduceMul,↓reduceIte,↓dreduceIte,reduceCtorEq,Nat.reduceLeDiff,Nat.reduceLT,Nat.reduceSub,Int.reduceToNat,Int.reduceLE,Int.reduceLT]
      refine ⟨_, Frz.pure rfl, ?_⟩
      have := hin.2
      rw [numN_bits, Nat.mod_eq_of_lt (by omega)]
  have h1' := eq_true (show (k : Int) < 32 by omega)
  have g1 := zL_get (x := x) (a := a.toNat) h1
  have g2 := bitsN_get (x := b.toNat) h1
  have hset := zL_set (x := x) (a := a.toNat) h1
  have hb1 := hbit k
  have hxb := Nat.mod_two_eq_zero_or_one (a.toNat / 2 ^ k)
  have hyb := Nat.mod_two_eq_zero_or_one (b.toNat / 2 ^ k)
  generalize a.toNat / 2 ^ k % 2 = u at *
  generalize b.toNat / 2 ^ k % 2 = v at *
  have hw : IntKind.i64.wrap ((u : Int) + (v : Int)) = ((u + v : Nat) : Int) := by rw [i64_in (by omega) (by omega)]; omega
  by_cases hc : (u + v = 2 ∧ op ≠ 11) ∨ (u + v = 1 ∧ op ≠ 9)
  case pos =>
    rw [if_pos hc] at hb1
    rw [hb1] at hset
    have fin : ∀ e, (∀ p ∈ [(0, I op), (7, AV.ref 0 s1 0 32), (8, ints (bitsN b.toNat 32)), (9, I ((k + 1 : Nat) : Int))], get e p.1 = p.2) → ∃ q : Nat, q ≤ 32 ∧ 32 - q < 32 - k ∧ Wk ⟨e, [⟨s1, 3, 1, (((zL x a.toNat k).set k 0).set k 1).map I⟩], nx2⟩ ⟨[(0, I op), (7, .ref 0 s1 0 32), (8, ints (bitsN b.toNat 32)), (9, I q)], [⟨s1, 3, 1, (zL x a.toNat q).map I⟩], nx2⟩ := fun e he =>
      ⟨k + 1, by omega, by omega, Wk.mk he ⟨[], by rw [List.set_set, show (1 : Int) = ((1 : Nat) : Int) from rfl, hset]; simp⟩ (Nat.le_refl _)⟩
    rcases hc with ⟨hc1, hc2⟩ | ⟨hc1, hc2⟩
    · have q1 := eq_true (show (((u + v : Nat) : Int)) = 2 by omega)
      have q2 : (op != 11) = true := by simp [hc2]
      simp only [go_sem,Nat.reduceEqDiff,Nat.reduceAdd,Nat.reduceMul,↓reduceIte,↓dreduceIte,reduceCtorEq,Nat.reduceLeDiff,Nat.reduceLT,Nat.reduceSub,Int.reduceToNat,Int.reduceLE,Int.reduceLT, undef, h1', Int.toNat_natCast, g1, g2, hw, q1, q2, set_map, hzl, List.length_set, List.length_map, hbl]
      repeat (refine And.intro (by omega) ?_)
      rw [i64_in (by omega) (by omega)]
      exact fin _ (by simp [get_cons])
    · have q1 := eq_false (show ¬ (((u + v : Nat) : Int)) = 2 by omega)
      have q3 := eq_true (show (((u + v : Nat) : Int)) = 1 by omega)
      have q2 : (op != 9) = true := by simp [hc2]
      simp only [go_sem,Nat.reduceEqDiff,Nat.reduceAdd,Nat.reduceMul,↓reduceIte,↓dreduceIte,reduceCtorEq,Nat.reduceLeDiff,Nat.reduceLT,Nat.reduceSub,Int.reduceToNat,Int.reduceLE,Int.reduceLT, undef, h1', Int.toNat_natCast, g1, g2, hw, q1, q2, q3, set_map, hzl, List.length_set, List.length_map, hbl]
      repeat (refine And.intro (by omega) ?_)
      rw [i64_in (by omega) (by omega)]
      exact fin _ (by simp [get_cons])
  case neg =>
    rw [if_neg hc] at hb1
    rw [hb1] at hset
    have fin : ∀ e, (∀ p ∈ [(0, I op), (7, AV.ref 0 s1 0 32), (8, ints (bitsN b.toNat 32)), (9, I ((k + 1 : Nat) : Int))], get e p.1 = p.2) → ∃ q : Nat, q ≤ 32 ∧ 32 - q < 32 - k ∧ Wk ⟨e, [⟨s1, 3, 1, ((zL x a.toNat k).set k 0).map I⟩], nx2⟩ ⟨[(0, I op), (7, .ref 0 s1 0 32), (8, ints (bitsN b.toNat 32)), (9, I q)], [⟨s1, 3, 1, (zL x a.toNat q).map I⟩], nx2⟩ := fun e he =>
      ⟨k + 1, by omega, by omega, Wk.mk he ⟨[], by rw [show (0 : Int) = ((0 : Nat) : Int) from rfl, hset]; simp⟩ (Nat.le_refl _)⟩
    have hsum : u + v = 0 ∨ (u + v = 1 ∧ op = 9) ∨ (u + v = 2 ∧ op = 11) := by omega
    rcases hsum with hc1 | ⟨hc1, hc2⟩ | ⟨hc1, hc2⟩
    · have q1 := eq_false (show ¬ (((u + v : Nat) : Int)) = 2 by omega)
      have q3 := eq_false (show ¬ (((u + v : Nat) : Int)) = 1 by omega)
      simp only [go_sem,Nat.reduceEqDiff,Nat.reduceAdd,Nat.reduceMul,↓reduceIte,↓dreduceIte,reduceCtorEq,Nat.reduceLeDiff,Nat.reduceLT,Nat.reduceSub,Int.reduceToNat,Int.reduceLE,Int.reduceLT, undef, h1', Int.toNat_natCast, g1, g2, hw, q1, q3, set_map, hzl, List.length_set, List.length_map, hbl]
      repeat (refine And.intro (by omega) ?_)
      rw [i64_in (by omega) (by omega)]
      exact fin _ (by simp [get_cons])
    · have q1 := eq_false (show ¬ (((u + v : Nat) : Int)) = 2 by omega)
      have q3 := eq_true (show (((u + v : Nat) : Int)) = 1 by omega)
      have q2 : (op != 9) = false := by simp [hc2]
      simp only [go_sem,Nat.reduceEqDiff,Nat.reduceAdd,Nat.reduceMul,↓reduceIte,↓dreduceIte,reduceCtorEq,Nat.reduceLeDiff,Nat.reduceLT,Nat.reduceSub,Int.reduceToNat,Int.reduceLE,Int.reduceLT, undef, h1', Int.toNat_natCast, g1, g2, hw, q1, q2, q3, set_map, hzl, List.length_set, List.length_map, hbl]
      repeat (refine And.intro (by omega) ?_)
      rw [i64_in (by omega) (by omega)]
      exact fin _ (by simp [get_cons])
    · have q1 := eq_true (show (((u + v : Nat) : Int)) = 2 by omega)
      have q3 := eq_false (show ¬ (((u + v : Nat) : Int)) = 1 by omega)
      have q2 : (op != 11) = false := by simp [hc2]
      simp only [go_sem,Nat.reduceEqDiff,Nat.reduceAdd,Nat.reduceMul,↓reduceIte,↓dreduceIte,reduceCtorEq,Nat.reduceLeDiff,Nat.reduceLT,Nat.reduceSub,Int.reduceToNat,Int.reduceLE,Int.reduceLT, undef, h1', Int.toNat_natCast, g1, g2, hw, q1, q2, q3, set_map, hzl, List.length_set, List.length_map, hbl]
      repeat (refine And.intro (by omega) ?_)
      rw [i64_in (by omega) (by omega)]
      exact fin _ (by simp [get_cons])
end Go.Proofs.Ytdfdkoajphcjbaa
