/-
  What a block reads ahead of setting it, and what it sets; a row told truth by truth: contracts. No condition.
-/
import Derived.Test.YtjdeediehmhdoaaBC
namespace Go.Proofs.Ytjdeediehmhdoaa
set_option linter.unusedSimpArgs false
set_option linter.unusedVariables false
set_option maxRecDepth 10000
open Go.V

theorem rowC64_one (l : List Bool) : (rowC64 l).all AV.one = true := by unfold rowC64; split <;> rfl
theorem frz_row {n : Nat} {H : List VObj} {nx id s ty len : Nat} {l : List Bool} (hid : n ≤ id) (ho : H[id]? = some ⟨s, ty, 1, rowC64 l⟩) (hlen : len = rl l.length) : Frz n H nx (.ref id s 0 len) (.imm 1 (rowC64 l)) := by
  refine frz_whole hid ho (by rw [rowC64_len, hlen]) rfl (rowC64_one l) fun i x y hx hy => ?_
  rw [hx] at hy
  cases hy
  unfold rowC64 at hx
  split at hx
  · simp at hx
  · cases i with
    | zero => simp at hx; subst hx; exact Frz.pure rfl
    | succ i => simp at hx
theorem done_step (ins : List Tac) (l : List Bool) {k : Nat} (hk : k < ins.length) : doneL (ins.drop (ins.length - (k + 1))) l =
    if 0 ≤ setsL (ins.getD (ins.length - k - 1) default) then (doneL (ins.drop (ins.length - k)) l).set (setsL (ins.getD (ins.length - k - 1) default)).toNat true else doneL (ins.drop (ins.length - k)) l := by
  rw [show ins.length - (k + 1) = ins.length - k - 1 by omega]
  have e : ins.getD (ins.length - k - 1) default = ins[ins.length - k - 1]'(by omega) := by simp [List.getD, List.getElem?_eq_getElem (show ins.length - k - 1 < ins.length by omega)]
  rw [e]
  conv => lhs; rw [List.drop_eq_getElem_cons (show ins.length - k - 1 < ins.length by omega), show ins.length - k - 1 + 1 = ins.length - k by omega]
  rfl
abbrev toL (b : Bk) (r k : Nat) : List Bool := doneL (b.ins.drop (b.ins.length - k)) (List.replicate r false)

abbrev tcH (b : Bk) (r : Nat) (x y : List Bool) (R : VObj) : List VObj := [⟨0, 42, 1, bkL b⟩, ⟨1, 70, 1, [.ref 3 3 0 (rl r)]⟩, ⟨2, 70, 1, [.ref 4 4 0 (rl r)]⟩, ⟨3, 88, 1, rowC64 x⟩, ⟨4, 88, 1, rowC64 y⟩, ⟨5, 3, 1, [I b.ins.length]⟩, R]
theorem stab_app (H R : List VObj) : Stab (fun _ => True) 1 H (H ++ R) := fun id ob _ h => ⟨ob, by rw [List.getElem?_append_left (List.getElem?_eq_some_iff.1 h).1]; exact h, rfl, rfl⟩
theorem stab_set {H : List VObj} {k : Nat} {ob ob' : VObj} (h : H[k]? = some ob) (hs : ob'.s = ob.s) (hz : ob'.sz = ob.sz) : Stab (fun _ => True) 1 H (H.set k ob') := fun id o _ ho => by
  rw [List.getElem?_set]
  by_cases e : k = id
  · subst e
    rw [h] at ho; cases ho
    rw [if_pos rfl, if_pos (List.getElem?_eq_some_iff.1 h).1]; exact ⟨_, rfl, hs, hz⟩
  · rw [if_neg e]; exact ⟨o, ho, rfl, rfl⟩

theorem touch_c (b : Bk) (r : Nat) (hr : r ≤ 64) (hn : b.ins.length ≤ 1000000) (hv : b.e = 2 → 0 ≤ b.v ∧ b.v < r) (hrt : ∀ t ∈ b.ins, RegT t r) :
    Contract Try.prog 48 [bkA b, I r] (fun x => x = .tup [.imm 1 (rowC64 (readL b r)), .imm 1 (rowC64 (setL b r))]) := by
  refine Contract.of_call (VCall.of_bodyB hmix f_live_touch (by simp) ?_)
  have hzl : (List.replicate r false).length = r := by simp
  simp only [go_sem,Nat.reduceEqDiff,Nat.reduceAdd,Nat.reduceMul,↓reduceIte,↓dreduceIte,reduceCtorEq,Nat.reduceLeDiff,Nat.reduceLT,Nat.reduceSub,Int.reduceToNat,Int.reduceLE,Int.reduceLT, c_live_touch, one_imm, one_ref, List.length_map]
  refine rowOf_v r hr _ _ _ ?_
  try refine ⟨stab_app _ _, ?_⟩
  simp only [go_sem,Nat.reduceEqDiff,Nat.reduceAdd,Nat.reduceMul,↓reduceIte,↓dreduceIte,reduceCtorEq,Nat.reduceLeDiff,Nat.reduceLT,Nat.reduceSub,Int.reduceToNat,Int.reduceLE,Int.reduceLT, one_imm, one_ref, List.length_map]
  refine rowOf_v r hr _ _ _ ?_
  try refine ⟨stab_app _ _, ?_⟩
  by_cases h : b.e = 2
  all_goals
    first
    | (simp only [go_sem,Nat.reduceEqDiff,Nat.reduceAdd,Nat.reduceMul,↓reduceIte,↓dreduceIte,reduceCtorEq,Nat.reduceLeDiff,Nat.reduceLT,Nat.reduceSub,Int.reduceToNat,Int.reduceLE,Int.reduceLT, one_imm, one_ref, List.length_map, eq_true (show b.e = 2 from h)]
       refine add_v (List.replicate r false) b.v _ _ 3 3 _ (by rw [hzl]) (by rw [hzl]; exact hr) (by rw [hzl]; exact hv h) rfl _ fun _ => ?_
       simp only [go_sem,Nat.reduceEqDiff,Nat.reduceAdd,Nat.reduceMul,↓reduceIte,↓dreduceIte,reduceCtorEq,Nat.reduceLeDiff,Nat.reduceLT,Nat.reduceSub,Int.reduceToNat,Int.reduceLE,Int.reduceLT, one_imm, one_ref, List.length_map, last_pos h])
    | simp only [go_sem,Nat.reduceEqDiff,Nat.reduceAdd,Nat.reduceMul,↓reduceIte,↓dreduceIte,reduceCtorEq,Nat.reduceLeDiff,Nat.reduceLT,Nat.reduceSub,Int.reduceToNat,Int.reduceLE,Int.reduceLT, one_imm, one_ref, List.length_map, eq_false h]
    refine VCall.of_body hmix f_live_down (by simp) ?_
    simp only [go_sem,Nat.reduceEqDiff,Nat.reduceAdd,Nat.reduceMul,↓reduceIte,↓dreduceIte,reduceCtorEq,Nat.reduceLeDiff,Nat.reduceLT,Nat.reduceSub,Int.reduceToNat,Int.reduceLE,Int.reduceLT, c_live_down, one_imm, one_ref, List.length_map]
    intro R Bo E hz hY
    refine down_v b.ins.length 6 6 5 5 (fun k H nx => H = tcH b r (atL b (List.replicate r false) k) (toL b r k) R ∧ nx = 7) _ _ _ hn (fun k H nx hI => by rw [hI.1]; rfl) (fun k H nx C' hk hI hC' => ?_)
      ⟨by simp only [atL_zero, tcH, toL, Nat.sub_zero, List.drop_length]; first | rfl | (rw [last_neg h]; rfl), rfl⟩ fun x H nx hI => ?_
    · obtain ⟨rfl, rfl⟩ := hI
      refine hY _ _ _ _ rfl rfl ?_
      clear hY
      have e1 : ((b.ins.length : Int) - 1 - k).toNat = b.ins.length - k - 1 := by omega
      have hrt := hrt _ (mem_getD (show b.ins.length - k - 1 < b.ins.length by omega))
      simp only [go_sem,Nat.reduceEqDiff,Nat.reduceAdd,Nat.reduceMul,↓reduceIte,↓dreduceIte,reduceCtorEq,Nat.reduceLeDiff,Nat.reduceLT,Nat.reduceSub,Int.reduceToNat,Int.reduceLE,Int.reduceLT, one_imm, one_ref, List.length_map, e1, List.zip_cons_cons, List.zip_nil_left]
      repeat ((with_reducible refine And.intro ?_ ?_); · omega)
      refine VCall.of_contract (bSets_c _) (SleL.pure rfl) fun r hr' => ?_
      subst hr'
      have hst := atL_step b (List.replicate r false) hk
      have hdn := done_step b.ins (List.replicate r false) hk
      have hlx : (atL b (List.replicate r false) k).length = r := by rw [atL_len, hzl]
      have hly : (toL b r k).length = r := by rw [toL, doneL_len, hzl]
      generalize hgt : b.ins.getD (b.ins.length - k - 1) default = t at hrt hst hdn ⊢
      generalize hgx : atL b (List.replicate r false) k = x at hst hlx ⊢
      rw [show doneL (List.drop (b.ins.length - k) b.ins) (List.replicate r false) = toL b r k from rfl] at hdn
      generalize hgy : toL b r k = y at hdn hly ⊢
      have hs1 : 0 ≤ setsL t → setsL t < r := fun h => by rcases hrt.sets with e | e <;> omega
      by_cases h0 : 0 ≤ setsL t
      all_goals
        first
        | (simp only [go_sem,Nat.reduceEqDiff,Nat.reduceAdd,Nat.reduceMul,↓reduceIte,↓dreduceIte,reduceCtorEq,Nat.reduceLeDiff,Nat.reduceLT,Nat.reduceSub,Int.reduceToNat,Int.reduceLE,Int.reduceLT, one_imm, one_ref, List.length_map, e1, eq_true (show 0 ≤ setsL t from h0)]
           refine remove_v x (setsL t) _ _ 3 3 _ (by rw [hlx]) (by rw [hlx]; exact hr) (by rw [hlx]; exact ⟨h0, hs1 h0⟩) rfl _ fun _ => ?_
           simp only [go_sem,Nat.reduceEqDiff,Nat.reduceAdd,Nat.reduceMul,↓reduceIte,↓dreduceIte,reduceCtorEq,Nat.reduceLeDiff,Nat.reduceLT,Nat.reduceSub,Int.reduceToNat,Int.reduceLE,Int.reduceLT, one_imm, one_ref, List.length_map, clear_pos h0]
           refine add_v y (setsL t) _ _ 4 4 _ (by rw [hly]) (by rw [hly]; exact hr) (by rw [hly]; exact ⟨h0, hs1 h0⟩) rfl _ fun _ => ?_
           rw [if_pos h0] at hdn
           rw [← hdn]
           simp only [go_sem,Nat.reduceEqDiff,Nat.reduceAdd,Nat.reduceMul,↓reduceIte,↓dreduceIte,reduceCtorEq,Nat.reduceLeDiff,Nat.reduceLT,Nat.reduceSub,Int.reduceToNat,Int.reduceLE,Int.reduceLT, one_imm, one_ref, List.length_map, e1, hgt])
        | (rw [if_neg h0] at hdn
           rw [← hdn]
           simp only [go_sem,Nat.reduceEqDiff,Nat.reduceAdd,Nat.reduceMul,↓reduceIte,↓dreduceIte,reduceCtorEq,Nat.reduceLeDiff,Nat.reduceLT,Nat.reduceSub,Int.reduceToNat,Int.reduceLE,Int.reduceLT, one_imm, one_ref, List.length_map, e1, eq_false h0, hgt])
        repeat ((with_reducible refine And.intro ?_ ?_); · omega)
        refine VCall.of_contractN (bUses_c t) ?_ fun r hr' => ?_
        · exact ⟨_, _, rfl, Frz.pure rfl, rfl⟩
        subst hr'
        simp only [go_sem,Nat.reduceEqDiff,Nat.reduceAdd,Nat.reduceMul,↓reduceIte,↓dreduceIte,reduceCtorEq,Nat.reduceLeDiff,Nat.reduceLT,Nat.reduceSub,Int.reduceToNat,Int.reduceLE,Int.reduceLT, one_imm, one_ref, List.length_map]
        have hcl : (clearL t x).length = r := by rw [clearL_len, hlx]
        refine VW_loop (fun j : Nat => ⟨[(2, .ptr 0 0 0), (4, .ptr 1 1 0), (5, .ptr 2 2 0), (45, ints (usesL t)), (46, I (usesL t).length), (47, I j)], tcH b r (useL (clearL t x) ((usesL t).take j)) (doneL (List.drop (b.ins.length - (k + 1)) b.ins) (List.replicate r false)) Bo, 7⟩)
          (fun j => j ≤ (usesL t).length) (fun j => (usesL t).length - j) 0 (Wk.mk (by simp [get_cons]) ⟨[], by first | rfl | (rw [clear_neg h0]; rfl)⟩ (Nat.le_refl _)) (by omega) ?_
        intro j hj
        have hu2 := usesL_len t
        by_cases hlt : j < (usesL t).length
        · have hu := hrt.1 _ (mem_getD hlt)
          simp only [go_sem,Nat.reduceEqDiff,Nat.reduceAdd,Nat.reduceMul,↓reduceIte,↓dreduceIte,reduceCtorEq,Nat.reduceLeDiff,Nat.reduceLT,Nat.reduceSub,Int.reduceToNat,Int.reduceLE,Int.reduceLT, one_imm, one_ref, List.length_map, eq_true (show (j : Int) < (usesL t).length by omega)]
          repeat ((with_reducible refine And.intro ?_ ?_); · omega)
          refine add_v (useL (clearL t x) ((usesL t).take j)) _ _ _ 3 3 _ (by rw [useL_len, hcl]) (by rw [useL_len, hcl]; exact hr) (by rw [useL_len, hcl]; exact hu) rfl _ fun _ => ?_
          rw [← useL_take _ _ hlt]
          simp only [go_sem,Nat.reduceEqDiff,Nat.reduceAdd,Nat.reduceMul,↓reduceIte,↓dreduceIte,reduceCtorEq,Nat.reduceLeDiff,Nat.reduceLT,Nat.reduceSub,Int.reduceToNat,Int.reduceLE,Int.reduceLT, one_imm, one_ref, List.length_map]
          rw [i64_in (by omega) (by omega)]
          exact ⟨j + 1, by omega, by omega, Wk.mk (by simp [get_cons]) ⟨[], rfl⟩ (Nat.le_refl _)⟩
        · simp only [go_sem,Nat.reduceEqDiff,Nat.reduceAdd,Nat.reduceMul,↓reduceIte,↓dreduceIte,reduceCtorEq,Nat.reduceLeDiff,Nat.reduceLT,Nat.reduceSub,Int.reduceToNat,Int.reduceLE,Int.reduceLT, one_imm, one_ref, List.length_map, eq_false (show ¬ (j : Int) < (usesL t).length by omega)]
          refine hC' _ _ ⟨?_, rfl⟩
          rw [List.take_of_length_le (by omega), ← hst]
          rfl
    · obtain ⟨rfl, rfl⟩ := hI
      refine ⟨rfl, ?_⟩
      clear hY
      rw [atL_all, show toL b r b.ins.length = setL b r by simp [toL, setL]]
      simp only [go_sem,Nat.reduceEqDiff,Nat.reduceAdd,Nat.reduceMul,↓reduceIte,↓dreduceIte,reduceCtorEq,Nat.reduceLeDiff,Nat.reduceLT,Nat.reduceSub,Int.reduceToNat,Int.reduceLE,Int.reduceLT, one_imm, one_ref, List.length_map]
      refine and_self_iff.2 ⟨_, Frz.tup (ys := [_, _]) ?_, rfl⟩
      exact ⟨_, _, rfl, frz_row (l := readL b r) (Nat.zero_le _) rfl (by simp [readL, aheadL_len]), _, _, rfl, frz_row (l := setL b r) (Nat.zero_le _) rfl (by simp [setL, doneL_len]), rfl⟩

/-- Is it in? -/
theorem bit64 {l : List Bool} {v : Nat} (hv : v < 64) (hl : l.length ≤ 64) : (IntKind.u64.wrap ((BitVec.ofInt 64 ((wd l : Int).fdiv (2 ^ min v 64)) &&& BitVec.ofInt 64 1).toNat : Nat) == (1 : Int)) = gB l v := by
  rw [Nat.min_eq_left (by omega), Int.fdiv_eq_ediv_of_nonneg _ (by exact Int.le_of_lt (Int.pow_pos (by decide)))]
  have e : ((wd l : Int) / 2 ^ v) = ((wd l >>> v : Nat) : Int) := by rw [Nat.shiftRight_eq_div_pow]; simp
  have hlt : wd l >>> v < 2 ^ 64 := Nat.lt_of_le_of_lt (Nat.shiftRight_le _ _) (wd_lt64 hl)
  rw [e, bv_nat, show BitVec.ofInt 64 1 = BitVec.ofNat 64 1 from rfl, BitVec.toNat_and, BitVec.toNat_ofNat, BitVec.toNat_ofNat, Nat.mod_eq_of_lt hlt, show 1 % 2 ^ 64 = 1 by decide, Nat.and_one_is_mod]
  have h2 := wd_bit l v
  rw [Nat.testBit_eq_decide_div_mod_eq, ← Nat.shiftRight_eq_div_pow] at h2
  rw [u64_nat (Nat.lt_of_lt_of_le (Nat.mod_lt _ (by decide)) (by decide)), ← h2]
  rcases Nat.mod_two_eq_zero_or_one (wd l >>> v) with g | g <;> rw [g] <;> rfl
end Go.Proofs.Ytjdeediehmhdoaa
