/-
  What matters behind each instruction: contracts of both. No condition.
-/
import Derived.Test.YtjdeediehmhdoaaB6
namespace Go.Proofs.Ytjdeediehmhdoaa
set_option linter.unusedSimpArgs false
set_option linter.unusedVariables false
set_option maxRecDepth 10000
open Go.V

/-- The rows as they are told, the last k of them told already. -/
def rowC (b : Bk) (l : List Bool) (k : Nat) : List AV := (List.range b.ins.length).map fun i => if i < b.ins.length - k then nilv else bools (atL b l (b.ins.length - 1 - i))
theorem rowC_len (b : Bk) (l : List Bool) (k : Nat) : (rowC b l k).length = b.ins.length := by simp [rowC]
theorem rowC_zero (b : Bk) (l : List Bool) : rowC b l 0 = List.replicate b.ins.length nilv := by
  refine List.ext_getElem (by simp [rowC]) fun i h1 h2 => ?_
  have : i < b.ins.length := by simpa [rowC] using h1
  simp [rowC, this]
theorem rowC_set (b : Bk) (l : List Bool) {k : Nat} (hk : k < b.ins.length) : (rowC b l k).set (b.ins.length - k - 1) (bools (atL b l k)) = rowC b l (k + 1) := by
  refine List.ext_getElem (by simp [rowC]) fun i h1 h2 => ?_
  have hi : i < b.ins.length := by simpa [rowC] using h2
  rw [List.getElem_set]
  simp only [rowC, List.getElem_map, List.getElem_range]
  by_cases h : b.ins.length - k - 1 = i
  · rw [if_pos h, if_neg (by omega), show b.ins.length - 1 - i = k by omega]
  · rw [if_neg h]
    by_cases h3 : i < b.ins.length - k
    · rw [if_pos h3, if_pos (by omega)]
    · rw [if_neg h3, if_neg (by omega)]
theorem rowC_all (b : Bk) (l : List Bool) : rowC b l b.ins.length = (behindL b l).map bools := by
  refine List.ext_getElem (by simp [rowC, behindL]) fun i h1 h2 => ?_
  have hi : i < b.ins.length := by simpa [rowC] using h1
  simp only [rowC, behindL, List.getElem_map, List.getElem_range, atL]
  rw [if_neg (by omega), show b.ins.length - (b.ins.length - 1 - i) = i + 1 by omega]
theorem rows_frz {n : Nat} {H : List VObj} {nx id s ty : Nat} {m : List (List Bool)} {len : Nat} (hid : n ≤ id) (ho : H[id]? = some ⟨s, ty, 1, m.map bools⟩) (hlen : len = m.length) : Frz n H nx (.ref id s 0 len) (rowsA m) :=
  frz_map hid ho hlen (fun _ => rfl) fun _ _ => Frz.pure rfl
theorem behindL_len (b : Bk) (l : List Bool) : (behindL b l).length = b.ins.length := by simp [behindL]

theorem rbehind_c (f : BF) (L : LD) (b : Nat) (hf : Fine f) (hb : b < f.n) (hob : b < L.out.length) (hlo : (L.out.getD b default).length = f.r) :
    Contract Try.prog 23 [bfA f, liveA L, I b] (fun x => x = rowsA (behindL (f.bk b) (L.out.getD b default))) := by
  refine Contract.of_call (VCall.of_body hmix f_scref27_Behind (by simp) ?_)
  have hr4 := hf.r1
  have hr : f.r ≤ 4000 := by unfold BF.r; omega
  have hnb : b < f.bks.length := hb
  have hbk : f.bks.getD b default = f.bk b := rfl
  have hlen := hf.len _ (BF.mem hb)
  have hreg := hf.regs hb hlo
  simp only [go_sem,Nat.reduceEqDiff,Nat.reduceAdd,Nat.reduceMul,↓reduceIte,↓dreduceIte,reduceCtorEq,Nat.reduceLeDiff,Nat.reduceLT,Nat.reduceSub,Int.reduceToNat,Int.reduceLE,Int.reduceLT, c_scref27_Behind, one_imm, one_ref, List.length_map, hbk]
  generalize f.bk b = k at hlen hreg ⊢
  generalize L.out.getD b default = l at hlo hreg ⊢
  repeat ((with_reducible refine And.intro ?_ ?_); · omega)
  refine VCall.of_contract (rlast_c k l (by omega) hreg.2).old (SleL.pure rfl) fun x hx => ?_
  subst hx
  simp only [go_sem,Nat.reduceEqDiff,Nat.reduceAdd,Nat.reduceMul,↓reduceIte,↓dreduceIte,reduceCtorEq,Nat.reduceLeDiff,Nat.reduceLT,Nat.reduceSub,Int.reduceToNat,Int.reduceLE,Int.reduceLT, one_imm, one_ref, List.length_map]
  rw [i64_in (by omega) (by omega)]
  refine VW_loop (fun j : Nat => ⟨[(7, .ptr 2 2 0), (8, .ref 3 3 0 k.ins.length), (9, bools (atL k l j)), (10, I ((k.ins.length : Int) - 1 - j))], [⟨0, 24, 1, [I f.regs, bksA f.bks]⟩, ⟨1, 29, 1, [rowsA L.inn, rowsA L.out]⟩, ⟨2, 42, 1, bkL k⟩, ⟨3, 39, 1, rowC k l j⟩], 4⟩)
    (fun j => j ≤ k.ins.length) (fun j => k.ins.length - j) 0 (Wk.mk (by simp [get_cons, atL_zero]) ⟨[], by simp [rowC_zero, flat_rep]⟩ (Nat.le_refl _)) (by omega) ?_
  intro j hj
  by_cases hlt : j < k.ins.length
  · have e1 : ((k.ins.length : Int) - 1 - j).toNat = k.ins.length - j - 1 := by omega
    simp only [go_sem,Nat.reduceEqDiff,Nat.reduceAdd,Nat.reduceMul,↓reduceIte,↓dreduceIte,reduceCtorEq,Nat.reduceLeDiff,Nat.reduceLT,Nat.reduceSub,Int.reduceToNat,Int.reduceLE,Int.reduceLT, one_imm, one_ref, List.length_map, eq_true (show (0 : Int) ≤ (k.ins.length : Int) - 1 - j by omega), e1, rowC_set k l hlt, rowC_len]
    repeat ((with_reducible refine And.intro ?_ ?_); · omega)
    refine VCall.of_contract (rback_c (k.ins.getD (k.ins.length - j - 1) default) (atL k l j) (by rw [atL_len]; omega) (by rw [atL_len]; exact hreg.1 _ (mem_getD (by omega)))).old (SleL.pure rfl) fun x hx => ?_
    subst hx
    rw [atL_step k l hlt]
    simp only [go_sem,Nat.reduceEqDiff,Nat.reduceAdd,Nat.reduceMul,↓reduceIte,↓dreduceIte,reduceCtorEq,Nat.reduceLeDiff,Nat.reduceLT,Nat.reduceSub,Int.reduceToNat,Int.reduceLE,Int.reduceLT, one_imm, one_ref, List.length_map]
    rw [i64_in (by omega) (by omega), show (k.ins.length : Int) - 1 - j - 1 = (k.ins.length : Int) - 1 - ((j + 1 : Nat) : Int) by omega]
    exact ⟨j + 1, by omega, by omega, Wk.mk (by simp [get_cons]) ⟨[], rfl⟩ (Nat.le_refl _)⟩
  · obtain rfl : j = k.ins.length := by omega
    simp only [go_sem,Nat.reduceEqDiff,Nat.reduceAdd,Nat.reduceMul,↓reduceIte,↓dreduceIte,reduceCtorEq,Nat.reduceLeDiff,Nat.reduceLT,Nat.reduceSub,Int.reduceToNat,Int.reduceLE,Int.reduceLT, one_imm, one_ref, List.length_map, eq_false (show ¬ (0 : Int) ≤ (k.ins.length : Int) - 1 - k.ins.length by omega)]
    refine ⟨_, rows_frz (Nat.zero_le _) (by rw [rowC_all]; rfl) (by rw [behindL_len]), rfl⟩

theorem all_B (l : List Bool) : (l.map B).all AV.one = true := one_map (fun _ => rfl) l
theorem cpyB2 (l : List Bool) (n : Nat) (hn : l.length = n) : List.take (min n n) (List.take n (List.map B l)) ++ List.drop (min n n) (List.map B (List.replicate n false)) = l.map B := by
  subst hn
  rw [List.take_of_length_le (by simp), List.take_of_length_le (by simp), List.drop_of_length_le (by simp), List.append_nil]

theorem cellT_set {cs : List AV} {i : Nat} {v : AV} {C : AV → Prop} (hi : i < cs.length) (hv : v.one = true) : cellT (cs.set i v) i false 1 C .mk = C v := by
  show (partOK (cs.set i v) i false 1 ∧ C (partA (cs.set i v) i false 1)) = C v
  have e : (cs.set i v).getD i .dead = v := by rw [List.getD, List.getElem?_set_self hi]; rfl
  unfold partOK partA
  rw [e]
  simp [hv]; omega
abbrev bhH (f : BF) (L : LD) (b : Bk) (n : Nat) (rs : List AV) (l : List Bool) (R : VObj) : List VObj :=
  [⟨0, 24, 1, [I f.regs, bksA f.bks]⟩, ⟨1, 29, 1, [rowsA L.inn, rowsA L.out]⟩, ⟨2, 39, 1, rs⟩, ⟨3, 27, 1, [.ref 2 2 0 b.ins.length]⟩,
   ⟨4, 42, 1, bkL b⟩, ⟨5, 78, 1, [.fn 43 [.ptr 3 3 0]]⟩, ⟨6, 4, 1, l.map B⟩, ⟨7, 39, 1, [.ref 6 6 0 n]⟩, ⟨8, 3, 1, [I b.ins.length]⟩, R]

theorem behind_c (f : BF) (L : LD) (b : Nat) (hf : Fine f) (hb : b < f.n) (hob : b < L.out.length) (hlo : (L.out.getD b default).length = f.r) :
    Contract Try.prog 22 [bfA f, liveA L, I b] (fun x => x = rowsA (behindL (f.bk b) (L.out.getD b default))) := by
  refine Contract.of_call (VCall.of_body hmix f_live_Behind (by simp) ?_)
  have hr4 := hf.r1
  have hr : f.r ≤ 4000 := by unfold BF.r; omega
  have hmx : (200000 : Nat) ≤ maxLen := by decide
  have hnb : b < f.bks.length := hb
  have hbk : f.bks.getD b default = f.bk b := rfl
  have hlen := hf.len _ (BF.mem hb)
  have hreg := hf.regs hb hlo
  simp only [go_sem,Nat.reduceEqDiff,Nat.reduceAdd,Nat.reduceMul,↓reduceIte,↓dreduceIte,reduceCtorEq,Nat.reduceLeDiff,Nat.reduceLT,Nat.reduceSub,Int.reduceToNat,Int.reduceLE,Int.reduceLT, c_live_Behind, one_imm, one_ref, List.length_map, hbk]
  generalize f.bk b = k at hlen hreg ⊢
  generalize L.out.getD b default = l at hlo hreg ⊢
  repeat ((with_reducible refine And.intro ?_ ?_); · omega)
  refine VCall.of_bodyB hmix f_live_through (by simp) ?_
  obtain ⟨hrt', hv⟩ := hreg
  by_cases h : k.e = 2
  all_goals
    have hv1 := hv
    first
    | simp only [go_sem,Nat.reduceEqDiff,Nat.reduceAdd,Nat.reduceMul,↓reduceIte,↓dreduceIte,reduceCtorEq,Nat.reduceLeDiff,Nat.reduceLT,Nat.reduceSub,Int.reduceToNat,Int.reduceLE,Int.reduceLT, c_live_through, one_imm, one_ref, List.length_map, cells_B, rep_B, cpy_B, eq_true h, set_B, last_pos h]
    | simp only [go_sem,Nat.reduceEqDiff,Nat.reduceAdd,Nat.reduceMul,↓reduceIte,↓dreduceIte,reduceCtorEq,Nat.reduceLeDiff,Nat.reduceLT,Nat.reduceSub,Int.reduceToNat,Int.reduceLE,Int.reduceLT, c_live_through, one_imm, one_ref, List.length_map, cells_B, rep_B, cpy_B, eq_false h]
    repeat ((with_reducible refine And.intro ?_ ?_); · first | exact laid_B l | omega)
    refine VCall.of_body hmix f_live_down (by simp) ?_
    simp only [go_sem,Nat.reduceEqDiff,Nat.reduceAdd,Nat.reduceMul,↓reduceIte,↓dreduceIte,reduceCtorEq,Nat.reduceLeDiff,Nat.reduceLT,Nat.reduceSub,Int.reduceToNat,Int.reduceLE,Int.reduceLT, c_live_down, one_imm, one_ref, List.length_map]
    intro R Bo E hz hY
    refine down_v k.ins.length 9 9 8 8 (fun j H nx => H = bhH f L k l.length (rowC k l j) (atL k l j) R ∧ 10 ≤ nx) _ _ _ (by omega) (fun j H nx hI => by rw [hI.1]; rfl) (fun j H nx C' hj hI hC' => ?_)
      ⟨by simp only [atL_zero, bhH, rowC_zero, flat_rep]; first | rfl | (rw [last_neg h]; rfl), by omega⟩ fun r H nx hI => ?_
    · obtain ⟨rfl, hnx⟩ := hI
      refine hY _ _ _ _ rfl rfl ?_
      clear hY
      have e1 : ((k.ins.length : Int) - 1 - j).toNat = k.ins.length - j - 1 := by omega
      have hrt := hrt' _ (mem_getD (show k.ins.length - j - 1 < k.ins.length by omega))
      simp only [go_sem,Nat.reduceEqDiff,Nat.reduceAdd,Nat.reduceMul,↓reduceIte,↓dreduceIte,reduceCtorEq,Nat.reduceLeDiff,Nat.reduceLT,Nat.reduceSub,Int.reduceToNat,Int.reduceLE,Int.reduceLT, one_imm, one_ref, List.length_map, e1, List.zip_cons_cons, List.zip_nil_left]
      refine VCall.of_body hmix f_live_Behind_1 (by simp) ?_
      simp only [go_sem,Nat.reduceEqDiff,Nat.reduceAdd,Nat.reduceMul,↓reduceIte,↓dreduceIte,reduceCtorEq,Nat.reduceLeDiff,Nat.reduceLT,Nat.reduceSub,Int.reduceToNat,Int.reduceLE,Int.reduceLT, c_live_Behind_1, one_imm, one_ref, List.length_map, e1]
      repeat ((with_reducible refine And.intro ?_ ?_); · first | omega | (rw [rowC_len]; omega))
      have hlj := atL_len k l j
      rw [cellT_set (by rw [rowC_len]; omega) rfl]
      simp only [go_sem,Nat.reduceEqDiff,Nat.reduceAdd,Nat.reduceMul,↓reduceIte,↓dreduceIte,reduceCtorEq,Nat.reduceLeDiff,Nat.reduceLT,Nat.reduceSub,Int.reduceToNat,Int.reduceLE,Int.reduceLT, one_imm, one_ref, List.length_map, e1, all_B, rep_B, cpyB2 _ _ hlj]
      repeat ((with_reducible refine And.intro ?_ ?_); · omega)
      refine VCall.of_contract (bSets_c _) (SleL.pure rfl) fun r hr' => ?_
      subst hr'
      have hst := atL_step k l hj
      have hrs := rowC_set k l hj
      have hrl := rowC_len k l j
      generalize hgt : k.ins.getD (k.ins.length - j - 1) default = t at hrt hst ⊢
      generalize hgx : atL k l j = x at hst hlj hrs ⊢
      generalize rowC k l j = rs at hrs hrl ⊢
      have hcl : (clearL t x).length = l.length := by rw [clearL_len, hlj]
      by_cases h0 : 0 ≤ setsL t
      all_goals
        have hs1 : 0 ≤ setsL t → setsL t < l.length := fun h => by rcases hrt.sets with e | e <;> omega
        first
        | simp only [go_sem,Nat.reduceEqDiff,Nat.reduceAdd,Nat.reduceMul,↓reduceIte,↓dreduceIte,reduceCtorEq,Nat.reduceLeDiff,Nat.reduceLT,Nat.reduceSub,Int.reduceToNat,Int.reduceLE,Int.reduceLT, one_imm, one_ref, List.length_map, e1, eq_true h0, set_B, clear_pos h0, hgt]
        | simp only [go_sem,Nat.reduceEqDiff,Nat.reduceAdd,Nat.reduceMul,↓reduceIte,↓dreduceIte,reduceCtorEq,Nat.reduceLeDiff,Nat.reduceLT,Nat.reduceSub,Int.reduceToNat,Int.reduceLE,Int.reduceLT, one_imm, one_ref, List.length_map, e1, eq_false h0, hgt]
        repeat ((with_reducible refine And.intro ?_ ?_); · first | omega | (have := hs1 h0; omega))
        refine VCall.of_contractN (bUses_c t) ?_ fun r hr' => ?_
        · exact ⟨_, _, rfl, Frz.pure rfl, rfl⟩
        subst hr'
        simp only [go_sem,Nat.reduceEqDiff,Nat.reduceAdd,Nat.reduceMul,↓reduceIte,↓dreduceIte,reduceCtorEq,Nat.reduceLeDiff,Nat.reduceLT,Nat.reduceSub,Int.reduceToNat,Int.reduceLE,Int.reduceLT, one_imm, one_ref, List.length_map]
        refine VW_loop (fun i : Nat => ⟨[(3, .ptr 4 4 0), (7, .ptr 7 7 0), (52, ints (usesL t)), (53, I (usesL t).length), (54, I i)], bhH f L k l.length (rowC k l (j + 1)) (useL (clearL t x) ((usesL t).take i)) Bo, nx + 1⟩)
          (fun i => i ≤ (usesL t).length) (fun i => (usesL t).length - i) 0 (Wk.give (by simp [get_cons]) (by
            simp only [OW, CW.refl, Nat.reduceEqDiff, false_implies, true_and, and_true]
            first
            | (rw [← hrs]; exact ⟨CW.set (frz_bools (l := x) (by simp) rfl (by omega)), CW.refl _, fun _ => trivial⟩)
            | (rw [← hrs, clear_neg h0]; exact ⟨CW.set (frz_bools (l := x) (by simp) rfl (by omega)), CW.refl _, fun _ => trivial⟩)) (Nat.le_refl _)) (by omega) ?_
        intro i hi
        have hu2 := usesL_len t
        by_cases hlt : i < (usesL t).length
        · have hu := hrt.1 _ (mem_getD hlt)
          simp only [go_sem,Nat.reduceEqDiff,Nat.reduceAdd,Nat.reduceMul,↓reduceIte,↓dreduceIte,reduceCtorEq,Nat.reduceLeDiff,Nat.reduceLT,Nat.reduceSub,Int.reduceToNat,Int.reduceLE,Int.reduceLT, one_imm, one_ref, List.length_map, eq_true (show (i : Int) < (usesL t).length by omega), set_B, ← useL_take _ _ hlt, useL_len, hcl]
          repeat ((with_reducible refine And.intro ?_ ?_); · omega)
          rw [i64_in (by omega) (by omega)]
          exact ⟨i + 1, by omega, by omega, Wk.mk (by simp [get_cons]) ⟨[], rfl⟩ (Nat.le_refl _)⟩
        · simp only [go_sem,Nat.reduceEqDiff,Nat.reduceAdd,Nat.reduceMul,↓reduceIte,↓dreduceIte,reduceCtorEq,Nat.reduceLeDiff,Nat.reduceLT,Nat.reduceSub,Int.reduceToNat,Int.reduceLE,Int.reduceLT, one_imm, one_ref, List.length_map, eq_false (show ¬ (i : Int) < (usesL t).length by omega)]
          refine hC' _ _ ⟨?_, by omega⟩
          rw [List.take_of_length_le (by omega), ← hst]
          rfl
    · obtain ⟨rfl, hnx⟩ := hI
      refine ⟨rfl, ?_⟩
      clear hY
      rw [rowC_all]
      simp only [go_sem,Nat.reduceEqDiff,Nat.reduceAdd,Nat.reduceMul,↓reduceIte,↓dreduceIte,reduceCtorEq,Nat.reduceLeDiff,Nat.reduceLT,Nat.reduceSub,Int.reduceToNat,Int.reduceLE,Int.reduceLT, one_imm, one_ref, List.length_map]
      exact ⟨_, rows_frz (Nat.zero_le _) rfl (by rw [behindL_len]), rfl⟩
end Go.Proofs.Ytjdeediehmhdoaa
