/-
  flow: contracts, part 1: lists, what follows a block. No condition.
-/
import Derived.Test.YtdiknjjhegckcaaTab
import Derived.Test.YtdiknjjhegckcaaVH
namespace Go.Proofs.Ytdiknjjhegckcaa
set_option linter.unusedSimpArgs false
set_option linter.unusedVariables false
open Go.V

/-- ref.List: are two lists alike? -/
theorem list_c (a b : List Int) (ha : a.length ≤ 140737488355328) : Contract Try.prog 15 [ints a, ints b] (fun r => r = B (a == b)) := by
  refine Contract.of_call (VCall.of_body hmix f_scref26_List (by simp) ?_)
  simp only [↓VW_skip, ↓VW_ops, ↓VW_par, ↓VW_seq, ↓VW_block, ↓VW_exit, ↓VW_ret, ↓VW_cond, ↓seq_normal, ↓seq_exit, ↓seq_ret, ↓blk_normal, ↓blk_exit, ↓blk_ret, ↓get_nil, ↓get_cons, ↓put_some, ↓put_none, ↓put_some', ↓put_none', ↓VTrL, ↓K.wpD, ↓K.wpE, K.xtra, argEnv, ↓retQ, ↓retW, ↓VR.wp, ↓VRs, binOK, binR, unOK, unR, ldOK, stoOK, putA, partA, partOK, fillA, fillOK, partsOf, evs, boundOf, AV.cells, AV.one, AV.laid, Value.oneCell', Nat.reduceEqDiff, Nat.reduceAdd, Nat.reduceMul, ↓reduceIte, true_and, and_true, List.cons_append, List.nil_append, List.length_map, List.length_cons, List.length_nil, List.getElem?_cons_zero, List.getElem?_cons_succ, List.map_cons, List.map_nil, Bool.not_true, Bool.not_false, forall_const, reduceCtorEq, false_implies, List.all_cons, List.all_nil, Bool.and_true, Bool.and_self, ↓idxT_map, ↓idxT_cons, ↓cellT_map, ↓cellT_cons, decide_eq_true_eq, decide_eq_false_iff_not, Int.toNat_natCast, bne_iff_ne, ne_eq, Bool.not_eq_true', bne_eq_false_iff_eq, beq_iff_eq, implies_true, List.getD_cons_zero, List.getD_cons_succ, Bool.false_eq_true, false_or, or_false, true_or, or_true, Int.natCast_nonneg, Int.toNat_zero, Int.toNat_one, List.set_cons_zero, List.set_cons_succ, List.take_zero, List.take_succ_cons, List.take_nil, List.drop_zero, List.drop_succ_cons, List.drop_nil, List.append_nil, Nat.zero_add, Nat.add_zero, Nat.mul_one, Nat.zero_mul, ↓wp_mv, ↓wp_pick, ↓wp_ld, ↓wp_sto, ↓wp_idx, ↓wp_aidx, ↓wp_fad, ↓wp_fld, ↓wp_len, ↓wp_lens, ↓wp_bin, ↓wp_beq, ↓wp_un, ↓wp_conv, ↓wp_sl, ↓wp_sls, ↓wp_mk, ↓wp_app, ↓wp_bsl, ↓wp_bld, ↓wp_box, ↓wp_alc, ↓wp_mkf, ↓wp_nck, ↓wp_ext, ↓wp_call, ↓VOps_nil, ↓VOps_go, ↓VOps_if, ↓evF_tmp, ↓evF_const, ↓evF_func, cv_int, cv_bool, cv_slice, cv_string, cv, Nat.reduceLeDiff, Nat.le_refl, Nat.reduceSub, Int.reduceToNat, Int.reduceLE, Int.reduceLT, not_true_eq_false, not_false_eq_true , c_scref26_List]
  refine ⟨fun h => ⟨_, Frz.pure rfl, ?_⟩, fun h => ?_⟩
  · rw [beq_eq_false_iff_ne.2 (fun e => h (by rw [e]))]
  have hl : a.length = b.length := by omega
  refine VW_loop (fun k : Nat => ⟨[(0, ints a), (1, ints b), (5, I k)], [], 0⟩) (fun k => k ≤ a.length ∧ a.take k = b.take k) (fun k => a.length - k) 0 (Wk.mk (by simp [get_cons]) ⟨[], rfl⟩ (Nat.le_refl _)) ⟨by omega, rfl⟩ ?_
  intro k ⟨hk, hpre⟩
  simp only [↓VW_skip, ↓VW_ops, ↓VW_par, ↓VW_seq, ↓VW_block, ↓VW_exit, ↓VW_ret, ↓VW_cond, ↓seq_normal, ↓seq_exit, ↓seq_ret, ↓blk_normal, ↓blk_exit, ↓blk_ret, ↓get_nil, ↓get_cons, ↓put_some, ↓put_none, ↓put_some', ↓put_none', ↓VTrL, ↓K.wpD, ↓K.wpE, K.xtra, argEnv, ↓retQ, ↓retW, ↓VR.wp, ↓VRs, binOK, binR, unOK, unR, ldOK, stoOK, putA, partA, partOK, fillA, fillOK, partsOf, evs, boundOf, AV.cells, AV.one, AV.laid, Value.oneCell', Nat.reduceEqDiff, Nat.reduceAdd, Nat.reduceMul, ↓reduceIte, true_and, and_true, List.cons_append, List.nil_append, List.length_map, List.length_cons, List.length_nil, List.getElem?_cons_zero, List.getElem?_cons_succ, List.map_cons, List.map_nil, Bool.not_true, Bool.not_false, forall_const, reduceCtorEq, false_implies, List.all_cons, List.all_nil, Bool.and_true, Bool.and_self, ↓idxT_map, ↓idxT_cons, ↓cellT_map, ↓cellT_cons, decide_eq_true_eq, decide_eq_false_iff_not, Int.toNat_natCast, bne_iff_ne, ne_eq, Bool.not_eq_true', bne_eq_false_iff_eq, beq_iff_eq, implies_true, List.getD_cons_zero, List.getD_cons_succ, Bool.false_eq_true, false_or, or_false, true_or, or_true, Int.natCast_nonneg, Int.toNat_zero, Int.toNat_one, List.set_cons_zero, List.set_cons_succ, List.take_zero, List.take_succ_cons, List.take_nil, List.drop_zero, List.drop_succ_cons, List.drop_nil, List.append_nil, Nat.zero_add, Nat.add_zero, Nat.mul_one, Nat.zero_mul, ↓wp_mv, ↓wp_pick, ↓wp_ld, ↓wp_sto, ↓wp_idx, ↓wp_aidx, ↓wp_fad, ↓wp_fld, ↓wp_len, ↓wp_lens, ↓wp_bin, ↓wp_beq, ↓wp_un, ↓wp_conv, ↓wp_sl, ↓wp_sls, ↓wp_mk, ↓wp_app, ↓wp_bsl, ↓wp_bld, ↓wp_box, ↓wp_alc, ↓wp_mkf, ↓wp_nck, ↓wp_ext, ↓wp_call, ↓VOps_nil, ↓VOps_go, ↓VOps_if, ↓evF_tmp, ↓evF_const, ↓evF_func, cv_int, cv_bool, cv_slice, cv_string, cv, Nat.reduceLeDiff, Nat.le_refl, Nat.reduceSub, Int.reduceToNat, Int.reduceLE, Int.reduceLT, not_true_eq_false, not_false_eq_true ]
  refine ⟨fun h => ?_, fun h => ?_⟩
  · refine ⟨by omega, by omega, fun hne => ⟨_, Frz.pure rfl, ?_⟩, fun heq => ?_⟩
    · have : a ≠ b := fun e => hne (by rw [e])
      rw [beq_eq_false_iff_ne.2 this]
    · rw [i64_in (by omega) (by omega)]
      refine ⟨k + 1, ⟨by omega, ?_⟩, by omega, Wk.mk (by simp [get_cons]) ⟨[], rfl⟩ (Nat.le_refl _)⟩
      rw [List.take_add_one, List.take_add_one, hpre, List.getElem?_eq_getElem (by omega), List.getElem?_eq_getElem (by omega)]
      simp only [List.getD, List.getElem?_eq_getElem (show k < a.length by omega), List.getElem?_eq_getElem (show k < b.length by omega), Option.getD_some] at heq
      rw [heq]
  · refine ⟨_, Frz.pure rfl, ?_⟩
    have : a = b := by
      have h1 := hpre
      rw [List.take_of_length_le (by omega), List.take_of_length_le (by omega)] at h1
      exact h1
    rw [this]
    simp

/-- A block, of which the graph asks its end alone. -/
structure Bk where
  ins : List AV
  e : Int
  v : Int
  to : Int
  el : Int
deriving Inhabited
abbrev bk (b : Bk) : AV := .agg [.imm 8 b.ins, I b.e, I b.v, I b.to, I b.el]
def nxt (b : Bk) : List Int := if b.e = 1 then [b.to] else if b.e = 2 then [b.to, b.el] else []
/-- The same as a cell of the object where it is gathered. -/
def nxtv (b : Bk) : AV := if b.e = 1 then ints [b.to] else if b.e = 2 then ints [b.to, b.el] else nilv
abbrev bf (r : Int) (bs : List Bk) : AV := .agg [I r, .imm 5 (bs.map bk)]

theorem nxtv_one (b : Bk) : (nxtv b).one = true := by unfold nxtv; (split; rfl; split <;> rfl)
theorem nxtv_frz (n : Nat) (H : List VObj) (nx : Nat) (b : Bk) : Frz n H nx (nxtv b) (ints (nxt b)) := by
  unfold nxtv nxt
  split
  · exact Frz.pure rfl
  · split
    · exact Frz.pure rfl
    · exact Frz.nil 1

theorem next_c (r : Int) (bs : List Bk) (hb : bs.length ≤ 500) : Contract Try.prog 22 [bf r bs] (fun x => x = .imm 1 (bs.map fun b => ints (nxt b))) := by
  refine Contract.of_call (VCall.of_body hmix f_flow_Next (by simp) ?_)
  simp only [↓VW_skip, ↓VW_ops, ↓VW_par, ↓VW_seq, ↓VW_block, ↓VW_exit, ↓VW_ret, ↓VW_cond, ↓seq_normal, ↓seq_exit, ↓seq_ret, ↓blk_normal, ↓blk_exit, ↓blk_ret, ↓get_nil, ↓get_cons, ↓put_some, ↓put_none, ↓put_some', ↓put_none', ↓VTrL, ↓K.wpD, ↓K.wpE, K.xtra, argEnv, ↓retQ, ↓retW, ↓VR.wp, ↓VRs, binOK, binR, unOK, unR, ldOK, stoOK, putA, partA, partOK, fillA, fillOK, partsOf, evs, boundOf, AV.cells, AV.one, AV.laid, Value.oneCell', Nat.reduceEqDiff, Nat.reduceAdd, Nat.reduceMul, ↓reduceIte, true_and, and_true, List.cons_append, List.nil_append, List.length_map, List.length_cons, List.length_nil, List.getElem?_cons_zero, List.getElem?_cons_succ, List.map_cons, List.map_nil, Bool.not_true, Bool.not_false, forall_const, reduceCtorEq, false_implies, List.all_cons, List.all_nil, Bool.and_true, Bool.and_self, ↓idxT_map, ↓idxT_cons, ↓cellT_map, ↓cellT_cons, decide_eq_true_eq, decide_eq_false_iff_not, Int.toNat_natCast, bne_iff_ne, ne_eq, Bool.not_eq_true', bne_eq_false_iff_eq, beq_iff_eq, implies_true, List.getD_cons_zero, List.getD_cons_succ, Bool.false_eq_true, false_or, or_false, true_or, or_true, Int.natCast_nonneg, Int.toNat_zero, Int.toNat_one, List.set_cons_zero, List.set_cons_succ, List.take_zero, List.take_succ_cons, List.take_nil, List.drop_zero, List.drop_succ_cons, List.drop_nil, List.append_nil, Nat.zero_add, Nat.add_zero, Nat.mul_one, Nat.zero_mul, ↓wp_mv, ↓wp_pick, ↓wp_ld, ↓wp_sto, ↓wp_idx, ↓wp_aidx, ↓wp_fad, ↓wp_fld, ↓wp_len, ↓wp_lens, ↓wp_bin, ↓wp_beq, ↓wp_un, ↓wp_conv, ↓wp_sl, ↓wp_sls, ↓wp_mk, ↓wp_app, ↓wp_bsl, ↓wp_bld, ↓wp_box, ↓wp_alc, ↓wp_mkf, ↓wp_nck, ↓wp_ext, ↓wp_call, ↓VOps_nil, ↓VOps_go, ↓VOps_if, ↓evF_tmp, ↓evF_const, ↓evF_func, cv_int, cv_bool, cv_slice, cv_string, cv, Nat.reduceLeDiff, Nat.le_refl, Nat.reduceSub, Int.reduceToNat, Int.reduceLE, Int.reduceLT, not_true_eq_false, not_false_eq_true , c_flow_Next]
  repeat (refine ⟨by omega, ?_⟩)
  refine VW_loop (fun q : Nat × Nat => ⟨[(1, .ptr 0 0 0), (3, .ref 1 1 0 bs.length), (11, .imm 5 (bs.map bk)), (12, I bs.length), (13, I q.1)],
    [⟨0, 38, 1, [I r, .imm 5 (bs.map bk)]⟩, ⟨1, 28, 1, filled nxtv nilv bs q.1⟩], q.2⟩) (fun q => q.1 ≤ bs.length ∧ 2 ≤ q.2) (fun q => bs.length - q.1) (0, 2)
    (Wk.mk (by simp [get_cons]) ⟨[], by simp [flat_rep, filled_zero]⟩ (Nat.le_refl _)) ⟨by omega, by omega⟩ ?_
  rintro ⟨k, nx⟩ ⟨hk, hnx⟩
  simp only [↓VW_skip, ↓VW_ops, ↓VW_par, ↓VW_seq, ↓VW_block, ↓VW_exit, ↓VW_ret, ↓VW_cond, ↓seq_normal, ↓seq_exit, ↓seq_ret, ↓blk_normal, ↓blk_exit, ↓blk_ret, ↓get_nil, ↓get_cons, ↓put_some, ↓put_none, ↓put_some', ↓put_none', ↓VTrL, ↓K.wpD, ↓K.wpE, K.xtra, argEnv, ↓retQ, ↓retW, ↓VR.wp, ↓VRs, binOK, binR, unOK, unR, ldOK, stoOK, putA, partA, partOK, fillA, fillOK, partsOf, evs, boundOf, AV.cells, AV.one, AV.laid, Value.oneCell', Nat.reduceEqDiff, Nat.reduceAdd, Nat.reduceMul, ↓reduceIte, true_and, and_true, List.cons_append, List.nil_append, List.length_map, List.length_cons, List.length_nil, List.getElem?_cons_zero, List.getElem?_cons_succ, List.map_cons, List.map_nil, Bool.not_true, Bool.not_false, forall_const, reduceCtorEq, false_implies, List.all_cons, List.all_nil, Bool.and_true, Bool.and_self, ↓idxT_map, ↓idxT_cons, ↓cellT_map, ↓cellT_cons, decide_eq_true_eq, decide_eq_false_iff_not, Int.toNat_natCast, bne_iff_ne, ne_eq, Bool.not_eq_true', bne_eq_false_iff_eq, beq_iff_eq, implies_true, List.getD_cons_zero, List.getD_cons_succ, Bool.false_eq_true, false_or, or_false, true_or, or_true, Int.natCast_nonneg, Int.toNat_zero, Int.toNat_one, List.set_cons_zero, List.set_cons_succ, List.take_zero, List.take_succ_cons, List.take_nil, List.drop_zero, List.drop_succ_cons, List.drop_nil, List.append_nil, Nat.zero_add, Nat.add_zero, Nat.mul_one, Nat.zero_mul, ↓wp_mv, ↓wp_pick, ↓wp_ld, ↓wp_sto, ↓wp_idx, ↓wp_aidx, ↓wp_fad, ↓wp_fld, ↓wp_len, ↓wp_lens, ↓wp_bin, ↓wp_beq, ↓wp_un, ↓wp_conv, ↓wp_sl, ↓wp_sls, ↓wp_mk, ↓wp_app, ↓wp_bsl, ↓wp_bld, ↓wp_box, ↓wp_alc, ↓wp_mkf, ↓wp_nck, ↓wp_ext, ↓wp_call, ↓VOps_nil, ↓VOps_go, ↓VOps_if, ↓evF_tmp, ↓evF_const, ↓evF_func, cv_int, cv_bool, cv_slice, cv_string, cv, Nat.reduceLeDiff, Nat.le_refl, Nat.reduceSub, Int.reduceToNat, Int.reduceLE, Int.reduceLT, not_true_eq_false, not_false_eq_true ]
  refine ⟨fun h => ?_, fun h => ?_⟩
  · have hl := filled_length nxtv nilv bs (show k ≤ bs.length by omega)
    rw [i64_in (by omega) (by omega)]
    have hs := filled_set nxtv nilv bs (show k < bs.length by omega)
    have hsk := filled_skip nxtv nilv bs (show k < bs.length by omega)
    generalize hx : bs.getD k default = b at *
    refine ⟨by omega, fun h1 => ?_, fun h1 => ⟨fun h2 => ?_, fun h2 => ?_⟩⟩
    · repeat (refine ⟨by omega, ?_⟩)
      refine ⟨(k + 1, nx + 1 + 1), ⟨by simp; omega, by simp⟩, by simp; omega, Wk.give (by simp [get_cons]) ?_ (Nat.le_refl _)⟩
      simp only [OW, CW.refl, true_and, and_true]
      rw [← hs, show nxtv b = ints [b.to] by simp [nxtv, h1]]
      exact CW.set (frz_ints (by simp) rfl rfl)
    · have h1 : b.e ≠ 1 := by simpa using h1
      repeat (refine ⟨by omega, ?_⟩)
      refine ⟨(k + 1, nx + 1 + 1), ⟨by simp; omega, by simp⟩, by simp; omega, Wk.give (by simp [get_cons]) ?_ (Nat.le_refl _)⟩
      simp only [OW, CW.refl, true_and, and_true]
      rw [← hs, show nxtv b = ints [b.to, b.el] by simp [nxtv, h2]]
      exact CW.set (frz_ints (by simp) rfl rfl)
    · refine ⟨(k + 1, nx + 1), ⟨by simp; omega, by simp; omega⟩, by simp; omega, Wk.give (by simp [get_cons]) ?_ (Nat.le_refl _)⟩
      simp only [OW, CW.refl, true_and, and_true]
      rw [← hsk (by simp at h1 h2; simp [nxtv, h1, h2])]
      exact CW.refl _
  · refine ⟨_, ?_, rfl⟩
    rw [filled_all nxtv nilv bs (by omega)]
    exact frz_map (by omega) rfl rfl nxtv_one (fun b _ => nxtv_frz _ _ _ b)

theorem refnext_c (r : Int) (bs : List Bk) (hb : bs.length ≤ 500) : Contract Try.prog 23 [bf r bs] (fun x => x = .imm 1 (bs.map fun b => ints (nxt b))) := by
  refine Contract.of_call (VCall.of_body hmix f_scref26_Next (by simp) ?_)
  simp only [↓VW_skip, ↓VW_ops, ↓VW_par, ↓VW_seq, ↓VW_block, ↓VW_exit, ↓VW_ret, ↓VW_cond, ↓seq_normal, ↓seq_exit, ↓seq_ret, ↓blk_normal, ↓blk_exit, ↓blk_ret, ↓get_nil, ↓get_cons, ↓put_some, ↓put_none, ↓put_some', ↓put_none', ↓VTrL, ↓K.wpD, ↓K.wpE, K.xtra, argEnv, ↓retQ, ↓retW, ↓VR.wp, ↓VRs, binOK, binR, unOK, unR, ldOK, stoOK, putA, partA, partOK, fillA, fillOK, partsOf, evs, boundOf, AV.cells, AV.one, AV.laid, Value.oneCell', Nat.reduceEqDiff, Nat.reduceAdd, Nat.reduceMul, ↓reduceIte, true_and, and_true, List.cons_append, List.nil_append, List.length_map, List.length_cons, List.length_nil, List.getElem?_cons_zero, List.getElem?_cons_succ, List.map_cons, List.map_nil, Bool.not_true, Bool.not_false, forall_const, reduceCtorEq, false_implies, List.all_cons, List.all_nil, Bool.and_true, Bool.and_self, ↓idxT_map, ↓idxT_cons, ↓cellT_map, ↓cellT_cons, decide_eq_true_eq, decide_eq_false_iff_not, Int.toNat_natCast, bne_iff_ne, ne_eq, Bool.not_eq_true', bne_eq_false_iff_eq, beq_iff_eq, implies_true, List.getD_cons_zero, List.getD_cons_succ, Bool.false_eq_true, false_or, or_false, true_or, or_true, Int.natCast_nonneg, Int.toNat_zero, Int.toNat_one, List.set_cons_zero, List.set_cons_succ, List.take_zero, List.take_succ_cons, List.take_nil, List.drop_zero, List.drop_succ_cons, List.drop_nil, List.append_nil, Nat.zero_add, Nat.add_zero, Nat.mul_one, Nat.zero_mul, ↓wp_mv, ↓wp_pick, ↓wp_ld, ↓wp_sto, ↓wp_idx, ↓wp_aidx, ↓wp_fad, ↓wp_fld, ↓wp_len, ↓wp_lens, ↓wp_bin, ↓wp_beq, ↓wp_un, ↓wp_conv, ↓wp_sl, ↓wp_sls, ↓wp_mk, ↓wp_app, ↓wp_bsl, ↓wp_bld, ↓wp_box, ↓wp_alc, ↓wp_mkf, ↓wp_nck, ↓wp_ext, ↓wp_call, ↓VOps_nil, ↓VOps_go, ↓VOps_if, ↓evF_tmp, ↓evF_const, ↓evF_func, cv_int, cv_bool, cv_slice, cv_string, cv, Nat.reduceLeDiff, Nat.le_refl, Nat.reduceSub, Int.reduceToNat, Int.reduceLE, Int.reduceLT, not_true_eq_false, not_false_eq_true , c_scref26_Next]
  repeat (refine ⟨by omega, ?_⟩)
  refine VW_loop (fun q : Nat × Nat => ⟨[(1, .ptr 0 0 0), (3, .ref 1 1 0 bs.length), (4, I q.1)],
    [⟨0, 38, 1, [I r, .imm 5 (bs.map bk)]⟩, ⟨1, 28, 1, filled nxtv nilv bs q.1⟩], q.2⟩) (fun q => q.1 ≤ bs.length ∧ 2 ≤ q.2) (fun q => bs.length - q.1) (0, 2)
    (Wk.mk (by simp [get_cons]) ⟨[], by simp [flat_rep, filled_zero]⟩ (Nat.le_refl _)) ⟨by omega, by omega⟩ ?_
  rintro ⟨k, nx⟩ ⟨hk, hnx⟩
  simp only [↓VW_skip, ↓VW_ops, ↓VW_par, ↓VW_seq, ↓VW_block, ↓VW_exit, ↓VW_ret, ↓VW_cond, ↓seq_normal, ↓seq_exit, ↓seq_ret, ↓blk_normal, ↓blk_exit, ↓blk_ret, ↓get_nil, ↓get_cons, ↓put_some, ↓put_none, ↓put_some', ↓put_none', ↓VTrL, ↓K.wpD, ↓K.wpE, K.xtra, argEnv, ↓retQ, ↓retW, ↓VR.wp, ↓VRs, binOK, binR, unOK, unR, ldOK, stoOK, putA, partA, partOK, fillA, fillOK, partsOf, evs, boundOf, AV.cells, AV.one, AV.laid, Value.oneCell', Nat.reduceEqDiff, Nat.reduceAdd, Nat.reduceMul, ↓reduceIte, true_and, and_true, List.cons_append, List.nil_append, List.length_map, List.length_cons, List.length_nil, List.getElem?_cons_zero, List.getElem?_cons_succ, List.map_cons, List.map_nil, Bool.not_true, Bool.not_false, forall_const, reduceCtorEq, false_implies, List.all_cons, List.all_nil, Bool.and_true, Bool.and_self, ↓idxT_map, ↓idxT_cons, ↓cellT_map, ↓cellT_cons, decide_eq_true_eq, decide_eq_false_iff_not, Int.toNat_natCast, bne_iff_ne, ne_eq, Bool.not_eq_true', bne_eq_false_iff_eq, beq_iff_eq, implies_true, List.getD_cons_zero, List.getD_cons_succ, Bool.false_eq_true, false_or, or_false, true_or, or_true, Int.natCast_nonneg, Int.toNat_zero, Int.toNat_one, List.set_cons_zero, List.set_cons_succ, List.take_zero, List.take_succ_cons, List.take_nil, List.drop_zero, List.drop_succ_cons, List.drop_nil, List.append_nil, Nat.zero_add, Nat.add_zero, Nat.mul_one, Nat.zero_mul, ↓wp_mv, ↓wp_pick, ↓wp_ld, ↓wp_sto, ↓wp_idx, ↓wp_aidx, ↓wp_fad, ↓wp_fld, ↓wp_len, ↓wp_lens, ↓wp_bin, ↓wp_beq, ↓wp_un, ↓wp_conv, ↓wp_sl, ↓wp_sls, ↓wp_mk, ↓wp_app, ↓wp_bsl, ↓wp_bld, ↓wp_box, ↓wp_alc, ↓wp_mkf, ↓wp_nck, ↓wp_ext, ↓wp_call, ↓VOps_nil, ↓VOps_go, ↓VOps_if, ↓evF_tmp, ↓evF_const, ↓evF_func, cv_int, cv_bool, cv_slice, cv_string, cv, Nat.reduceLeDiff, Nat.le_refl, Nat.reduceSub, Int.reduceToNat, Int.reduceLE, Int.reduceLT, not_true_eq_false, not_false_eq_true ]
  refine ⟨fun h => ?_, fun h => ?_⟩
  · have hl := filled_length nxtv nilv bs (show k ≤ bs.length by omega)
    rw [i64_in (by omega) (by omega)]
    have hs := filled_set nxtv nilv bs (show k < bs.length by omega)
    have hsk := filled_skip nxtv nilv bs (show k < bs.length by omega)
    generalize hx : bs.getD k default = b at *
    refine ⟨by omega, fun h1 => ?_, fun h1 => ⟨fun h2 => ?_, fun h2 => ?_⟩⟩
    · repeat (refine ⟨by omega, ?_⟩)
      intro _
      refine ⟨(k + 1, nx + 1 + 1), ⟨by simp; omega, by simp⟩, by simp; omega, Wk.give (by simp [get_cons]) ?_ (Nat.le_refl _)⟩
      simp only [OW, CW.refl, true_and, and_true]
      rw [← hs, show nxtv b = ints [b.to] by simp [nxtv, h1]]
      exact CW.set (frz_ints (by simp) rfl rfl)
    · have h1 : b.e ≠ 1 := by simpa using h1
      repeat (refine ⟨by omega, ?_⟩)
      refine ⟨(k + 1, nx + 1 + 1), ⟨by simp; omega, by simp⟩, by simp; omega, Wk.give (by simp [get_cons]) ?_ (Nat.le_refl _)⟩
      simp only [OW, CW.refl, true_and, and_true]
      rw [← hs, show nxtv b = ints [b.to, b.el] by simp [nxtv, h2]]
      exact CW.set (frz_ints (by simp) rfl rfl)
    · refine ⟨(k + 1, nx + 1), ⟨by simp; omega, by simp; omega⟩, by simp; omega, Wk.give (by simp [get_cons]) ?_ (Nat.le_refl _)⟩
      simp only [OW, CW.refl, true_and, and_true]
      rw [← hsk (by simp at h1 h2; simp [nxtv, h1, h2])]
      exact CW.refl _
  · refine ⟨_, ?_, rfl⟩
    rw [filled_all nxtv nilv bs (by omega)]
    exact frz_map (by omega) rfl rfl nxtv_one (fun b _ => nxtv_frz _ _ _ b)

/-- What FlowNext is handed. -/
def bfSh : Sh := .agg [.int .i64, .sl 5 56 (.agg [.sl 8 64 (.agg [.int .i64, .int .i64, .int .i64, .int .i64, .int .i64, .int .i64, .int .i64, .int .u32]), .int .i64, .int .i64, .int .i64, .int .i64])]
theorem bf_of {x : AV} (h : Sh.fit bfSh x) : ∃ r bs, x = bf r bs := by
  simp only [bfSh, Sh.fit, Sh.fitL] at h
  obtain ⟨ys, rfl, y, ys', rfl, ⟨r, rfl, _⟩, z, zs, rfl, ⟨xs, rfl, _, _, hx⟩, rfl⟩ := h
  obtain ⟨bs, rfl, _⟩ := maps_of (f := bk) (p := fun _ => True) (fun y hy => by
    obtain ⟨cs, rfl, a, as1, rfl, ⟨ins, rfl, _⟩, b, as', rfl, ⟨e, rfl, _⟩, c, as2, rfl, ⟨v, rfl, _⟩, d, as3, rfl, ⟨t, rfl, _⟩, f, as4, rfl, ⟨l, rfl, _⟩, rfl⟩ := hy
    exact ⟨⟨ins, e, v, t, l⟩, rfl, trivial⟩) xs hx
  exact ⟨r, bs, rfl⟩

theorem flownext_c (r : Int) (bs : List Bk) (awake : Contract Try.prog 11 [] (fun x => x = B true)) : Contract Try.prog 10 [bf r bs] (fun x => x = B true) := by
  refine Contract.of_call (VCall.of_body hmix f_sclaw26_FlowNext (by simp) ?_)
  simp only [↓VW_skip, ↓VW_ops, ↓VW_par, ↓VW_seq, ↓VW_block, ↓VW_exit, ↓VW_ret, ↓VW_cond, ↓seq_normal, ↓seq_exit, ↓seq_ret, ↓blk_normal, ↓blk_exit, ↓blk_ret, ↓get_nil, ↓get_cons, ↓put_some, ↓put_none, ↓put_some', ↓put_none', ↓VTrL, ↓K.wpD, ↓K.wpE, K.xtra, argEnv, ↓retQ, ↓retW, ↓VR.wp, ↓VRs, binOK, binR, unOK, unR, ldOK, stoOK, putA, partA, partOK, fillA, fillOK, partsOf, evs, boundOf, AV.cells, AV.one, AV.laid, Value.oneCell', Nat.reduceEqDiff, Nat.reduceAdd, Nat.reduceMul, ↓reduceIte, true_and, and_true, List.cons_append, List.nil_append, List.length_map, List.length_cons, List.length_nil, List.getElem?_cons_zero, List.getElem?_cons_succ, List.map_cons, List.map_nil, Bool.not_true, Bool.not_false, forall_const, reduceCtorEq, false_implies, List.all_cons, List.all_nil, Bool.and_true, Bool.and_self, ↓idxT_map, ↓idxT_cons, ↓cellT_map, ↓cellT_cons, decide_eq_true_eq, decide_eq_false_iff_not, Int.toNat_natCast, bne_iff_ne, ne_eq, Bool.not_eq_true', bne_eq_false_iff_eq, beq_iff_eq, implies_true, List.getD_cons_zero, List.getD_cons_succ, Bool.false_eq_true, false_or, or_false, true_or, or_true, Int.natCast_nonneg, Int.toNat_zero, Int.toNat_one, List.set_cons_zero, List.set_cons_succ, List.take_zero, List.take_succ_cons, List.take_nil, List.drop_zero, List.drop_succ_cons, List.drop_nil, List.append_nil, Nat.zero_add, Nat.add_zero, Nat.mul_one, Nat.zero_mul, ↓wp_mv, ↓wp_pick, ↓wp_ld, ↓wp_sto, ↓wp_idx, ↓wp_aidx, ↓wp_fad, ↓wp_fld, ↓wp_len, ↓wp_lens, ↓wp_bin, ↓wp_beq, ↓wp_un, ↓wp_conv, ↓wp_sl, ↓wp_sls, ↓wp_mk, ↓wp_app, ↓wp_bsl, ↓wp_bld, ↓wp_box, ↓wp_alc, ↓wp_mkf, ↓wp_nck, ↓wp_ext, ↓wp_call, ↓VOps_nil, ↓VOps_go, ↓VOps_if, ↓evF_tmp, ↓evF_const, ↓evF_func, cv_int, cv_bool, cv_slice, cv_string, cv, Nat.reduceLeDiff, Nat.le_refl, Nat.reduceSub, Int.reduceToNat, Int.reduceLE, Int.reduceLT, not_true_eq_false, not_false_eq_true , c_sclaw26_FlowNext, evs]
  refine VCall.of_contract awake (SleL.pure rfl) fun x hx => ?_
  subst hx
  simp only [↓VW_skip, ↓VW_ops, ↓VW_par, ↓VW_seq, ↓VW_block, ↓VW_exit, ↓VW_ret, ↓VW_cond, ↓seq_normal, ↓seq_exit, ↓seq_ret, ↓blk_normal, ↓blk_exit, ↓blk_ret, ↓get_nil, ↓get_cons, ↓put_some, ↓put_none, ↓put_some', ↓put_none', ↓VTrL, ↓K.wpD, ↓K.wpE, K.xtra, argEnv, ↓retQ, ↓retW, ↓VR.wp, ↓VRs, binOK, binR, unOK, unR, ldOK, stoOK, putA, partA, partOK, fillA, fillOK, partsOf, evs, boundOf, AV.cells, AV.one, AV.laid, Value.oneCell', Nat.reduceEqDiff, Nat.reduceAdd, Nat.reduceMul, ↓reduceIte, true_and, and_true, List.cons_append, List.nil_append, List.length_map, List.length_cons, List.length_nil, List.getElem?_cons_zero, List.getElem?_cons_succ, List.map_cons, List.map_nil, Bool.not_true, Bool.not_false, forall_const, reduceCtorEq, false_implies, List.all_cons, List.all_nil, Bool.and_true, Bool.and_self, ↓idxT_map, ↓idxT_cons, ↓cellT_map, ↓cellT_cons, decide_eq_true_eq, decide_eq_false_iff_not, Int.toNat_natCast, bne_iff_ne, ne_eq, Bool.not_eq_true', bne_eq_false_iff_eq, beq_iff_eq, implies_true, List.getD_cons_zero, List.getD_cons_succ, Bool.false_eq_true, false_or, or_false, true_or, or_true, Int.natCast_nonneg, Int.toNat_zero, Int.toNat_one, List.set_cons_zero, List.set_cons_succ, List.take_zero, List.take_succ_cons, List.take_nil, List.drop_zero, List.drop_succ_cons, List.drop_nil, List.append_nil, Nat.zero_add, Nat.add_zero, Nat.mul_one, Nat.zero_mul, ↓wp_mv, ↓wp_pick, ↓wp_ld, ↓wp_sto, ↓wp_idx, ↓wp_aidx, ↓wp_fad, ↓wp_fld, ↓wp_len, ↓wp_lens, ↓wp_bin, ↓wp_beq, ↓wp_un, ↓wp_conv, ↓wp_sl, ↓wp_sls, ↓wp_mk, ↓wp_app, ↓wp_bsl, ↓wp_bld, ↓wp_box, ↓wp_alc, ↓wp_mkf, ↓wp_nck, ↓wp_ext, ↓wp_call, ↓VOps_nil, ↓VOps_go, ↓VOps_if, ↓evF_tmp, ↓evF_const, ↓evF_func, cv_int, cv_bool, cv_slice, cv_string, cv, Nat.reduceLeDiff, Nat.le_refl, Nat.reduceSub, Int.reduceToNat, Int.reduceLE, Int.reduceLT, not_true_eq_false, not_false_eq_true ]
  refine ⟨fun _ => ⟨_, Frz.pure rfl, rfl⟩, fun hlen => ?_⟩
  refine VCall.of_contract (next_c r bs (by omega)) (SleL.pure rfl) fun x hx => ?_
  subst hx
  simp only [↓VW_skip, ↓VW_ops, ↓VW_par, ↓VW_seq, ↓VW_block, ↓VW_exit, ↓VW_ret, ↓VW_cond, ↓seq_normal, ↓seq_exit, ↓seq_ret, ↓blk_normal, ↓blk_exit, ↓blk_ret, ↓get_nil, ↓get_cons, ↓put_some, ↓put_none, ↓put_some', ↓put_none', ↓VTrL, ↓K.wpD, ↓K.wpE, K.xtra, argEnv, ↓retQ, ↓retW, ↓VR.wp, ↓VRs, binOK, binR, unOK, unR, ldOK, stoOK, putA, partA, partOK, fillA, fillOK, partsOf, evs, boundOf, AV.cells, AV.one, AV.laid, Value.oneCell', Nat.reduceEqDiff, Nat.reduceAdd, Nat.reduceMul, ↓reduceIte, true_and, and_true, List.cons_append, List.nil_append, List.length_map, List.length_cons, List.length_nil, List.getElem?_cons_zero, List.getElem?_cons_succ, List.map_cons, List.map_nil, Bool.not_true, Bool.not_false, forall_const, reduceCtorEq, false_implies, List.all_cons, List.all_nil, Bool.and_true, Bool.and_self, ↓idxT_map, ↓idxT_cons, ↓cellT_map, ↓cellT_cons, decide_eq_true_eq, decide_eq_false_iff_not, Int.toNat_natCast, bne_iff_ne, ne_eq, Bool.not_eq_true', bne_eq_false_iff_eq, beq_iff_eq, implies_true, List.getD_cons_zero, List.getD_cons_succ, Bool.false_eq_true, false_or, or_false, true_or, or_true, Int.natCast_nonneg, Int.toNat_zero, Int.toNat_one, List.set_cons_zero, List.set_cons_succ, List.take_zero, List.take_succ_cons, List.take_nil, List.drop_zero, List.drop_succ_cons, List.drop_nil, List.append_nil, Nat.zero_add, Nat.add_zero, Nat.mul_one, Nat.zero_mul, ↓wp_mv, ↓wp_pick, ↓wp_ld, ↓wp_sto, ↓wp_idx, ↓wp_aidx, ↓wp_fad, ↓wp_fld, ↓wp_len, ↓wp_lens, ↓wp_bin, ↓wp_beq, ↓wp_un, ↓wp_conv, ↓wp_sl, ↓wp_sls, ↓wp_mk, ↓wp_app, ↓wp_bsl, ↓wp_bld, ↓wp_box, ↓wp_alc, ↓wp_mkf, ↓wp_nck, ↓wp_ext, ↓wp_call, ↓VOps_nil, ↓VOps_go, ↓VOps_if, ↓evF_tmp, ↓evF_const, ↓evF_func, cv_int, cv_bool, cv_slice, cv_string, cv, Nat.reduceLeDiff, Nat.le_refl, Nat.reduceSub, Int.reduceToNat, Int.reduceLE, Int.reduceLT, not_true_eq_false, not_false_eq_true ]
  refine VCall.of_contract (refnext_c r bs (by omega)) (SleL.pure rfl) fun x hx => ?_
  subst hx
  simp only [↓VW_skip, ↓VW_ops, ↓VW_par, ↓VW_seq, ↓VW_block, ↓VW_exit, ↓VW_ret, ↓VW_cond, ↓seq_normal, ↓seq_exit, ↓seq_ret, ↓blk_normal, ↓blk_exit, ↓blk_ret, ↓get_nil, ↓get_cons, ↓put_some, ↓put_none, ↓put_some', ↓put_none', ↓VTrL, ↓K.wpD, ↓K.wpE, K.xtra, argEnv, ↓retQ, ↓retW, ↓VR.wp, ↓VRs, binOK, binR, unOK, unR, ldOK, stoOK, putA, partA, partOK, fillA, fillOK, partsOf, evs, boundOf, AV.cells, AV.one, AV.laid, Value.oneCell', Nat.reduceEqDiff, Nat.reduceAdd, Nat.reduceMul, ↓reduceIte, true_and, and_true, List.cons_append, List.nil_append, List.length_map, List.length_cons, List.length_nil, List.getElem?_cons_zero, List.getElem?_cons_succ, List.map_cons, List.map_nil, Bool.not_true, Bool.not_false, forall_const, reduceCtorEq, false_implies, List.all_cons, List.all_nil, Bool.and_true, Bool.and_self, ↓idxT_map, ↓idxT_cons, ↓cellT_map, ↓cellT_cons, decide_eq_true_eq, decide_eq_false_iff_not, Int.toNat_natCast, bne_iff_ne, ne_eq, Bool.not_eq_true', bne_eq_false_iff_eq, beq_iff_eq, implies_true, List.getD_cons_zero, List.getD_cons_succ, Bool.false_eq_true, false_or, or_false, true_or, or_true, Int.natCast_nonneg, Int.toNat_zero, Int.toNat_one, List.set_cons_zero, List.set_cons_succ, List.take_zero, List.take_succ_cons, List.take_nil, List.drop_zero, List.drop_succ_cons, List.drop_nil, List.append_nil, Nat.zero_add, Nat.add_zero, Nat.mul_one, Nat.zero_mul, ↓wp_mv, ↓wp_pick, ↓wp_ld, ↓wp_sto, ↓wp_idx, ↓wp_aidx, ↓wp_fad, ↓wp_fld, ↓wp_len, ↓wp_lens, ↓wp_bin, ↓wp_beq, ↓wp_un, ↓wp_conv, ↓wp_sl, ↓wp_sls, ↓wp_mk, ↓wp_app, ↓wp_bsl, ↓wp_bld, ↓wp_box, ↓wp_alc, ↓wp_mkf, ↓wp_nck, ↓wp_ext, ↓wp_call, ↓VOps_nil, ↓VOps_go, ↓VOps_if, ↓evF_tmp, ↓evF_const, ↓evF_func, cv_int, cv_bool, cv_slice, cv_string, cv, Nat.reduceLeDiff, Nat.le_refl, Nat.reduceSub, Int.reduceToNat, Int.reduceLE, Int.reduceLT, not_true_eq_false, not_false_eq_true ]
  refine VW_loop (fun k : Nat => ⟨[(3, .imm 1 (bs.map fun b => ints (nxt b))), (4, .imm 1 (bs.map fun b => ints (nxt b))), (5, I k)], [], 1⟩) (fun k => k ≤ bs.length) (fun k => bs.length - k) 0
    (Wk.mk (by simp [get_cons]) ⟨_, rfl⟩ (Nat.le_refl _)) (by omega) ?_
  intro k hk
  simp only [↓VW_skip, ↓VW_ops, ↓VW_par, ↓VW_seq, ↓VW_block, ↓VW_exit, ↓VW_ret, ↓VW_cond, ↓seq_normal, ↓seq_exit, ↓seq_ret, ↓blk_normal, ↓blk_exit, ↓blk_ret, ↓get_nil, ↓get_cons, ↓put_some, ↓put_none, ↓put_some', ↓put_none', ↓VTrL, ↓K.wpD, ↓K.wpE, K.xtra, argEnv, ↓retQ, ↓retW, ↓VR.wp, ↓VRs, binOK, binR, unOK, unR, ldOK, stoOK, putA, partA, partOK, fillA, fillOK, partsOf, evs, boundOf, AV.cells, AV.one, AV.laid, Value.oneCell', Nat.reduceEqDiff, Nat.reduceAdd, Nat.reduceMul, ↓reduceIte, true_and, and_true, List.cons_append, List.nil_append, List.length_map, List.length_cons, List.length_nil, List.getElem?_cons_zero, List.getElem?_cons_succ, List.map_cons, List.map_nil, Bool.not_true, Bool.not_false, forall_const, reduceCtorEq, false_implies, List.all_cons, List.all_nil, Bool.and_true, Bool.and_self, ↓idxT_map, ↓idxT_cons, ↓cellT_map, ↓cellT_cons, decide_eq_true_eq, decide_eq_false_iff_not, Int.toNat_natCast, bne_iff_ne, ne_eq, Bool.not_eq_true', bne_eq_false_iff_eq, beq_iff_eq, implies_true, List.getD_cons_zero, List.getD_cons_succ, Bool.false_eq_true, false_or, or_false, true_or, or_true, Int.natCast_nonneg, Int.toNat_zero, Int.toNat_one, List.set_cons_zero, List.set_cons_succ, List.take_zero, List.take_succ_cons, List.take_nil, List.drop_zero, List.drop_succ_cons, List.drop_nil, List.append_nil, Nat.zero_add, Nat.add_zero, Nat.mul_one, Nat.zero_mul, ↓wp_mv, ↓wp_pick, ↓wp_ld, ↓wp_sto, ↓wp_idx, ↓wp_aidx, ↓wp_fad, ↓wp_fld, ↓wp_len, ↓wp_lens, ↓wp_bin, ↓wp_beq, ↓wp_un, ↓wp_conv, ↓wp_sl, ↓wp_sls, ↓wp_mk, ↓wp_app, ↓wp_bsl, ↓wp_bld, ↓wp_box, ↓wp_alc, ↓wp_mkf, ↓wp_nck, ↓wp_ext, ↓wp_call, ↓VOps_nil, ↓VOps_go, ↓VOps_if, ↓evF_tmp, ↓evF_const, ↓evF_func, cv_int, cv_bool, cv_slice, cv_string, cv, Nat.reduceLeDiff, Nat.le_refl, Nat.reduceSub, Int.reduceToNat, Int.reduceLE, Int.reduceLT, not_true_eq_false, not_false_eq_true ]
  refine ⟨fun h => ?_, fun h => ⟨_, Frz.pure rfl, rfl⟩⟩
  repeat (refine ⟨by omega, ?_⟩)
  refine VCall.of_contract (list_c _ _ ?_) (SleL.pure rfl) fun x hx => ?_
  · unfold nxt; split
    · simp
    · split <;> simp
  subst hx
  simp only [↓VW_skip, ↓VW_ops, ↓VW_par, ↓VW_seq, ↓VW_block, ↓VW_exit, ↓VW_ret, ↓VW_cond, ↓seq_normal, ↓seq_exit, ↓seq_ret, ↓blk_normal, ↓blk_exit, ↓blk_ret, ↓get_nil, ↓get_cons, ↓put_some, ↓put_none, ↓put_some', ↓put_none', ↓VTrL, ↓K.wpD, ↓K.wpE, K.xtra, argEnv, ↓retQ, ↓retW, ↓VR.wp, ↓VRs, binOK, binR, unOK, unR, ldOK, stoOK, putA, partA, partOK, fillA, fillOK, partsOf, evs, boundOf, AV.cells, AV.one, AV.laid, Value.oneCell', Nat.reduceEqDiff, Nat.reduceAdd, Nat.reduceMul, ↓reduceIte, true_and, and_true, List.cons_append, List.nil_append, List.length_map, List.length_cons, List.length_nil, List.getElem?_cons_zero, List.getElem?_cons_succ, List.map_cons, List.map_nil, Bool.not_true, Bool.not_false, forall_const, reduceCtorEq, false_implies, List.all_cons, List.all_nil, Bool.and_true, Bool.and_self, ↓idxT_map, ↓idxT_cons, ↓cellT_map, ↓cellT_cons, decide_eq_true_eq, decide_eq_false_iff_not, Int.toNat_natCast, bne_iff_ne, ne_eq, Bool.not_eq_true', bne_eq_false_iff_eq, beq_iff_eq, implies_true, List.getD_cons_zero, List.getD_cons_succ, Bool.false_eq_true, false_or, or_false, true_or, or_true, Int.natCast_nonneg, Int.toNat_zero, Int.toNat_one, List.set_cons_zero, List.set_cons_succ, List.take_zero, List.take_succ_cons, List.take_nil, List.drop_zero, List.drop_succ_cons, List.drop_nil, List.append_nil, Nat.zero_add, Nat.add_zero, Nat.mul_one, Nat.zero_mul, ↓wp_mv, ↓wp_pick, ↓wp_ld, ↓wp_sto, ↓wp_idx, ↓wp_aidx, ↓wp_fad, ↓wp_fld, ↓wp_len, ↓wp_lens, ↓wp_bin, ↓wp_beq, ↓wp_un, ↓wp_conv, ↓wp_sl, ↓wp_sls, ↓wp_mk, ↓wp_app, ↓wp_bsl, ↓wp_bld, ↓wp_box, ↓wp_alc, ↓wp_mkf, ↓wp_nck, ↓wp_ext, ↓wp_call, ↓VOps_nil, ↓VOps_go, ↓VOps_if, ↓evF_tmp, ↓evF_const, ↓evF_func, cv_int, cv_bool, cv_slice, cv_string, cv, Nat.reduceLeDiff, Nat.le_refl, Nat.reduceSub, Int.reduceToNat, Int.reduceLE, Int.reduceLT, not_true_eq_false, not_false_eq_true , beq_self_eq_true]
  rw [i64_in (by omega) (by omega)]
  exact ⟨k + 1, by omega, by omega, Wk.mk (by simp [get_cons]) ⟨[], rfl⟩ (Nat.le_refl _)⟩
end Go.Proofs.Ytdiknjjhegckcaa
