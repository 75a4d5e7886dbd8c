/-
  flow: contracts, part 7: the walk depth first, where what it goes out of is listed. No condition.
-/
import Derived.Test.YtdiknjjhegckcaaF6
namespace Go.Proofs.Ytdiknjjhegckcaa
set_option linter.unusedSimpArgs false
set_option linter.unusedVariables false
set_option maxRecDepth 10000
open Go.V Go.V.FL

/-- The list so far: its place, and the objects behind the others. -/
def ordC : List Nat → Nat → AV
  | [], _ => nilv
  | b :: out, so => .ref 8 so 0 (out.length + 1)
def ordT : List Nat → Nat → VObj → List VObj
  | [], _, _ => []
  | b :: out, so, y => [y, ⟨so, 3, 1, I b :: out.map fun b : Nat => I b⟩]

/-- Between two rounds of the walk. -/
structure KO where
  d : D
  junk : List AV
  s : Nat
  nx : Nat
  so : Nat
  y : VObj

/-- The objects amid the walk. -/
abbrev wObjO (g : G) (seen : List Bool) (n sw : Nat) (oc : AV) (tmp : VObj) (cs : List AV) (tl : List VObj) : List VObj :=
  ⟨0, 28, 1, [oc]⟩ :: ⟨1, 4, 1, seen.map B⟩ :: ⟨2, 22, 1, [grph g]⟩ :: ⟨3, 25, 1, [.ref 1 1 0 g.length]⟩ :: ⟨4, 50, 1, [.ref 6 sw 0 n]⟩ :: tmp :: ⟨sw, 52, 2, cs⟩ :: tl

theorem into_o (g : G) (hg : Fine g) (k : Int) (way : List (Nat × Nat)) (seen : List Bool) (hs : seen.length = g.length) (hw : way.length ≤ 2000000) (sw nx : Nat) (tmp : VObj) (junk : List AV) (out : List Nat) (so : Nat) (y : VObj) (C : AV → List VObj → Nat → Prop)
    (no : fits g seen k = false → ∀ r, C r (wObjO g seen way.length sw (ordC out so) tmp (flatW way ++ junk) (ordT out so y)) nx)
    (yes : fits g seen k = true → ∀ r t, C r (wObjO g (seen.set k.toNat true) (way.length + 1) (nx + 1) (ordC out so) tmp (flatW (way ++ [(k.toNat, 0)])) (ordT out so y ++ [t])) (nx + 1 + 1)) :
    VCall Try.prog 31 [I k, .ptr 2 2 0, .ptr 3 3 0, .ptr 4 4 0] (wObjO g seen way.length sw (ordC out so) tmp (flatW way ++ junk) (ordT out so y)) nx C := by
  refine VCall.of_body hmix f_flow_walk_1 (by simp) ?_
  have hlen := hg.len
  have hmx : (20000000 : Nat) ≤ maxLen := by decide
  by_cases h3 : 0 ≤ k
  case neg =>
    have h3' := eq_false h3
    simp only [↓VW_skip, ↓VW_ops, ↓VW_par, ↓VW_seq, ↓VW_block, ↓VW_exit, ↓VW_ret, ↓VW_cond, ↓litE_tmp, ↓litE_const, ↓seq_normal, ↓seq_exit, ↓seq_ret, ↓blk_normal, ↓blk_exit, ↓blk_ret, ↓get_nil, ↓get_cons, ↓put_some, ↓put_none, ↓put_some', ↓put_none', ↓VTrL, ↓K.wpD, ↓K.wpE, K.xtra, argEnv, ↓retQ, ↓retW, ↓VR.wp, ↓VRs, binOK, binR, unOK, unR, ldOK, stoOK, putA, partA, partOK, fillA, fillOK, partsOf, evs, boundOf, AV.cells, AV.one, AV.laid, Value.oneCell', Nat.reduceEqDiff, Nat.reduceAdd, Nat.reduceMul, ↓reduceIte, ↓dreduceIte, true_and, and_true, List.cons_append, List.nil_append, List.length_map, List.length_cons, List.length_nil, List.getElem?_cons_zero, List.getElem?_cons_succ, List.map_cons, List.map_nil, Bool.not_true, Bool.not_false, forall_const, reduceCtorEq, false_implies, List.all_cons, List.all_nil, Bool.and_true, Bool.and_self, ↓idxT_map, ↓idxT_cons, ↓cellT_I, ↓cellT_B, ↓cellT_map, ↓cellT_cons, decide_eq_true_eq, decide_eq_false_iff_not, Int.toNat_natCast, bne_iff_ne, ne_eq, Bool.not_eq_true', Bool.not_eq_false', bne_eq_false_iff_eq, beq_iff_eq, beq_eq_false_iff_ne, implies_true, List.getD_cons_zero, List.getD_cons_succ, Bool.false_eq_true, false_or, or_false, true_or, or_true, Int.natCast_nonneg, Int.toNat_zero, Int.toNat_one, List.set_cons_zero, List.set_cons_succ, List.take_zero, List.take_succ_cons, List.take_nil, List.drop_zero, List.drop_succ_cons, List.drop_nil, List.append_nil, Nat.zero_add, Nat.add_zero, Nat.mul_one, Nat.zero_mul, ↓wp_mv, ↓wp_pick, ↓wp_ld, ↓wp_sto, ↓wp_idx, ↓wp_aidx, ↓wp_fad, ↓wp_fld, ↓wp_len, ↓wp_lens, ↓wp_bin, ↓wp_beq, ↓wp_un, ↓wp_conv, ↓wp_sl, ↓wp_sls, ↓wp_mk, ↓wp_app, ↓wp_bsl, ↓wp_bld, ↓wp_box, ↓wp_alc, ↓wp_mkf, ↓wp_nck, ↓wp_ext, ↓wp_call, ↓VOps_nil, ↓VOps_go, ↓VOps_if, ↓evF_tmp, ↓evF_const, ↓evF_func, cv_int, cv_bool, cv_slice, cv_string, cv, Nat.reduceLeDiff, Nat.reduceLT, Nat.le_refl, Nat.reduceSub, Int.reduceToNat, Int.reduceLE, Int.reduceLT, not_true_eq_false, not_false_eq_true, decide_true, decide_false, Bool.true_eq_false, ↓imp_tt, ↓imp_ft, ↓imp_tf, ↓imp_ff, ↓imp_tnt, ↓imp_fnt, ↓imp_tnf, ↓imp_fnf, addedOK, addedN, addedCells, oldA, Old, oldL, ↓VW_range, ↓wp_ycal, ↓wp_six, ↓wp_ixv, ↓wp_eqv, ↓wp_mx, ↓wp_mn, ↓wp_nilq, ↓wp_nils, ↓wp_b2s, ↓wp_look, ↓wp_mlen, ↓wp_cpy, ↓wp_clr, ↓wp_s2b, ↓wp_mkm, ↓wp_upd, ↓eqT_nil, ↓eqT_int, ↓eqT_bool, ↓eqT_str, ↓b2sT_U8, ↓b2sT_nil, ↓lookT_nil, ↓lookT_cons, cv_agg, cv_nilFunc, mapOK_nil, mapOK_cons, updA_nil , c_flow_walk_1, h3']
    exact no (by simp [fits, h3]) _
  have h3' := eq_true h3
  by_cases h4 : k < g.length
  case neg =>
    have h4' := eq_false h4
    simp only [↓VW_skip, ↓VW_ops, ↓VW_par, ↓VW_seq, ↓VW_block, ↓VW_exit, ↓VW_ret, ↓VW_cond, ↓litE_tmp, ↓litE_const, ↓seq_normal, ↓seq_exit, ↓seq_ret, ↓blk_normal, ↓blk_exit, ↓blk_ret, ↓get_nil, ↓get_cons, ↓put_some, ↓put_none, ↓put_some', ↓put_none', ↓VTrL, ↓K.wpD, ↓K.wpE, K.xtra, argEnv, ↓retQ, ↓retW, ↓VR.wp, ↓VRs, binOK, binR, unOK, unR, ldOK, stoOK, putA, partA, partOK, fillA, fillOK, partsOf, evs, boundOf, AV.cells, AV.one, AV.laid, Value.oneCell', Nat.reduceEqDiff, Nat.reduceAdd, Nat.reduceMul, ↓reduceIte, ↓dreduceIte, true_and, and_true, List.cons_append, List.nil_append, List.length_map, List.length_cons, List.length_nil, List.getElem?_cons_zero, List.getElem?_cons_succ, List.map_cons, List.map_nil, Bool.not_true, Bool.not_false, forall_const, reduceCtorEq, false_implies, List.all_cons, List.all_nil, Bool.and_true, Bool.and_self, ↓idxT_map, ↓idxT_cons, ↓cellT_I, ↓cellT_B, ↓cellT_map, ↓cellT_cons, decide_eq_true_eq, decide_eq_false_iff_not, Int.toNat_natCast, bne_iff_ne, ne_eq, Bool.not_eq_true', Bool.not_eq_false', bne_eq_false_iff_eq, beq_iff_eq, beq_eq_false_iff_ne, implies_true, List.getD_cons_zero, List.getD_cons_succ, Bool.false_eq_true, false_or, or_false, true_or, or_true, Int.natCast_nonneg, Int.toNat_zero, Int.toNat_one, List.set_cons_zero, List.set_cons_succ, List.take_zero, List.take_succ_cons, List.take_nil, List.drop_zero, List.drop_succ_cons, List.drop_nil, List.append_nil, Nat.zero_add, Nat.add_zero, Nat.mul_one, Nat.zero_mul, ↓wp_mv, ↓wp_pick, ↓wp_ld, ↓wp_sto, ↓wp_idx, ↓wp_aidx, ↓wp_fad, ↓wp_fld, ↓wp_len, ↓wp_lens, ↓wp_bin, ↓wp_beq, ↓wp_un, ↓wp_conv, ↓wp_sl, ↓wp_sls, ↓wp_mk, ↓wp_app, ↓wp_bsl, ↓wp_bld, ↓wp_box, ↓wp_alc, ↓wp_mkf, ↓wp_nck, ↓wp_ext, ↓wp_call, ↓VOps_nil, ↓VOps_go, ↓VOps_if, ↓evF_tmp, ↓evF_const, ↓evF_func, cv_int, cv_bool, cv_slice, cv_string, cv, Nat.reduceLeDiff, Nat.reduceLT, Nat.le_refl, Nat.reduceSub, Int.reduceToNat, Int.reduceLE, Int.reduceLT, not_true_eq_false, not_false_eq_true, decide_true, decide_false, Bool.true_eq_false, ↓imp_tt, ↓imp_ft, ↓imp_tf, ↓imp_ff, ↓imp_tnt, ↓imp_fnt, ↓imp_tnf, ↓imp_fnf, addedOK, addedN, addedCells, oldA, Old, oldL, ↓VW_range, ↓wp_ycal, ↓wp_six, ↓wp_ixv, ↓wp_eqv, ↓wp_mx, ↓wp_mn, ↓wp_nilq, ↓wp_nils, ↓wp_b2s, ↓wp_look, ↓wp_mlen, ↓wp_cpy, ↓wp_clr, ↓wp_s2b, ↓wp_mkm, ↓wp_upd, ↓eqT_nil, ↓eqT_int, ↓eqT_bool, ↓eqT_str, ↓b2sT_U8, ↓b2sT_nil, ↓lookT_nil, ↓lookT_cons, cv_agg, cv_nilFunc, mapOK_nil, mapOK_cons, updA_nil , c_flow_walk_1, h3', h4']
    exact no (by simp [fits, h4]) _
  have h4' := eq_true h4
  cases h5 : seen.getD k.toNat default
  case true =>
    simp only [↓VW_skip, ↓VW_ops, ↓VW_par, ↓VW_seq, ↓VW_block, ↓VW_exit, ↓VW_ret, ↓VW_cond, ↓litE_tmp, ↓litE_const, ↓seq_normal, ↓seq_exit, ↓seq_ret, ↓blk_normal, ↓blk_exit, ↓blk_ret, ↓get_nil, ↓get_cons, ↓put_some, ↓put_none, ↓put_some', ↓put_none', ↓VTrL, ↓K.wpD, ↓K.wpE, K.xtra, argEnv, ↓retQ, ↓retW, ↓VR.wp, ↓VRs, binOK, binR, unOK, unR, ldOK, stoOK, putA, partA, partOK, fillA, fillOK, partsOf, evs, boundOf, AV.cells, AV.one, AV.laid, Value.oneCell', Nat.reduceEqDiff, Nat.reduceAdd, Nat.reduceMul, ↓reduceIte, ↓dreduceIte, true_and, and_true, List.cons_append, List.nil_append, List.length_map, List.length_cons, List.length_nil, List.getElem?_cons_zero, List.getElem?_cons_succ, List.map_cons, List.map_nil, Bool.not_true, Bool.not_false, forall_const, reduceCtorEq, false_implies, List.all_cons, List.all_nil, Bool.and_true, Bool.and_self, ↓idxT_map, ↓idxT_cons, ↓cellT_I, ↓cellT_B, ↓cellT_map, ↓cellT_cons, decide_eq_true_eq, decide_eq_false_iff_not, Int.toNat_natCast, bne_iff_ne, ne_eq, Bool.not_eq_true', Bool.not_eq_false', bne_eq_false_iff_eq, beq_iff_eq, beq_eq_false_iff_ne, implies_true, List.getD_cons_zero, List.getD_cons_succ, Bool.false_eq_true, false_or, or_false, true_or, or_true, Int.natCast_nonneg, Int.toNat_zero, Int.toNat_one, List.set_cons_zero, List.set_cons_succ, List.take_zero, List.take_succ_cons, List.take_nil, List.drop_zero, List.drop_succ_cons, List.drop_nil, List.append_nil, Nat.zero_add, Nat.add_zero, Nat.mul_one, Nat.zero_mul, ↓wp_mv, ↓wp_pick, ↓wp_ld, ↓wp_sto, ↓wp_idx, ↓wp_aidx, ↓wp_fad, ↓wp_fld, ↓wp_len, ↓wp_lens, ↓wp_bin, ↓wp_beq, ↓wp_un, ↓wp_conv, ↓wp_sl, ↓wp_sls, ↓wp_mk, ↓wp_app, ↓wp_bsl, ↓wp_bld, ↓wp_box, ↓wp_alc, ↓wp_mkf, ↓wp_nck, ↓wp_ext, ↓wp_call, ↓VOps_nil, ↓VOps_go, ↓VOps_if, ↓evF_tmp, ↓evF_const, ↓evF_func, cv_int, cv_bool, cv_slice, cv_string, cv, Nat.reduceLeDiff, Nat.reduceLT, Nat.le_refl, Nat.reduceSub, Int.reduceToNat, Int.reduceLE, Int.reduceLT, not_true_eq_false, not_false_eq_true, decide_true, decide_false, Bool.true_eq_false, ↓imp_tt, ↓imp_ft, ↓imp_tf, ↓imp_ff, ↓imp_tnt, ↓imp_fnt, ↓imp_tnf, ↓imp_fnf, addedOK, addedN, addedCells, oldA, Old, oldL, ↓VW_range, ↓wp_ycal, ↓wp_six, ↓wp_ixv, ↓wp_eqv, ↓wp_mx, ↓wp_mn, ↓wp_nilq, ↓wp_nils, ↓wp_b2s, ↓wp_look, ↓wp_mlen, ↓wp_cpy, ↓wp_clr, ↓wp_s2b, ↓wp_mkm, ↓wp_upd, ↓eqT_nil, ↓eqT_int, ↓eqT_bool, ↓eqT_str, ↓b2sT_U8, ↓b2sT_nil, ↓lookT_nil, ↓lookT_cons, cv_agg, cv_nilFunc, mapOK_nil, mapOK_cons, updA_nil , c_flow_walk_1, h3', h4', h5]
    repeat (refine And.intro (by omega) ?_)
    exact no (by simp only [fits]; rw [show seen.getD k.toNat true = true by simp only [List.getD] at h5 ⊢; cases e : seen[k.toNat]? <;> simp_all]; simp) _
  case false =>
    have hf : fits g seen k = true := by
      simp only [fits]
      rw [show seen.getD k.toNat true = false by
        have : k.toNat < seen.length := by omega
        simp only [List.getD, List.getElem?_eq_getElem this] at h5 ⊢
        exact h5]
      simp [h3, h4]
    cases out with
    | nil =>
      simp only [ordC, ordT, List.nil_append] at yes ⊢
      simp only [↓VW_skip, ↓VW_ops, ↓VW_par, ↓VW_seq, ↓VW_block, ↓VW_exit, ↓VW_ret, ↓VW_cond, ↓litE_tmp, ↓litE_const, ↓seq_normal, ↓seq_exit, ↓seq_ret, ↓blk_normal, ↓blk_exit, ↓blk_ret, ↓get_nil, ↓get_cons, ↓put_some, ↓put_none, ↓put_some', ↓put_none', ↓VTrL, ↓K.wpD, ↓K.wpE, K.xtra, argEnv, ↓retQ, ↓retW, ↓VR.wp, ↓VRs, binOK, binR, unOK, unR, ldOK, stoOK, putA, partA, partOK, fillA, fillOK, partsOf, evs, boundOf, AV.cells, AV.one, AV.laid, Value.oneCell', Nat.reduceEqDiff, Nat.reduceAdd, Nat.reduceMul, ↓reduceIte, ↓dreduceIte, true_and, and_true, List.cons_append, List.nil_append, List.length_map, List.length_cons, List.length_nil, List.getElem?_cons_zero, List.getElem?_cons_succ, List.map_cons, List.map_nil, Bool.not_true, Bool.not_false, forall_const, reduceCtorEq, false_implies, List.all_cons, List.all_nil, Bool.and_true, Bool.and_self, ↓idxT_map, ↓idxT_cons, ↓cellT_I, ↓cellT_B, ↓cellT_map, ↓cellT_cons, decide_eq_true_eq, decide_eq_false_iff_not, Int.toNat_natCast, bne_iff_ne, ne_eq, Bool.not_eq_true', Bool.not_eq_false', bne_eq_false_iff_eq, beq_iff_eq, beq_eq_false_iff_ne, implies_true, List.getD_cons_zero, List.getD_cons_succ, Bool.false_eq_true, false_or, or_false, true_or, or_true, Int.natCast_nonneg, Int.toNat_zero, Int.toNat_one, List.set_cons_zero, List.set_cons_succ, List.take_zero, List.take_succ_cons, List.take_nil, List.drop_zero, List.drop_succ_cons, List.drop_nil, List.append_nil, Nat.zero_add, Nat.add_zero, Nat.mul_one, Nat.zero_mul, ↓wp_mv, ↓wp_pick, ↓wp_ld, ↓wp_sto, ↓wp_idx, ↓wp_aidx, ↓wp_fad, ↓wp_fld, ↓wp_len, ↓wp_lens, ↓wp_bin, ↓wp_beq, ↓wp_un, ↓wp_conv, ↓wp_sl, ↓wp_sls, ↓wp_mk, ↓wp_app, ↓wp_bsl, ↓wp_bld, ↓wp_box, ↓wp_alc, ↓wp_mkf, ↓wp_nck, ↓wp_ext, ↓wp_call, ↓VOps_nil, ↓VOps_go, ↓VOps_if, ↓evF_tmp, ↓evF_const, ↓evF_func, cv_int, cv_bool, cv_slice, cv_string, cv, Nat.reduceLeDiff, Nat.reduceLT, Nat.le_refl, Nat.reduceSub, Int.reduceToNat, Int.reduceLE, Int.reduceLT, not_true_eq_false, not_false_eq_true, decide_true, decide_false, Bool.true_eq_false, ↓imp_tt, ↓imp_ft, ↓imp_tf, ↓imp_ff, ↓imp_tnt, ↓imp_fnt, ↓imp_tnf, ↓imp_fnf, addedOK, addedN, addedCells, oldA, Old, oldL, ↓VW_range, ↓wp_ycal, ↓wp_six, ↓wp_ixv, ↓wp_eqv, ↓wp_mx, ↓wp_mn, ↓wp_nilq, ↓wp_nils, ↓wp_b2s, ↓wp_look, ↓wp_mlen, ↓wp_cpy, ↓wp_clr, ↓wp_s2b, ↓wp_mkm, ↓wp_upd, ↓eqT_nil, ↓eqT_int, ↓eqT_bool, ↓eqT_str, ↓b2sT_U8, ↓b2sT_nil, ↓lookT_nil, ↓lookT_cons, cv_agg, cv_nilFunc, mapOK_nil, mapOK_cons, updA_nil , c_flow_walk_1, h3', h4', h5]
      repeat (refine And.intro (by omega) ?_)
      have := yes hf (.tup []) ⟨nx, 52, 2, [I k, I 0]⟩
      rw [flatW_append] at this
      rw [List.take_left' (by rw [flatW_length]; omega), show (AV.val (Value.bool true)) = B true from rfl, set_map B]
      simp only [flatW, Int.toNat_of_nonneg h3] at this
      exact this
    | cons b out =>
      simp only [ordC, ordT, List.cons_append, List.nil_append] at yes ⊢
      simp only [↓VW_skip, ↓VW_ops, ↓VW_par, ↓VW_seq, ↓VW_block, ↓VW_exit, ↓VW_ret, ↓VW_cond, ↓litE_tmp, ↓litE_const, ↓seq_normal, ↓seq_exit, ↓seq_ret, ↓blk_normal, ↓blk_exit, ↓blk_ret, ↓get_nil, ↓get_cons, ↓put_some, ↓put_none, ↓put_some', ↓put_none', ↓VTrL, ↓K.wpD, ↓K.wpE, K.xtra, argEnv, ↓retQ, ↓retW, ↓VR.wp, ↓VRs, binOK, binR, unOK, unR, ldOK, stoOK, putA, partA, partOK, fillA, fillOK, partsOf, evs, boundOf, AV.cells, AV.one, AV.laid, Value.oneCell', Nat.reduceEqDiff, Nat.reduceAdd, Nat.reduceMul, ↓reduceIte, ↓dreduceIte, true_and, and_true, List.cons_append, List.nil_append, List.length_map, List.length_cons, List.length_nil, List.getElem?_cons_zero, List.getElem?_cons_succ, List.map_cons, List.map_nil, Bool.not_true, Bool.not_false, forall_const, reduceCtorEq, false_implies, List.all_cons, List.all_nil, Bool.and_true, Bool.and_self, ↓idxT_map, ↓idxT_cons, ↓cellT_I, ↓cellT_B, ↓cellT_map, ↓cellT_cons, decide_eq_true_eq, decide_eq_false_iff_not, Int.toNat_natCast, bne_iff_ne, ne_eq, Bool.not_eq_true', Bool.not_eq_false', bne_eq_false_iff_eq, beq_iff_eq, beq_eq_false_iff_ne, implies_true, List.getD_cons_zero, List.getD_cons_succ, Bool.false_eq_true, false_or, or_false, true_or, or_true, Int.natCast_nonneg, Int.toNat_zero, Int.toNat_one, List.set_cons_zero, List.set_cons_succ, List.take_zero, List.take_succ_cons, List.take_nil, List.drop_zero, List.drop_succ_cons, List.drop_nil, List.append_nil, Nat.zero_add, Nat.add_zero, Nat.mul_one, Nat.zero_mul, ↓wp_mv, ↓wp_pick, ↓wp_ld, ↓wp_sto, ↓wp_idx, ↓wp_aidx, ↓wp_fad, ↓wp_fld, ↓wp_len, ↓wp_lens, ↓wp_bin, ↓wp_beq, ↓wp_un, ↓wp_conv, ↓wp_sl, ↓wp_sls, ↓wp_mk, ↓wp_app, ↓wp_bsl, ↓wp_bld, ↓wp_box, ↓wp_alc, ↓wp_mkf, ↓wp_nck, ↓wp_ext, ↓wp_call, ↓VOps_nil, ↓VOps_go, ↓VOps_if, ↓evF_tmp, ↓evF_const, ↓evF_func, cv_int, cv_bool, cv_slice, cv_string, cv, Nat.reduceLeDiff, Nat.reduceLT, Nat.le_refl, Nat.reduceSub, Int.reduceToNat, Int.reduceLE, Int.reduceLT, not_true_eq_false, not_false_eq_true, decide_true, decide_false, Bool.true_eq_false, ↓imp_tt, ↓imp_ft, ↓imp_tf, ↓imp_ff, ↓imp_tnt, ↓imp_fnt, ↓imp_tnf, ↓imp_fnf, addedOK, addedN, addedCells, oldA, Old, oldL, ↓VW_range, ↓wp_ycal, ↓wp_six, ↓wp_ixv, ↓wp_eqv, ↓wp_mx, ↓wp_mn, ↓wp_nilq, ↓wp_nils, ↓wp_b2s, ↓wp_look, ↓wp_mlen, ↓wp_cpy, ↓wp_clr, ↓wp_s2b, ↓wp_mkm, ↓wp_upd, ↓eqT_nil, ↓eqT_int, ↓eqT_bool, ↓eqT_str, ↓b2sT_U8, ↓b2sT_nil, ↓lookT_nil, ↓lookT_cons, cv_agg, cv_nilFunc, mapOK_nil, mapOK_cons, updA_nil , c_flow_walk_1, h3', h4', h5]
      repeat (refine And.intro (by omega) ?_)
      have := yes hf (.tup []) ⟨nx, 52, 2, [I k, I 0]⟩
      rw [flatW_append] at this
      rw [List.take_left' (by rw [flatW_length]; omega), show (AV.val (Value.bool true)) = B true from rfl, set_map B]
      simp only [flatW, Int.toNat_of_nonneg h3] at this
      exact this

end Go.Proofs.Ytdiknjjhegckcaa
