/-
  flow: contracts, part 11: the nearest block that is both, or stands above both. No condition.
-/
import Derived.Test.YtdiknjjhegckcaaF5
import Derived.Test.YtdiknjjhegckcaaFP
namespace Go.Proofs.Ytdiknjjhegckcaa
set_option linter.unusedSimpArgs false
set_option linter.unusedVariables false
set_option maxRecDepth 10000
open Go.V Go.V.FL

/-- The tree and the ranks as lists. -/
structure Tb (g : G) (r : Nat → Nat) (T : Tre) (ab rk : List Int) : Prop where
  la : ab.length = g.length
  lr : rk.length = g.length
  abv : ∀ k, k < g.length → ab.getD k default = enc (T k)
  rkv : ∀ k, Rd g k → rk.getD k default = (r k : Int)
  rn : ∀ k, k < g.length → ¬ Rd g k → rk.getD k default = -1

theorem meetN_c {g : G} {r : Nat → Nat} {T : Tre} {i : Nat} {ab rk : List Int} (hg : Fine g) (hc : Cx g r) (hI : Inv g r T i) (ht : Tb g r T ab rk) (a b : Nat) (ha : Rd g a) (qa : a = 0 ∨ T a ≠ none) (hb : Rd g b) (qb : b = 0 ∨ T b ≠ none) :
    ContractN Try.prog 29 [ints ab, ints rk, I a, I b] (fun x => ∃ m : Nat, x = I m ∧ Rd g m ∧ (m = 0 ∨ T m ≠ none) ∧ ∀ y, Anc T y m ↔ Anc T y a ∧ Anc T y b) := by
  refine ContractN.of_call (VCall.of_body hmix f_flow_meet (by simp) ?_)
  have hlen := hg.len
  simp only [↓VW_skip, ↓VW_ops, ↓VW_par, ↓VW_seq, ↓VW_block, ↓VW_exit, ↓VW_ret, ↓VW_cond, ↓litE_tmp, ↓litE_const, ↓seq_normal, ↓seq_exit, ↓seq_ret, ↓blk_normal, ↓blk_exit, ↓blk_ret, ↓get_nil, ↓get_cons, ↓put_some, ↓put_none, ↓put_some', ↓put_none', ↓VTrL, ↓K.wpD, ↓K.wpE, K.xtra, argEnv, ↓retQ, ↓retW, ↓VR.wp, ↓VRs, binOK, binR, unOK, unR, ldOK, stoOK, putA, partA, partOK, fillA, fillOK, partsOf, evs, boundOf, AV.cells, AV.one, AV.laid, Value.oneCell', Nat.reduceEqDiff, Nat.reduceAdd, Nat.reduceMul, ↓reduceIte, ↓dreduceIte, true_and, and_true, List.cons_append, List.nil_append, List.length_map, List.length_cons, List.length_nil, List.getElem?_cons_zero, List.getElem?_cons_succ, List.map_cons, List.map_nil, Bool.not_true, Bool.not_false, forall_const, reduceCtorEq, false_implies, List.all_cons, List.all_nil, Bool.and_true, Bool.and_self, ↓idxT_map, ↓idxT_cons, ↓cellT_I, ↓cellT_B, ↓cellT_map, ↓cellT_cons, decide_eq_true_eq, decide_eq_false_iff_not, Int.toNat_natCast, bne_iff_ne, ne_eq, Bool.not_eq_true', Bool.not_eq_false', bne_eq_false_iff_eq, beq_iff_eq, beq_eq_false_iff_ne, implies_true, List.getD_cons_zero, List.getD_cons_succ, Bool.false_eq_true, false_or, or_false, true_or, or_true, Int.natCast_nonneg, Int.toNat_zero, Int.toNat_one, List.set_cons_zero, List.set_cons_succ, List.take_zero, List.take_succ_cons, List.take_nil, List.drop_zero, List.drop_succ_cons, List.drop_nil, List.append_nil, Nat.zero_add, Nat.add_zero, Nat.mul_one, Nat.zero_mul, ↓wp_mv, ↓wp_pick, ↓wp_ld, ↓wp_sto, ↓wp_idx, ↓wp_aidx, ↓wp_fad, ↓wp_fld, ↓wp_len, ↓wp_lens, ↓wp_bin, ↓wp_beq, ↓wp_un, ↓wp_conv, ↓wp_sl, ↓wp_sls, ↓wp_mk, ↓wp_app, ↓wp_bsl, ↓wp_bld, ↓wp_box, ↓wp_alc, ↓wp_mkf, ↓wp_nck, ↓wp_ext, ↓wp_call, ↓VOps_nil, ↓VOps_go, ↓VOps_if, ↓evF_tmp, ↓evF_const, ↓evF_func, cv_int, cv_bool, cv_slice, cv_string, cv, Nat.reduceLeDiff, Nat.reduceLT, Nat.le_refl, Nat.reduceSub, Int.reduceToNat, Int.reduceLE, Int.reduceLT, not_true_eq_false, not_false_eq_true, decide_true, decide_false, Bool.true_eq_false, ↓imp_tt, ↓imp_ft, ↓imp_tf, ↓imp_ff, ↓imp_tnt, ↓imp_fnt, ↓imp_tnf, ↓imp_fnf, addedOK, addedN, addedCells, oldA, Old, oldL, ↓VW_range, ↓wp_ycal, ↓wp_six, ↓wp_ixv, ↓wp_eqv, ↓wp_mx, ↓wp_mn, ↓wp_nilq, ↓wp_nils, ↓wp_b2s, ↓wp_look, ↓wp_mlen, ↓wp_cpy, ↓wp_clr, ↓wp_s2b, ↓wp_mkm, ↓wp_upd, ↓eqT_nil, ↓eqT_int, ↓eqT_bool, ↓eqT_str, ↓b2sT_U8, ↓b2sT_nil, ↓lookT_nil, ↓lookT_cons, cv_agg, cv_nilFunc, mapOK_nil, mapOK_cons, updA_nil , c_flow_meet]
  refine VW_loop (fun q : Nat × Nat => ⟨[(0, ints ab), (1, ints rk), (2, I q.1), (3, I q.2)], [], 0⟩)
    (fun q => Rd g q.1 ∧ Rd g q.2 ∧ (q.1 = 0 ∨ T q.1 ≠ none) ∧ (q.2 = 0 ∨ T q.2 ≠ none) ∧ ∀ y, (Anc T y q.1 ∧ Anc T y q.2) ↔ (Anc T y a ∧ Anc T y b)) (fun q => r q.1 + r q.2) (a, b)
    (Wk.mk (by simp [get_cons]) ⟨[], rfl⟩ (Nat.le_refl _)) ⟨ha, hb, qa, qb, fun y => Iff.rfl⟩ ?_
  rintro ⟨x, y⟩ ⟨hx, hy, qx, qy, hxy⟩
  simp only at hx hy qx qy hxy
  have hxl := hx.lt
  have hyl := hy.lt
  have lr := ht.lr
  have la := ht.la
  by_cases he : x = y
  · have he' := eq_true (show (x : Int) = (y : Int) by omega)
    simp only [↓VW_skip, ↓VW_ops, ↓VW_par, ↓VW_seq, ↓VW_block, ↓VW_exit, ↓VW_ret, ↓VW_cond, ↓litE_tmp, ↓litE_const, ↓seq_normal, ↓seq_exit, ↓seq_ret, ↓blk_normal, ↓blk_exit, ↓blk_ret, ↓get_nil, ↓get_cons, ↓put_some, ↓put_none, ↓put_some', ↓put_none', ↓VTrL, ↓K.wpD, ↓K.wpE, K.xtra, argEnv, ↓retQ, ↓retW, ↓VR.wp, ↓VRs, binOK, binR, unOK, unR, ldOK, stoOK, putA, partA, partOK, fillA, fillOK, partsOf, evs, boundOf, AV.cells, AV.one, AV.laid, Value.oneCell', Nat.reduceEqDiff, Nat.reduceAdd, Nat.reduceMul, ↓reduceIte, ↓dreduceIte, true_and, and_true, List.cons_append, List.nil_append, List.length_map, List.length_cons, List.length_nil, List.getElem?_cons_zero, List.getElem?_cons_succ, List.map_cons, List.map_nil, Bool.not_true, Bool.not_false, forall_const, reduceCtorEq, false_implies, List.all_cons, List.all_nil, Bool.and_true, Bool.and_self, ↓idxT_map, ↓idxT_cons, ↓cellT_I, ↓cellT_B, ↓cellT_map, ↓cellT_cons, decide_eq_true_eq, decide_eq_false_iff_not, Int.toNat_natCast, bne_iff_ne, ne_eq, Bool.not_eq_true', Bool.not_eq_false', bne_eq_false_iff_eq, beq_iff_eq, beq_eq_false_iff_ne, implies_true, List.getD_cons_zero, List.getD_cons_succ, Bool.false_eq_true, false_or, or_false, true_or, or_true, Int.natCast_nonneg, Int.toNat_zero, Int.toNat_one, List.set_cons_zero, List.set_cons_succ, List.take_zero, List.take_succ_cons, List.take_nil, List.drop_zero, List.drop_succ_cons, List.drop_nil, List.append_nil, Nat.zero_add, Nat.add_zero, Nat.mul_one, Nat.zero_mul, ↓wp_mv, ↓wp_pick, ↓wp_ld, ↓wp_sto, ↓wp_idx, ↓wp_aidx, ↓wp_fad, ↓wp_fld, ↓wp_len, ↓wp_lens, ↓wp_bin, ↓wp_beq, ↓wp_un, ↓wp_conv, ↓wp_sl, ↓wp_sls, ↓wp_mk, ↓wp_app, ↓wp_bsl, ↓wp_bld, ↓wp_box, ↓wp_alc, ↓wp_mkf, ↓wp_nck, ↓wp_ext, ↓wp_call, ↓VOps_nil, ↓VOps_go, ↓VOps_if, ↓evF_tmp, ↓evF_const, ↓evF_func, cv_int, cv_bool, cv_slice, cv_string, cv, Nat.reduceLeDiff, Nat.reduceLT, Nat.le_refl, Nat.reduceSub, Int.reduceToNat, Int.reduceLE, Int.reduceLT, not_true_eq_false, not_false_eq_true, decide_true, decide_false, Bool.true_eq_false, ↓imp_tt, ↓imp_ft, ↓imp_tf, ↓imp_ff, ↓imp_tnt, ↓imp_fnt, ↓imp_tnf, ↓imp_fnf, addedOK, addedN, addedCells, oldA, Old, oldL, ↓VW_range, ↓wp_ycal, ↓wp_six, ↓wp_ixv, ↓wp_eqv, ↓wp_mx, ↓wp_mn, ↓wp_nilq, ↓wp_nils, ↓wp_b2s, ↓wp_look, ↓wp_mlen, ↓wp_cpy, ↓wp_clr, ↓wp_s2b, ↓wp_mkm, ↓wp_upd, ↓eqT_nil, ↓eqT_int, ↓eqT_bool, ↓eqT_str, ↓b2sT_U8, ↓b2sT_nil, ↓lookT_nil, ↓lookT_cons, cv_agg, cv_nilFunc, mapOK_nil, mapOK_cons, updA_nil , he']
    refine ⟨_, FrzN.val, x, rfl, hx, qx, fun z => ?_⟩
    rw [← hxy z, he]; simp
  have he' := eq_false (show ¬ (x : Int) = (y : Int) by omega)
  have rx := ht.rkv x hx
  have ry := ht.rkv y hy
  by_cases hlt : r y < r x
  · have hlt' := eq_true (show (r y : Int) < (r x : Int) by omega)
    have hx0 : x ≠ 0 := fun e => by subst e; rw [hc.r0] at hlt; omega
    obtain ⟨u, hu⟩ := Option.ne_none_iff_exists'.1 (qx.resolve_left hx0)
    have hab := ht.abv x hxl
    rw [hu] at hab
    obtain ⟨h1, h2, h3, h4⟩ := hI.tr x u hu
    simp only [↓VW_skip, ↓VW_ops, ↓VW_par, ↓VW_seq, ↓VW_block, ↓VW_exit, ↓VW_ret, ↓VW_cond, ↓litE_tmp, ↓litE_const, ↓seq_normal, ↓seq_exit, ↓seq_ret, ↓blk_normal, ↓blk_exit, ↓blk_ret, ↓get_nil, ↓get_cons, ↓put_some, ↓put_none, ↓put_some', ↓put_none', ↓VTrL, ↓K.wpD, ↓K.wpE, K.xtra, argEnv, ↓retQ, ↓retW, ↓VR.wp, ↓VRs, binOK, binR, unOK, unR, ldOK, stoOK, putA, partA, partOK, fillA, fillOK, partsOf, evs, boundOf, AV.cells, AV.one, AV.laid, Value.oneCell', Nat.reduceEqDiff, Nat.reduceAdd, Nat.reduceMul, ↓reduceIte, ↓dreduceIte, true_and, and_true, List.cons_append, List.nil_append, List.length_map, List.length_cons, List.length_nil, List.getElem?_cons_zero, List.getElem?_cons_succ, List.map_cons, List.map_nil, Bool.not_true, Bool.not_false, forall_const, reduceCtorEq, false_implies, List.all_cons, List.all_nil, Bool.and_true, Bool.and_self, ↓idxT_map, ↓idxT_cons, ↓cellT_I, ↓cellT_B, ↓cellT_map, ↓cellT_cons, decide_eq_true_eq, decide_eq_false_iff_not, Int.toNat_natCast, bne_iff_ne, ne_eq, Bool.not_eq_true', Bool.not_eq_false', bne_eq_false_iff_eq, beq_iff_eq, beq_eq_false_iff_ne, implies_true, List.getD_cons_zero, List.getD_cons_succ, Bool.false_eq_true, false_or, or_false, true_or, or_true, Int.natCast_nonneg, Int.toNat_zero, Int.toNat_one, List.set_cons_zero, List.set_cons_succ, List.take_zero, List.take_succ_cons, List.take_nil, List.drop_zero, List.drop_succ_cons, List.drop_nil, List.append_nil, Nat.zero_add, Nat.add_zero, Nat.mul_one, Nat.zero_mul, ↓wp_mv, ↓wp_pick, ↓wp_ld, ↓wp_sto, ↓wp_idx, ↓wp_aidx, ↓wp_fad, ↓wp_fld, ↓wp_len, ↓wp_lens, ↓wp_bin, ↓wp_beq, ↓wp_un, ↓wp_conv, ↓wp_sl, ↓wp_sls, ↓wp_mk, ↓wp_app, ↓wp_bsl, ↓wp_bld, ↓wp_box, ↓wp_alc, ↓wp_mkf, ↓wp_nck, ↓wp_ext, ↓wp_call, ↓VOps_nil, ↓VOps_go, ↓VOps_if, ↓evF_tmp, ↓evF_const, ↓evF_func, cv_int, cv_bool, cv_slice, cv_string, cv, Nat.reduceLeDiff, Nat.reduceLT, Nat.le_refl, Nat.reduceSub, Int.reduceToNat, Int.reduceLE, Int.reduceLT, not_true_eq_false, not_false_eq_true, decide_true, decide_false, Bool.true_eq_false, ↓imp_tt, ↓imp_ft, ↓imp_tf, ↓imp_ff, ↓imp_tnt, ↓imp_fnt, ↓imp_tnf, ↓imp_fnf, addedOK, addedN, addedCells, oldA, Old, oldL, ↓VW_range, ↓wp_ycal, ↓wp_six, ↓wp_ixv, ↓wp_eqv, ↓wp_mx, ↓wp_mn, ↓wp_nilq, ↓wp_nils, ↓wp_b2s, ↓wp_look, ↓wp_mlen, ↓wp_cpy, ↓wp_clr, ↓wp_s2b, ↓wp_mkm, ↓wp_upd, ↓eqT_nil, ↓eqT_int, ↓eqT_bool, ↓eqT_str, ↓b2sT_U8, ↓b2sT_nil, ↓lookT_nil, ↓lookT_cons, cv_agg, cv_nilFunc, mapOK_nil, mapOK_cons, updA_nil , he', Int.toNat_natCast, rx, ry, hlt', hab, enc]
    repeat (refine And.intro (by omega) ?_)
    refine ⟨(u, y), ⟨h2, hy, h4, qy, fun z => ?_⟩, by simp only; omega, Wk.mk (by simp [get_cons]) ⟨[], rfl⟩ (Nat.le_refl _)⟩
    rw [← hxy z]
    constructor
    · exact fun ⟨k1, k2⟩ => ⟨.up hu k1, k2⟩
    · rintro ⟨k1, k2⟩
      refine ⟨?_, k2⟩
      cases k1 with
      | refl => have := k2.rank hI; omega
      | up e k1 => rw [hu] at e; cases e; exact k1
  · have hlt' := eq_false (show ¬ (r y : Int) < (r x : Int) by omega)
    have hne : r x ≠ r y := fun e => he (hc.inj _ _ hx hy e)
    have hy0 : y ≠ 0 := fun e => by subst e; rw [hc.r0] at hlt; have := hc.r0; omega
    obtain ⟨u, hu⟩ := Option.ne_none_iff_exists'.1 (qy.resolve_left hy0)
    have hab := ht.abv y hyl
    rw [hu] at hab
    obtain ⟨h1, h2, h3, h4⟩ := hI.tr y u hu
    simp only [↓VW_skip, ↓VW_ops, ↓VW_par, ↓VW_seq, ↓VW_block, ↓VW_exit, ↓VW_ret, ↓VW_cond, ↓litE_tmp, ↓litE_const, ↓seq_normal, ↓seq_exit, ↓seq_ret, ↓blk_normal, ↓blk_exit, ↓blk_ret, ↓get_nil, ↓get_cons, ↓put_some, ↓put_none, ↓put_some', ↓put_none', ↓VTrL, ↓K.wpD, ↓K.wpE, K.xtra, argEnv, ↓retQ, ↓retW, ↓VR.wp, ↓VRs, binOK, binR, unOK, unR, ldOK, stoOK, putA, partA, partOK, fillA, fillOK, partsOf, evs, boundOf, AV.cells, AV.one, AV.laid, Value.oneCell', Nat.reduceEqDiff, Nat.reduceAdd, Nat.reduceMul, ↓reduceIte, ↓dreduceIte, true_and, and_true, List.cons_append, List.nil_append, List.length_map, List.length_cons, List.length_nil, List.getElem?_cons_zero, List.getElem?_cons_succ, List.map_cons, List.map_nil, Bool.not_true, Bool.not_false, forall_const, reduceCtorEq, false_implies, List.all_cons, List.all_nil, Bool.and_true, Bool.and_self, ↓idxT_map, ↓idxT_cons, ↓cellT_I, ↓cellT_B, ↓cellT_map, ↓cellT_cons, decide_eq_true_eq, decide_eq_false_iff_not, Int.toNat_natCast, bne_iff_ne, ne_eq, Bool.not_eq_true', Bool.not_eq_false', bne_eq_false_iff_eq, beq_iff_eq, beq_eq_false_iff_ne, implies_true, List.getD_cons_zero, List.getD_cons_succ, Bool.false_eq_true, false_or, or_false, true_or, or_true, Int.natCast_nonneg, Int.toNat_zero, Int.toNat_one, List.set_cons_zero, List.set_cons_succ, List.take_zero, List.take_succ_cons, List.take_nil, List.drop_zero, List.drop_succ_cons, List.drop_nil, List.append_nil, Nat.zero_add, Nat.add_zero, Nat.mul_one, Nat.zero_mul, ↓wp_mv, ↓wp_pick, ↓wp_ld, ↓wp_sto, ↓wp_idx, ↓wp_aidx, ↓wp_fad, ↓wp_fld, ↓wp_len, ↓wp_lens, ↓wp_bin, ↓wp_beq, ↓wp_un, ↓wp_conv, ↓wp_sl, ↓wp_sls, ↓wp_mk, ↓wp_app, ↓wp_bsl, ↓wp_bld, ↓wp_box, ↓wp_alc, ↓wp_mkf, ↓wp_nck, ↓wp_ext, ↓wp_call, ↓VOps_nil, ↓VOps_go, ↓VOps_if, ↓evF_tmp, ↓evF_const, ↓evF_func, cv_int, cv_bool, cv_slice, cv_string, cv, Nat.reduceLeDiff, Nat.reduceLT, Nat.le_refl, Nat.reduceSub, Int.reduceToNat, Int.reduceLE, Int.reduceLT, not_true_eq_false, not_false_eq_true, decide_true, decide_false, Bool.true_eq_false, ↓imp_tt, ↓imp_ft, ↓imp_tf, ↓imp_ff, ↓imp_tnt, ↓imp_fnt, ↓imp_tnf, ↓imp_fnf, addedOK, addedN, addedCells, oldA, Old, oldL, ↓VW_range, ↓wp_ycal, ↓wp_six, ↓wp_ixv, ↓wp_eqv, ↓wp_mx, ↓wp_mn, ↓wp_nilq, ↓wp_nils, ↓wp_b2s, ↓wp_look, ↓wp_mlen, ↓wp_cpy, ↓wp_clr, ↓wp_s2b, ↓wp_mkm, ↓wp_upd, ↓eqT_nil, ↓eqT_int, ↓eqT_bool, ↓eqT_str, ↓b2sT_U8, ↓b2sT_nil, ↓lookT_nil, ↓lookT_cons, cv_agg, cv_nilFunc, mapOK_nil, mapOK_cons, updA_nil , he', Int.toNat_natCast, rx, ry, hlt', hab, enc]
    repeat (refine And.intro (by omega) ?_)
    refine ⟨(x, u), ⟨hx, h2, qx, h4, fun z => ?_⟩, by simp only; omega, Wk.mk (by simp [get_cons]) ⟨[], rfl⟩ (Nat.le_refl _)⟩
    rw [← hxy z]
    constructor
    · exact fun ⟨k1, k2⟩ => ⟨k1, .up hu k2⟩
    · rintro ⟨k1, k2⟩
      refine ⟨k1, ?_⟩
      cases k2 with
      | refl => have := k1.rank hI; omega
      | up e k2 => rw [hu] at e; cases e; exact k2
end Go.Proofs.Ytdiknjjhegckcaa
