/-
  flow: contracts, part 10: the document's order. No condition.
-/
import Derived.Test.YtdiknjjhegckcaaF9
namespace Go.Proofs.Ytdiknjjhegckcaa
set_option linter.unusedSimpArgs false
set_option linter.unusedVariables false
set_option maxRecDepth 10000
open Go.V Go.V.FL

theorem dfs_exists (g : G) : ∀ (n : Nat) (d : D), meas g d ≤ n → ∃ d', Dfs g d d' := by
  intro n
  induction n with
  | zero =>
    intro d h
    rcases List.eq_nil_or_concat d.way with hw | ⟨ws, ⟨b, i⟩, hw⟩
    · exact ⟨d, hw, 0, rfl⟩
    · obtain ⟨way, seen, out⟩ := d
      simp only [List.concat_eq_append] at hw
      subst hw
      have := dstep_meas (g := g) (ws := ws) (b := b) (i := i) (seen := seen) (out := out)
      omega
  | succ n ih =>
    intro d h
    rcases List.eq_nil_or_concat d.way with hw | ⟨ws, ⟨b, i⟩, hw⟩
    · exact ⟨d, hw, 0, rfl⟩
    · obtain ⟨way, seen, out⟩ := d
      simp only [List.concat_eq_append] at hw
      subst hw
      have := dstep_meas (g := g) (ws := ws) (b := b) (i := i) (seen := seen) (out := out)
      obtain ⟨d', h1, m, h2⟩ := ih (dstep g ⟨ws ++ [(b, i)], seen, out⟩) (by omega)
      exact ⟨d', h1, m + 1, by rw [h2]; rfl⟩

abbrev fstL (w : List (Nat × Nat)) : List Int := w.map fun p => (p.1 : Int)
abbrev sndL (w : List (Nat × Nat)) : List Int := w.map fun p => (p.2 : Int)

/-- Between two rounds. -/
structure KR where
  d : D
  j1 : List Int
  j2 : List Int
  s1 : Nat
  s2 : Nat
  nx : Nat

theorem reforder_c (g : G) (hg : Fine g) (d' : D) (hd' : Dfs g (into g 0 ⟨[], List.replicate g.length false, []⟩) d') : Contract Try.prog 17 [grph g] (fun r => r = ints (ordL d')) := by
  refine Contract.of_call (VCall.of_body hmix f_scref26_Order (by simp) ?_)
  have hlen := hg.len
  by_cases h0 : g.length = 0
  · have hg0 : g = [] := List.eq_nil_of_length_eq_zero h0
    subst hg0
    have e : d' = ⟨[], [], []⟩ := hd'.unique ⟨rfl, 0, rfl⟩
    subst e
    simp only [↓VW_skip, ↓VW_ops, ↓VW_par, ↓VW_seq, ↓VW_block, ↓VW_exit, ↓VW_ret, ↓VW_cond, ↓litE_tmp, ↓litE_const, ↓seq_normal, ↓seq_exit, ↓seq_ret, ↓blk_normal, ↓blk_exit, ↓blk_ret, ↓get_nil, ↓get_cons, ↓put_some, ↓put_none, ↓put_some', ↓put_none', ↓VTrL, ↓K.wpD, ↓K.wpE, K.xtra, argEnv, ↓retQ, ↓retW, ↓VR.wp, ↓VRs, binOK, binR, unOK, unR, ldOK, stoOK, putA, partA, partOK, fillA, fillOK, partsOf, evs, boundOf, AV.cells, AV.one, AV.laid, Value.oneCell', Nat.reduceEqDiff, Nat.reduceAdd, Nat.reduceMul, ↓reduceIte, ↓dreduceIte, true_and, and_true, List.cons_append, List.nil_append, List.length_map, List.length_cons, List.length_nil, List.getElem?_cons_zero, List.getElem?_cons_succ, List.map_cons, List.map_nil, Bool.not_true, Bool.not_false, forall_const, reduceCtorEq, false_implies, List.all_cons, List.all_nil, Bool.and_true, Bool.and_self, ↓idxT_map, ↓idxT_cons, ↓cellT_I, ↓cellT_B, ↓cellT_map, ↓cellT_cons, decide_eq_true_eq, decide_eq_false_iff_not, Int.toNat_natCast, bne_iff_ne, ne_eq, Bool.not_eq_true', Bool.not_eq_false', bne_eq_false_iff_eq, beq_iff_eq, beq_eq_false_iff_ne, implies_true, List.getD_cons_zero, List.getD_cons_succ, Bool.false_eq_true, false_or, or_false, true_or, or_true, Int.natCast_nonneg, Int.toNat_zero, Int.toNat_one, List.set_cons_zero, List.set_cons_succ, List.take_zero, List.take_succ_cons, List.take_nil, List.drop_zero, List.drop_succ_cons, List.drop_nil, List.append_nil, Nat.zero_add, Nat.add_zero, Nat.mul_one, Nat.zero_mul, ↓wp_mv, ↓wp_pick, ↓wp_ld, ↓wp_sto, ↓wp_idx, ↓wp_aidx, ↓wp_fad, ↓wp_fld, ↓wp_len, ↓wp_lens, ↓wp_bin, ↓wp_beq, ↓wp_un, ↓wp_conv, ↓wp_sl, ↓wp_sls, ↓wp_mk, ↓wp_app, ↓wp_bsl, ↓wp_bld, ↓wp_box, ↓wp_alc, ↓wp_mkf, ↓wp_nck, ↓wp_ext, ↓wp_call, ↓VOps_nil, ↓VOps_go, ↓VOps_if, ↓evF_tmp, ↓evF_const, ↓evF_func, cv_int, cv_bool, cv_slice, cv_string, cv, Nat.reduceLeDiff, Nat.reduceLT, Nat.le_refl, Nat.reduceSub, Int.reduceToNat, Int.reduceLE, Int.reduceLT, not_true_eq_false, not_false_eq_true, decide_true, decide_false, Bool.true_eq_false, ↓imp_tt, ↓imp_ft, ↓imp_tf, ↓imp_ff, ↓imp_tnt, ↓imp_fnt, ↓imp_tnf, ↓imp_fnf, addedOK, addedN, addedCells, oldA, Old, oldL, ↓VW_range, ↓wp_ycal, ↓wp_six, ↓wp_ixv, ↓wp_eqv, ↓wp_mx, ↓wp_mn, ↓wp_nilq, ↓wp_nils, ↓wp_b2s, ↓wp_look, ↓wp_mlen, ↓wp_cpy, ↓wp_clr, ↓wp_s2b, ↓wp_mkm, ↓wp_upd, ↓eqT_nil, ↓eqT_int, ↓eqT_bool, ↓eqT_str, ↓b2sT_U8, ↓b2sT_nil, ↓lookT_nil, ↓lookT_cons, cv_agg, cv_nilFunc, mapOK_nil, mapOK_cons, updA_nil , c_scref26_Order]
    exact ⟨fun _ => ⟨_, Frz.nil 1, rfl⟩, fun h => absurd rfl h⟩
  have h0' := eq_false (show ¬ ((g.length : Int) = 0) by omega)
  simp only [↓VW_skip, ↓VW_ops, ↓VW_par, ↓VW_seq, ↓VW_block, ↓VW_exit, ↓VW_ret, ↓VW_cond, ↓litE_tmp, ↓litE_const, ↓seq_normal, ↓seq_exit, ↓seq_ret, ↓blk_normal, ↓blk_exit, ↓blk_ret, ↓get_nil, ↓get_cons, ↓put_some, ↓put_none, ↓put_some', ↓put_none', ↓VTrL, ↓K.wpD, ↓K.wpE, K.xtra, argEnv, ↓retQ, ↓retW, ↓VR.wp, ↓VRs, binOK, binR, unOK, unR, ldOK, stoOK, putA, partA, partOK, fillA, fillOK, partsOf, evs, boundOf, AV.cells, AV.one, AV.laid, Value.oneCell', Nat.reduceEqDiff, Nat.reduceAdd, Nat.reduceMul, ↓reduceIte, ↓dreduceIte, true_and, and_true, List.cons_append, List.nil_append, List.length_map, List.length_cons, List.length_nil, List.getElem?_cons_zero, List.getElem?_cons_succ, List.map_cons, List.map_nil, Bool.not_true, Bool.not_false, forall_const, reduceCtorEq, false_implies, List.all_cons, List.all_nil, Bool.and_true, Bool.and_self, ↓idxT_map, ↓idxT_cons, ↓cellT_I, ↓cellT_B, ↓cellT_map, ↓cellT_cons, decide_eq_true_eq, decide_eq_false_iff_not, Int.toNat_natCast, bne_iff_ne, ne_eq, Bool.not_eq_true', Bool.not_eq_false', bne_eq_false_iff_eq, beq_iff_eq, beq_eq_false_iff_ne, implies_true, List.getD_cons_zero, List.getD_cons_succ, Bool.false_eq_true, false_or, or_false, true_or, or_true, Int.natCast_nonneg, Int.toNat_zero, Int.toNat_one, List.set_cons_zero, List.set_cons_succ, List.take_zero, List.take_succ_cons, List.take_nil, List.drop_zero, List.drop_succ_cons, List.drop_nil, List.append_nil, Nat.zero_add, Nat.add_zero, Nat.mul_one, Nat.zero_mul, ↓wp_mv, ↓wp_pick, ↓wp_ld, ↓wp_sto, ↓wp_idx, ↓wp_aidx, ↓wp_fad, ↓wp_fld, ↓wp_len, ↓wp_lens, ↓wp_bin, ↓wp_beq, ↓wp_un, ↓wp_conv, ↓wp_sl, ↓wp_sls, ↓wp_mk, ↓wp_app, ↓wp_bsl, ↓wp_bld, ↓wp_box, ↓wp_alc, ↓wp_mkf, ↓wp_nck, ↓wp_ext, ↓wp_call, ↓VOps_nil, ↓VOps_go, ↓VOps_if, ↓evF_tmp, ↓evF_const, ↓evF_func, cv_int, cv_bool, cv_slice, cv_string, cv, Nat.reduceLeDiff, Nat.reduceLT, Nat.le_refl, Nat.reduceSub, Int.reduceToNat, Int.reduceLE, Int.reduceLT, not_true_eq_false, not_false_eq_true, decide_true, decide_false, Bool.true_eq_false, ↓imp_tt, ↓imp_ft, ↓imp_tf, ↓imp_ff, ↓imp_tnt, ↓imp_fnt, ↓imp_tnf, ↓imp_fnf, addedOK, addedN, addedCells, oldA, Old, oldL, ↓VW_range, ↓wp_ycal, ↓wp_six, ↓wp_ixv, ↓wp_eqv, ↓wp_mx, ↓wp_mn, ↓wp_nilq, ↓wp_nils, ↓wp_b2s, ↓wp_look, ↓wp_mlen, ↓wp_cpy, ↓wp_clr, ↓wp_s2b, ↓wp_mkm, ↓wp_upd, ↓eqT_nil, ↓eqT_int, ↓eqT_bool, ↓eqT_str, ↓b2sT_U8, ↓b2sT_nil, ↓lookT_nil, ↓lookT_cons, cv_agg, cv_nilFunc, mapOK_nil, mapOK_cons, updA_nil , c_scref26_Order, h0']
  repeat (refine And.intro (by first | omega | (simp; omega)) ?_)
  rw [flat_rep, rep_map B, set_map B]
  obtain ⟨d0, hd0⟩ : ∃ d0 : D, d0 = into g 0 ⟨[], List.replicate g.length false, []⟩ := ⟨_, rfl⟩
  have hf0 : fits g (List.replicate g.length false) 0 = true := fits_iff.2 ⟨by omega, by omega, by simp [List.getD, show 0 < g.length by omega]⟩
  have hd0' := hd0.trans (fits_first hf0)
  have hwf0 : Wf g d0 := by
    rw [hd0]; exact into_wf ⟨by simp, by simp⟩
  have hm0 : meas g d0 ≤ 1100000 := by
    have h1 := into_meas (g := g) (k := 0) (d := ⟨[], List.replicate g.length false, []⟩)
    have h2 := unseen_le g (List.replicate g.length false) 1000 hg.row
    have h3 : g.length * (1000 + 2) ≤ 1000 * 1002 := Nat.mul_le_mul_right _ hlen
    rw [hd0]
    simp only [meas, wayW] at h1 ⊢
    omega
  refine VW_loop (fun q : KR => ⟨[(0, grph g), (3, .ref 0 0 0 g.length), (4, .ref 1 q.s1 0 q.d.way.length), (5, .ref 2 q.s2 0 q.d.way.length), (6, ints (ordL q.d))],
      [⟨0, 4, 1, q.d.seen.map B⟩, ⟨q.s1, 3, 1, (fstL q.d.way ++ q.j1).map I⟩, ⟨q.s2, 3, 1, (sndL q.d.way ++ q.j2).map I⟩], q.nx⟩)
    (fun q => Wf g q.d ∧ (∀ p ∈ q.d.way, p.2 ≤ (row g p.1).length) ∧ q.d.out.length + meas g q.d ≤ meas g d0 ∧ ∃ n, q.d = drun g n d0) (fun q => meas g q.d) ⟨d0, [], [], 1, 2, 3⟩
    (Wk.give ?_ ?_ (Nat.le_refl _)) ⟨hwf0, by rw [hd0']; simp, by rw [hd0']; simp, 0, rfl⟩ ?_
  · rw [hd0']
    intro p hp
    simp only [List.mem_cons, List.not_mem_nil, or_false] at hp
    rcases hp with rfl | rfl | rfl | rfl | rfl
    · exact .inl rfl
    · exact .inl rfl
    · exact .inl rfl
    · exact .inl rfl
    · exact .inr (Frz.nil 1)
  · rw [hd0']
    simp only [OW, CW.refl, Nat.reduceEqDiff, false_implies, true_and, and_true]
    exact ⟨CW.refl _, CW.refl _⟩
  rintro ⟨⟨way, se, out⟩, j1, j2, s1, s2, nx⟩ ⟨hwf, hle, hm, n, hn⟩
  have hol : out.length ≤ 1100000 := by have := hm; simp only at this; omega
  rcases List.eq_nil_or_concat way with rfl | ⟨ws, ⟨b, i⟩, rfl⟩
  · have : d' = ⟨[], se, out⟩ := hd'.unique ⟨rfl, n, by rw [← hd0]; exact hn⟩
    subst this
    simp only [↓VW_skip, ↓VW_ops, ↓VW_par, ↓VW_seq, ↓VW_block, ↓VW_exit, ↓VW_ret, ↓VW_cond, ↓litE_tmp, ↓litE_const, ↓seq_normal, ↓seq_exit, ↓seq_ret, ↓blk_normal, ↓blk_exit, ↓blk_ret, ↓get_nil, ↓get_cons, ↓put_some, ↓put_none, ↓put_some', ↓put_none', ↓VTrL, ↓K.wpD, ↓K.wpE, K.xtra, argEnv, ↓retQ, ↓retW, ↓VR.wp, ↓VRs, binOK, binR, unOK, unR, ldOK, stoOK, putA, partA, partOK, fillA, fillOK, partsOf, evs, boundOf, AV.cells, AV.one, AV.laid, Value.oneCell', Nat.reduceEqDiff, Nat.reduceAdd, Nat.reduceMul, ↓reduceIte, ↓dreduceIte, true_and, and_true, List.cons_append, List.nil_append, List.length_map, List.length_cons, List.length_nil, List.getElem?_cons_zero, List.getElem?_cons_succ, List.map_cons, List.map_nil, Bool.not_true, Bool.not_false, forall_const, reduceCtorEq, false_implies, List.all_cons, List.all_nil, Bool.and_true, Bool.and_self, ↓idxT_map, ↓idxT_cons, ↓cellT_I, ↓cellT_B, ↓cellT_map, ↓cellT_cons, decide_eq_true_eq, decide_eq_false_iff_not, Int.toNat_natCast, bne_iff_ne, ne_eq, Bool.not_eq_true', Bool.not_eq_false', bne_eq_false_iff_eq, beq_iff_eq, beq_eq_false_iff_ne, implies_true, List.getD_cons_zero, List.getD_cons_succ, Bool.false_eq_true, false_or, or_false, true_or, or_true, Int.natCast_nonneg, Int.toNat_zero, Int.toNat_one, List.set_cons_zero, List.set_cons_succ, List.take_zero, List.take_succ_cons, List.take_nil, List.drop_zero, List.drop_succ_cons, List.drop_nil, List.append_nil, Nat.zero_add, Nat.add_zero, Nat.mul_one, Nat.zero_mul, ↓wp_mv, ↓wp_pick, ↓wp_ld, ↓wp_sto, ↓wp_idx, ↓wp_aidx, ↓wp_fad, ↓wp_fld, ↓wp_len, ↓wp_lens, ↓wp_bin, ↓wp_beq, ↓wp_un, ↓wp_conv, ↓wp_sl, ↓wp_sls, ↓wp_mk, ↓wp_app, ↓wp_bsl, ↓wp_bld, ↓wp_box, ↓wp_alc, ↓wp_mkf, ↓wp_nck, ↓wp_ext, ↓wp_call, ↓VOps_nil, ↓VOps_go, ↓VOps_if, ↓evF_tmp, ↓evF_const, ↓evF_func, cv_int, cv_bool, cv_slice, cv_string, cv, Nat.reduceLeDiff, Nat.reduceLT, Nat.le_refl, Nat.reduceSub, Int.reduceToNat, Int.reduceLE, Int.reduceLT, not_true_eq_false, not_false_eq_true, decide_true, decide_false, Bool.true_eq_false, ↓imp_tt, ↓imp_ft, ↓imp_tf, ↓imp_ff, ↓imp_tnt, ↓imp_fnt, ↓imp_tnf, ↓imp_fnf, addedOK, addedN, addedCells, oldA, Old, oldL, ↓VW_range, ↓wp_ycal, ↓wp_six, ↓wp_ixv, ↓wp_eqv, ↓wp_mx, ↓wp_mn, ↓wp_nilq, ↓wp_nils, ↓wp_b2s, ↓wp_look, ↓wp_mlen, ↓wp_cpy, ↓wp_clr, ↓wp_s2b, ↓wp_mkm, ↓wp_upd, ↓eqT_nil, ↓eqT_int, ↓eqT_bool, ↓eqT_str, ↓b2sT_U8, ↓b2sT_nil, ↓lookT_nil, ↓lookT_cons, cv_agg, cv_nilFunc, mapOK_nil, mapOK_cons, updA_nil ]
    refine ⟨fun h => absurd h (by simp), fun _ => ⟨_, Frz.pure rfl, rfl⟩⟩
  · rw [List.concat_eq_append] at hwf hle hm hn ⊢
    have hstep := dstep_meas (g := g) (ws := ws) (b := b) (i := i) (seen := se) (out := out)
    have hwl : ws.length + 1 ≤ 1100000 := by
      have h1 := way_le g (ws ++ [(b, i)])
      have h2 : wayW g (ws ++ [(b, i)]) ≤ meas g d0 := by simp only [meas] at hm ⊢; omega
      simp only [List.length_append, List.length_cons, List.length_nil] at h1
      omega
    have hbl : b < g.length := hwf.way (b, i) (by simp)
    have hw1 : IntKind.i64.wrap (((ws.length + 1 : Nat) : Int) - 1) = (ws.length : Int) := by
      rw [i64_in (by omega) (by omega)]; omega
    have hrow : g.getD b default = row g b := rfl
    have hrl : (row g b).length ≤ 1000 := hg.row _ (mem_getD hbl)
    have hil : i ≤ (row g b).length := hle (b, i) (by simp)
    have hpos := eq_true (show (0 : Int) < ((ws.length + 1 : Nat) : Int) by omega)
    have gb : (fstL (ws ++ [(b, i)]) ++ j1).getD ws.length default = (b : Int) := by simp [fstL, List.getD]
    have gi : (sndL (ws ++ [(b, i)]) ++ j2).getD ws.length default = (i : Int) := by simp [sndL, List.getD]
    have lb : (fstL (ws ++ [(b, i)])).length = ws.length + 1 := by simp [fstL]
    have li : (sndL (ws ++ [(b, i)])).length = ws.length + 1 := by simp [sndL]
    by_cases h6 : i < (row g b).length
    case neg =>
      have h6' := eq_true (show (i : Int) = ((row g b).length : Int) by omega)
      have hds : dstep g ⟨ws ++ [(b, i)], se, out⟩ = ⟨ws, se, out ++ [b]⟩ := by
        rw [dstep_snoc, if_neg h6]
      have hwf' : Wf g ⟨ws, se, out ++ [b]⟩ := hds ▸ dstep_wf hwf
      have hrun : (⟨ws, se, out ++ [b]⟩ : D) = drun g (n + 1) d0 := by rw [drun_succ, ← hds]; exact congrArg _ hn
      rw [hds] at hstep
      have hol' : (ordL ⟨ws ++ [(b, i)], se, out⟩).length = out.length := by simp [ordL]
      have hord : ordL ⟨ws, se, out ++ [b]⟩ = (b : Int) :: ordL ⟨ws ++ [(b, i)], se, out⟩ := by simp [ordL]
      have hall : allCells ((ordL ⟨ws ++ [(b, i)], se, out⟩).map I) = (ordL ⟨ws ++ [(b, i)], se, out⟩).map I := allCells_map1 (fun _ => rfl) _
      have e1 : fstL (ws ++ [(b, i)]) ++ j1 = fstL ws ++ ((b : Int) :: j1) := by simp [fstL]
      have e2 : sndL (ws ++ [(b, i)]) ++ j2 = sndL ws ++ ((i : Int) :: j2) := by simp [sndL]
      simp only [↓VW_skip, ↓VW_ops, ↓VW_par, ↓VW_seq, ↓VW_block, ↓VW_exit, ↓VW_ret, ↓VW_cond, ↓litE_tmp, ↓litE_const, ↓seq_normal, ↓seq_exit, ↓seq_ret, ↓blk_normal, ↓blk_exit, ↓blk_ret, ↓get_nil, ↓get_cons, ↓put_some, ↓put_none, ↓put_some', ↓put_none', ↓VTrL, ↓K.wpD, ↓K.wpE, K.xtra, argEnv, ↓retQ, ↓retW, ↓VR.wp, ↓VRs, binOK, binR, unOK, unR, ldOK, stoOK, putA, partA, partOK, fillA, fillOK, partsOf, evs, boundOf, AV.cells, AV.one, AV.laid, Value.oneCell', Nat.reduceEqDiff, Nat.reduceAdd, Nat.reduceMul, ↓reduceIte, ↓dreduceIte, true_and, and_true, List.cons_append, List.nil_append, List.length_map, List.length_cons, List.length_nil, List.getElem?_cons_zero, List.getElem?_cons_succ, List.map_cons, List.map_nil, Bool.not_true, Bool.not_false, forall_const, reduceCtorEq, false_implies, List.all_cons, List.all_nil, Bool.and_true, Bool.and_self, ↓idxT_map, ↓idxT_cons, ↓cellT_I, ↓cellT_B, ↓cellT_map, ↓cellT_cons, decide_eq_true_eq, decide_eq_false_iff_not, Int.toNat_natCast, bne_iff_ne, ne_eq, Bool.not_eq_true', Bool.not_eq_false', bne_eq_false_iff_eq, beq_iff_eq, beq_eq_false_iff_ne, implies_true, List.getD_cons_zero, List.getD_cons_succ, Bool.false_eq_true, false_or, or_false, true_or, or_true, Int.natCast_nonneg, Int.toNat_zero, Int.toNat_one, List.set_cons_zero, List.set_cons_succ, List.take_zero, List.take_succ_cons, List.take_nil, List.drop_zero, List.drop_succ_cons, List.drop_nil, List.append_nil, Nat.zero_add, Nat.add_zero, Nat.mul_one, Nat.zero_mul, ↓wp_mv, ↓wp_pick, ↓wp_ld, ↓wp_sto, ↓wp_idx, ↓wp_aidx, ↓wp_fad, ↓wp_fld, ↓wp_len, ↓wp_lens, ↓wp_bin, ↓wp_beq, ↓wp_un, ↓wp_conv, ↓wp_sl, ↓wp_sls, ↓wp_mk, ↓wp_app, ↓wp_bsl, ↓wp_bld, ↓wp_box, ↓wp_alc, ↓wp_mkf, ↓wp_nck, ↓wp_ext, ↓wp_call, ↓VOps_nil, ↓VOps_go, ↓VOps_if, ↓evF_tmp, ↓evF_const, ↓evF_func, cv_int, cv_bool, cv_slice, cv_string, cv, Nat.reduceLeDiff, Nat.reduceLT, Nat.le_refl, Nat.reduceSub, Int.reduceToNat, Int.reduceLE, Int.reduceLT, not_true_eq_false, not_false_eq_true, decide_true, decide_false, Bool.true_eq_false, ↓imp_tt, ↓imp_ft, ↓imp_tf, ↓imp_ff, ↓imp_tnt, ↓imp_fnt, ↓imp_tnf, ↓imp_fnf, addedOK, addedN, addedCells, oldA, Old, oldL, ↓VW_range, ↓wp_ycal, ↓wp_six, ↓wp_ixv, ↓wp_eqv, ↓wp_mx, ↓wp_mn, ↓wp_nilq, ↓wp_nils, ↓wp_b2s, ↓wp_look, ↓wp_mlen, ↓wp_cpy, ↓wp_clr, ↓wp_s2b, ↓wp_mkm, ↓wp_upd, ↓eqT_nil, ↓eqT_int, ↓eqT_bool, ↓eqT_str, ↓b2sT_U8, ↓b2sT_nil, ↓lookT_nil, ↓lookT_cons, cv_agg, cv_nilFunc, mapOK_nil, mapOK_cons, updA_nil , List.length_append, lb, li, hw1, gb, gi, hrow, hpos, h6']
      refine ⟨by omega, by omega, by omega, by omega, by omega, fun y hy => by obtain ⟨l, _, rfl⟩ := List.mem_map.1 hy; rfl, ?_⟩
      repeat (refine And.intro (by first | omega | (simp only [maxLen]; omega)) ?_)
      rw [hall, e1, e2]
      refine ⟨⟨⟨ws, se, out ++ [b]⟩, (b : Int) :: j1, (i : Int) :: j2, s1, s2, nx + 1 + 1⟩, ⟨hwf', fun p hp => hle p (by simp [hp]), by simp only [List.length_append, List.length_cons, List.length_nil] at hm ⊢; omega, n + 1, hrun⟩, hstep, Wk.give ?_ ?_ (Nat.le_refl _)⟩
      · intro p hp
        simp only [List.mem_cons, List.not_mem_nil, or_false] at hp
        rcases hp with rfl | rfl | rfl | rfl | rfl
        · exact .inl rfl
        · exact .inl rfl
        · exact .inl rfl
        · exact .inl rfl
        · refine .inr ?_
          rw [hord]
          exact frz_ints (l := (b : Int) :: ordL ⟨ws ++ [(b, i)], se, out⟩) (by simp) rfl (by simp; omega)
      · simp only [OW, CW.refl, Nat.reduceEqDiff, false_implies, true_and, and_true]
    case pos =>
      have h6' := eq_false (show ¬ (i : Int) = ((row g b).length : Int) by omega)
      obtain ⟨k, hk⟩ : ∃ k, (row g b).getD i default = k := ⟨_, rfl⟩
      have hds : dstep g ⟨ws ++ [(b, i)], se, out⟩ = into g k ⟨ws ++ [(b, i + 1)], se, out⟩ := by
        rw [dstep_snoc, if_pos h6, show (row g b).getD i 0 = k from hk]
      have hwf' : Wf g (into g k ⟨ws ++ [(b, i + 1)], se, out⟩) := hds ▸ dstep_wf hwf
      have hrun : into g k ⟨ws ++ [(b, i + 1)], se, out⟩ = drun g (n + 1) d0 := by rw [drun_succ, ← hds]; exact congrArg _ hn
      rw [hds] at hstep
      have hw2 : IntKind.i64.wrap ((i : Int) + 1) = ((i + 1 : Nat) : Int) := by rw [i64_in (by omega) (by omega)]; omega
      have e1 : fstL (ws ++ [(b, i)]) ++ j1 = fstL (ws ++ [(b, i + 1)]) ++ j1 := by simp [fstL]
      have e2 : (sndL (ws ++ [(b, i)]) ++ j2).set ws.length ((i + 1 : Nat) : Int) = sndL (ws ++ [(b, i + 1)]) ++ j2 := by simp [sndL]
      have hle' : ∀ p ∈ ws ++ [(b, i + 1)], p.2 ≤ (row g p.1).length := fun p hp => by
        rcases List.mem_append.1 hp with hp | hp
        · exact hle p (by simp [hp])
        · simp at hp; subst hp; exact h6
      by_cases h3 : 0 ≤ k
      case neg =>
        have hi : into g k ⟨ws ++ [(b, i + 1)], se, out⟩ = ⟨ws ++ [(b, i + 1)], se, out⟩ := fits_not (d := (⟨ws ++ [(b, i + 1)], se, out⟩ : D)) (by simp [fits, h3])
        rw [hi] at hwf' hrun hstep
        simp only [↓VW_skip, ↓VW_ops, ↓VW_par, ↓VW_seq, ↓VW_block, ↓VW_exit, ↓VW_ret, ↓VW_cond, ↓litE_tmp, ↓litE_const, ↓seq_normal, ↓seq_exit, ↓seq_ret, ↓blk_normal, ↓blk_exit, ↓blk_ret, ↓get_nil, ↓get_cons, ↓put_some, ↓put_none, ↓put_some', ↓put_none', ↓VTrL, ↓K.wpD, ↓K.wpE, K.xtra, argEnv, ↓retQ, ↓retW, ↓VR.wp, ↓VRs, binOK, binR, unOK, unR, ldOK, stoOK, putA, partA, partOK, fillA, fillOK, partsOf, evs, boundOf, AV.cells, AV.one, AV.laid, Value.oneCell', Nat.reduceEqDiff, Nat.reduceAdd, Nat.reduceMul, ↓reduceIte, ↓dreduceIte, true_and, and_true, List.cons_append, List.nil_append, List.length_map, List.length_cons, List.length_nil, List.getElem?_cons_zero, List.getElem?_cons_succ, List.map_cons, List.map_nil, Bool.not_true, Bool.not_false, forall_const, reduceCtorEq, false_implies, List.all_cons, List.all_nil, Bool.and_true, Bool.and_self, ↓idxT_map, ↓idxT_cons, ↓cellT_I, ↓cellT_B, ↓cellT_map, ↓cellT_cons, decide_eq_true_eq, decide_eq_false_iff_not, Int.toNat_natCast, bne_iff_ne, ne_eq, Bool.not_eq_true', Bool.not_eq_false', bne_eq_false_iff_eq, beq_iff_eq, beq_eq_false_iff_ne, implies_true, List.getD_cons_zero, List.getD_cons_succ, Bool.false_eq_true, false_or, or_false, true_or, or_true, Int.natCast_nonneg, Int.toNat_zero, Int.toNat_one, List.set_cons_zero, List.set_cons_succ, List.take_zero, List.take_succ_cons, List.take_nil, List.drop_zero, List.drop_succ_cons, List.drop_nil, List.append_nil, Nat.zero_add, Nat.add_zero, Nat.mul_one, Nat.zero_mul, ↓wp_mv, ↓wp_pick, ↓wp_ld, ↓wp_sto, ↓wp_idx, ↓wp_aidx, ↓wp_fad, ↓wp_fld, ↓wp_len, ↓wp_lens, ↓wp_bin, ↓wp_beq, ↓wp_un, ↓wp_conv, ↓wp_sl, ↓wp_sls, ↓wp_mk, ↓wp_app, ↓wp_bsl, ↓wp_bld, ↓wp_box, ↓wp_alc, ↓wp_mkf, ↓wp_nck, ↓wp_ext, ↓wp_call, ↓VOps_nil, ↓VOps_go, ↓VOps_if, ↓evF_tmp, ↓evF_const, ↓evF_func, cv_int, cv_bool, cv_slice, cv_string, cv, Nat.reduceLeDiff, Nat.reduceLT, Nat.le_refl, Nat.reduceSub, Int.reduceToNat, Int.reduceLE, Int.reduceLT, not_true_eq_false, not_false_eq_true, decide_true, decide_false, Bool.true_eq_false, ↓imp_tt, ↓imp_ft, ↓imp_tf, ↓imp_ff, ↓imp_tnt, ↓imp_fnt, ↓imp_tnf, ↓imp_fnf, addedOK, addedN, addedCells, oldA, Old, oldL, ↓VW_range, ↓wp_ycal, ↓wp_six, ↓wp_ixv, ↓wp_eqv, ↓wp_mx, ↓wp_mn, ↓wp_nilq, ↓wp_nils, ↓wp_b2s, ↓wp_look, ↓wp_mlen, ↓wp_cpy, ↓wp_clr, ↓wp_s2b, ↓wp_mkm, ↓wp_upd, ↓eqT_nil, ↓eqT_int, ↓eqT_bool, ↓eqT_str, ↓b2sT_U8, ↓b2sT_nil, ↓lookT_nil, ↓lookT_cons, cv_agg, cv_nilFunc, mapOK_nil, mapOK_cons, updA_nil , List.length_append, lb, li, hw1, gb, gi, hrow, hpos, h6', hk, hw2, eq_false h3]
        repeat (refine And.intro (by omega) ?_)
        rw [show (AV.val (Value.int IntKind.i64 ((i + 1 : Nat) : Int))) = I ((i + 1 : Nat) : Int) from rfl, set_map, e2, e1]
        exact ⟨⟨⟨ws ++ [(b, i + 1)], se, out⟩, j1, j2, s1, s2, nx⟩, ⟨hwf', hle', by simp only at hm ⊢; omega, n + 1, hrun⟩, hstep, Wk.mk (by simp [get_cons, ordL]) ⟨[], rfl⟩ (Nat.le_refl _)⟩
      case pos =>
      by_cases h4 : k < g.length
      case neg =>
        have hi : into g k ⟨ws ++ [(b, i + 1)], se, out⟩ = ⟨ws ++ [(b, i + 1)], se, out⟩ := fits_not (d := (⟨ws ++ [(b, i + 1)], se, out⟩ : D)) (by simp [fits, h4])
        rw [hi] at hwf' hrun hstep
        simp only [↓VW_skip, ↓VW_ops, ↓VW_par, ↓VW_seq, ↓VW_block, ↓VW_exit, ↓VW_ret, ↓VW_cond, ↓litE_tmp, ↓litE_const, ↓seq_normal, ↓seq_exit, ↓seq_ret, ↓blk_normal, ↓blk_exit, ↓blk_ret, ↓get_nil, ↓get_cons, ↓put_some, ↓put_none, ↓put_some', ↓put_none', ↓VTrL, ↓K.wpD, ↓K.wpE, K.xtra, argEnv, ↓retQ, ↓retW, ↓VR.wp, ↓VRs, binOK, binR, unOK, unR, ldOK, stoOK, putA, partA, partOK, fillA, fillOK, partsOf, evs, boundOf, AV.cells, AV.one, AV.laid, Value.oneCell', Nat.reduceEqDiff, Nat.reduceAdd, Nat.reduceMul, ↓reduceIte, ↓dreduceIte, true_and, and_true, List.cons_append, List.nil_append, List.length_map, List.length_cons, List.length_nil, List.getElem?_cons_zero, List.getElem?_cons_succ, List.map_cons, List.map_nil, Bool.not_true, Bool.not_false, forall_const, reduceCtorEq, false_implies, List.all_cons, List.all_nil, Bool.and_true, Bool.and_self, ↓idxT_map, ↓idxT_cons, ↓cellT_I, ↓cellT_B, ↓cellT_map, ↓cellT_cons, decide_eq_true_eq, decide_eq_false_iff_not, Int.toNat_natCast, bne_iff_ne, ne_eq, Bool.not_eq_true', Bool.not_eq_false', bne_eq_false_iff_eq, beq_iff_eq, beq_eq_false_iff_ne, implies_true, List.getD_cons_zero, List.getD_cons_succ, Bool.false_eq_true, false_or, or_false, true_or, or_true, Int.natCast_nonneg, Int.toNat_zero, Int.toNat_one, List.set_cons_zero, List.set_cons_succ, List.take_zero, List.take_succ_cons, List.take_nil, List.drop_zero, List.drop_succ_cons, List.drop_nil, List.append_nil, Nat.zero_add, Nat.add_zero, Nat.mul_one, Nat.zero_mul, ↓wp_mv, ↓wp_pick, ↓wp_ld, ↓wp_sto, ↓wp_idx, ↓wp_aidx, ↓wp_fad, ↓wp_fld, ↓wp_len, ↓wp_lens, ↓wp_bin, ↓wp_beq, ↓wp_un, ↓wp_conv, ↓wp_sl, ↓wp_sls, ↓wp_mk, ↓wp_app, ↓wp_bsl, ↓wp_bld, ↓wp_box, ↓wp_alc, ↓wp_mkf, ↓wp_nck, ↓wp_ext, ↓wp_call, ↓VOps_nil, ↓VOps_go, ↓VOps_if, ↓evF_tmp, ↓evF_const, ↓evF_func, cv_int, cv_bool, cv_slice, cv_string, cv, Nat.reduceLeDiff, Nat.reduceLT, Nat.le_refl, Nat.reduceSub, Int.reduceToNat, Int.reduceLE, Int.reduceLT, not_true_eq_false, not_false_eq_true, decide_true, decide_false, Bool.true_eq_false, ↓imp_tt, ↓imp_ft, ↓imp_tf, ↓imp_ff, ↓imp_tnt, ↓imp_fnt, ↓imp_tnf, ↓imp_fnf, addedOK, addedN, addedCells, oldA, Old, oldL, ↓VW_range, ↓wp_ycal, ↓wp_six, ↓wp_ixv, ↓wp_eqv, ↓wp_mx, ↓wp_mn, ↓wp_nilq, ↓wp_nils, ↓wp_b2s, ↓wp_look, ↓wp_mlen, ↓wp_cpy, ↓wp_clr, ↓wp_s2b, ↓wp_mkm, ↓wp_upd, ↓eqT_nil, ↓eqT_int, ↓eqT_bool, ↓eqT_str, ↓b2sT_U8, ↓b2sT_nil, ↓lookT_nil, ↓lookT_cons, cv_agg, cv_nilFunc, mapOK_nil, mapOK_cons, updA_nil , List.length_append, lb, li, hw1, gb, gi, hrow, hpos, h6', hk, hw2, eq_true h3, eq_false h4]
        repeat (refine And.intro (by omega) ?_)
        rw [show (AV.val (Value.int IntKind.i64 ((i + 1 : Nat) : Int))) = I ((i + 1 : Nat) : Int) from rfl, set_map, e2, e1]
        exact ⟨⟨⟨ws ++ [(b, i + 1)], se, out⟩, j1, j2, s1, s2, nx⟩, ⟨hwf', hle', by simp only at hm ⊢; omega, n + 1, hrun⟩, hstep, Wk.mk (by simp [get_cons, ordL]) ⟨[], rfl⟩ (Nat.le_refl _)⟩
      case pos =>
      have hsl : se.length = g.length := hwf.seen
      cases h5 : se.getD k.toNat default
      case true =>
        have hi : into g k ⟨ws ++ [(b, i + 1)], se, out⟩ = ⟨ws ++ [(b, i + 1)], se, out⟩ := fits_not (d := (⟨ws ++ [(b, i + 1)], se, out⟩ : D)) (by
          simp only [fits]; rw [show se.getD k.toNat true = true by simp only [List.getD] at h5 ⊢; cases e : se[k.toNat]? <;> simp_all]; simp)
        rw [hi] at hwf' hrun hstep
        simp only [↓VW_skip, ↓VW_ops, ↓VW_par, ↓VW_seq, ↓VW_block, ↓VW_exit, ↓VW_ret, ↓VW_cond, ↓litE_tmp, ↓litE_const, ↓seq_normal, ↓seq_exit, ↓seq_ret, ↓blk_normal, ↓blk_exit, ↓blk_ret, ↓get_nil, ↓get_cons, ↓put_some, ↓put_none, ↓put_some', ↓put_none', ↓VTrL, ↓K.wpD, ↓K.wpE, K.xtra, argEnv, ↓retQ, ↓retW, ↓VR.wp, ↓VRs, binOK, binR, unOK, unR, ldOK, stoOK, putA, partA, partOK, fillA, fillOK, partsOf, evs, boundOf, AV.cells, AV.one, AV.laid, Value.oneCell', Nat.reduceEqDiff, Nat.reduceAdd, Nat.reduceMul, ↓reduceIte, ↓dreduceIte, true_and, and_true, List.cons_append, List.nil_append, List.length_map, List.length_cons, List.length_nil, List.getElem?_cons_zero, List.getElem?_cons_succ, List.map_cons, List.map_nil, Bool.not_true, Bool.not_false, forall_const, reduceCtorEq, false_implies, List.all_cons, List.all_nil, Bool.and_true, Bool.and_self, ↓idxT_map, ↓idxT_cons, ↓cellT_I, ↓cellT_B, ↓cellT_map, ↓cellT_cons, decide_eq_true_eq, decide_eq_false_iff_not, Int.toNat_natCast, bne_iff_ne, ne_eq, Bool.not_eq_true', Bool.not_eq_false', bne_eq_false_iff_eq, beq_iff_eq, beq_eq_false_iff_ne, implies_true, List.getD_cons_zero, List.getD_cons_succ, Bool.false_eq_true, false_or, or_false, true_or, or_true, Int.natCast_nonneg, Int.toNat_zero, Int.toNat_one, List.set_cons_zero, List.set_cons_succ, List.take_zero, List.take_succ_cons, List.take_nil, List.drop_zero, List.drop_succ_cons, List.drop_nil, List.append_nil, Nat.zero_add, Nat.add_zero, Nat.mul_one, Nat.zero_mul, ↓wp_mv, ↓wp_pick, ↓wp_ld, ↓wp_sto, ↓wp_idx, ↓wp_aidx, ↓wp_fad, ↓wp_fld, ↓wp_len, ↓wp_lens, ↓wp_bin, ↓wp_beq, ↓wp_un, ↓wp_conv, ↓wp_sl, ↓wp_sls, ↓wp_mk, ↓wp_app, ↓wp_bsl, ↓wp_bld, ↓wp_box, ↓wp_alc, ↓wp_mkf, ↓wp_nck, ↓wp_ext, ↓wp_call, ↓VOps_nil, ↓VOps_go, ↓VOps_if, ↓evF_tmp, ↓evF_const, ↓evF_func, cv_int, cv_bool, cv_slice, cv_string, cv, Nat.reduceLeDiff, Nat.reduceLT, Nat.le_refl, Nat.reduceSub, Int.reduceToNat, Int.reduceLE, Int.reduceLT, not_true_eq_false, not_false_eq_true, decide_true, decide_false, Bool.true_eq_false, ↓imp_tt, ↓imp_ft, ↓imp_tf, ↓imp_ff, ↓imp_tnt, ↓imp_fnt, ↓imp_tnf, ↓imp_fnf, addedOK, addedN, addedCells, oldA, Old, oldL, ↓VW_range, ↓wp_ycal, ↓wp_six, ↓wp_ixv, ↓wp_eqv, ↓wp_mx, ↓wp_mn, ↓wp_nilq, ↓wp_nils, ↓wp_b2s, ↓wp_look, ↓wp_mlen, ↓wp_cpy, ↓wp_clr, ↓wp_s2b, ↓wp_mkm, ↓wp_upd, ↓eqT_nil, ↓eqT_int, ↓eqT_bool, ↓eqT_str, ↓b2sT_U8, ↓b2sT_nil, ↓lookT_nil, ↓lookT_cons, cv_agg, cv_nilFunc, mapOK_nil, mapOK_cons, updA_nil , List.length_append, lb, li, hw1, gb, gi, hrow, hpos, h6', hk, hw2, eq_true h3, eq_true h4, h5]
        repeat (refine And.intro (by omega) ?_)
        rw [show (AV.val (Value.int IntKind.i64 ((i + 1 : Nat) : Int))) = I ((i + 1 : Nat) : Int) from rfl, set_map, e2, e1]
        exact ⟨⟨⟨ws ++ [(b, i + 1)], se, out⟩, j1, j2, s1, s2, nx⟩, ⟨hwf', hle', by simp only at hm ⊢; omega, n + 1, hrun⟩, hstep, Wk.mk (by simp [get_cons, ordL]) ⟨[], rfl⟩ (Nat.le_refl _)⟩
      case false =>
        have hf : fits g se k = true := by
          simp only [fits]
          rw [show se.getD k.toNat true = false by
            have : k.toNat < se.length := by omega
            simp only [List.getD, List.getElem?_eq_getElem this] at h5 ⊢
            exact h5]
          simp [h3, h4]
        have hi : into g k ⟨ws ++ [(b, i + 1)], se, out⟩ = ⟨(ws ++ [(b, i + 1)]) ++ [(k.toNat, 0)], se.set k.toNat true, out⟩ := by unfold into; rw [if_pos hf]
        rw [hi] at hwf' hrun hstep
        have hmx : (20000000 : Nat) ≤ maxLen := by decide
        simp only [↓VW_skip, ↓VW_ops, ↓VW_par, ↓VW_seq, ↓VW_block, ↓VW_exit, ↓VW_ret, ↓VW_cond, ↓litE_tmp, ↓litE_const, ↓seq_normal, ↓seq_exit, ↓seq_ret, ↓blk_normal, ↓blk_exit, ↓blk_ret, ↓get_nil, ↓get_cons, ↓put_some, ↓put_none, ↓put_some', ↓put_none', ↓VTrL, ↓K.wpD, ↓K.wpE, K.xtra, argEnv, ↓retQ, ↓retW, ↓VR.wp, ↓VRs, binOK, binR, unOK, unR, ldOK, stoOK, putA, partA, partOK, fillA, fillOK, partsOf, evs, boundOf, AV.cells, AV.one, AV.laid, Value.oneCell', Nat.reduceEqDiff, Nat.reduceAdd, Nat.reduceMul, ↓reduceIte, ↓dreduceIte, true_and, and_true, List.cons_append, List.nil_append, List.length_map, List.length_cons, List.length_nil, List.getElem?_cons_zero, List.getElem?_cons_succ, List.map_cons, List.map_nil, Bool.not_true, Bool.not_false, forall_const, reduceCtorEq, false_implies, List.all_cons, List.all_nil, Bool.and_true, Bool.and_self, ↓idxT_map, ↓idxT_cons, ↓cellT_I, ↓cellT_B, ↓cellT_map, ↓cellT_cons, decide_eq_true_eq, decide_eq_false_iff_not, Int.toNat_natCast, bne_iff_ne, ne_eq, Bool.not_eq_true', Bool.not_eq_false', bne_eq_false_iff_eq, beq_iff_eq, beq_eq_false_iff_ne, implies_true, List.getD_cons_zero, List.getD_cons_succ, Bool.false_eq_true, false_or, or_false, true_or, or_true, Int.natCast_nonneg, Int.toNat_zero, Int.toNat_one, List.set_cons_zero, List.set_cons_succ, List.take_zero, List.take_succ_cons, List.take_nil, List.drop_zero, List.drop_succ_cons, List.drop_nil, List.append_nil, Nat.zero_add, Nat.add_zero, Nat.mul_one, Nat.zero_mul, ↓wp_mv, ↓wp_pick, ↓wp_ld, ↓wp_sto, ↓wp_idx, ↓wp_aidx, ↓wp_fad, ↓wp_fld, ↓wp_len, ↓wp_lens, ↓wp_bin, ↓wp_beq, ↓wp_un, ↓wp_conv, ↓wp_sl, ↓wp_sls, ↓wp_mk, ↓wp_app, ↓wp_bsl, ↓wp_bld, ↓wp_box, ↓wp_alc, ↓wp_mkf, ↓wp_nck, ↓wp_ext, ↓wp_call, ↓VOps_nil, ↓VOps_go, ↓VOps_if, ↓evF_tmp, ↓evF_const, ↓evF_func, cv_int, cv_bool, cv_slice, cv_string, cv, Nat.reduceLeDiff, Nat.reduceLT, Nat.le_refl, Nat.reduceSub, Int.reduceToNat, Int.reduceLE, Int.reduceLT, not_true_eq_false, not_false_eq_true, decide_true, decide_false, Bool.true_eq_false, ↓imp_tt, ↓imp_ft, ↓imp_tf, ↓imp_ff, ↓imp_tnt, ↓imp_fnt, ↓imp_tnf, ↓imp_fnf, addedOK, addedN, addedCells, oldA, Old, oldL, ↓VW_range, ↓wp_ycal, ↓wp_six, ↓wp_ixv, ↓wp_eqv, ↓wp_mx, ↓wp_mn, ↓wp_nilq, ↓wp_nils, ↓wp_b2s, ↓wp_look, ↓wp_mlen, ↓wp_cpy, ↓wp_clr, ↓wp_s2b, ↓wp_mkm, ↓wp_upd, ↓eqT_nil, ↓eqT_int, ↓eqT_bool, ↓eqT_str, ↓b2sT_U8, ↓b2sT_nil, ↓lookT_nil, ↓lookT_cons, cv_agg, cv_nilFunc, mapOK_nil, mapOK_cons, updA_nil , List.length_append, lb, li, hw1, gb, gi, hrow, hpos, h6', hk, hw2, eq_true h3, eq_true h4, h5]
        repeat (refine And.intro (by first | omega | (simp; omega)) ?_)
        have e3 : (List.map I (fstL (ws ++ [(b, i + 1)]) ++ j1)).take (ws.length + 1) ++ [I k] = (fstL ((ws ++ [(b, i + 1)]) ++ [(k.toNat, 0)]) ++ []).map I := by
          rw [List.map_append, List.take_left' (by simp [fstL])]; simp [fstL, Int.toNat_of_nonneg h3]
        have e4 : (List.map I (sndL (ws ++ [(b, i + 1)]) ++ j2)).take (ws.length + 1) ++ [I 0] = (sndL ((ws ++ [(b, i + 1)]) ++ [(k.toNat, 0)]) ++ []).map I := by
          rw [List.map_append, List.take_left' (by simp [sndL])]; simp [sndL]
        have e5 : (AV.val (Value.int IntKind.i64 ((i + 1 : Nat) : Int))) = I ((i + 1 : Nat) : Int) := rfl
        have e6 : (AV.val (Value.int IntKind.i64 0)) = I 0 := rfl
        have e7 : (AV.val (Value.bool true)) = B true := rfl
        simp only [e5, e6, e7, set_map, e2, e1, e3, e4]
        exact ⟨⟨⟨(ws ++ [(b, i + 1)]) ++ [(k.toNat, 0)], se.set k.toNat true, out⟩, [], [], nx + 1, nx + 1 + 1 + 1, nx + 1 + 1 + 1 + 1⟩, ⟨hwf', fun p hp => by
          rcases List.mem_append.1 hp with hp | hp
          · exact hle' p hp
          · simp at hp; subst hp; exact Nat.zero_le _, by simp only at hm ⊢; omega, n + 1, hrun⟩, hstep, Wk.mk (by simp [get_cons, ordL]) ⟨_, rfl⟩ (Nat.le_refl _)⟩
end Go.Proofs.Ytdiknjjhegckcaa
