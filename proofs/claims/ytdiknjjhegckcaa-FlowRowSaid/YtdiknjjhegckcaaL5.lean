/-
  FlowRow: the row. No condition.
-/
import Derived.Test.YtdiknjjhegckcaaG
import Derived.Test.YtdiknjjhegckcaaFU
namespace Go.Proofs.Ytdiknjjhegckcaa
set_option linter.unusedSimpArgs false
set_option linter.unusedVariables false
set_option maxRecDepth 10000
open Go.V Go.V.FL Go.ChangeShapes Go.WideShapes Go.ChangeAt Go.RowKit

/-- One that must be gone through stands ahead. -/
theorem cx_ahead {g : G} {r : Nat → Nat} (hc : Cx g r) {u : Nat} : ∀ (n x : Nat), r x < n → Dom g u x → u ≠ x → r u < r x
  | 0, _, h, _, _ => by omega
  | n + 1, x, h, hd, hne => by
    have hx0 : x ≠ 0 := fun e => by
      subst e
      exact (hd.2.resolve_left hne) (.zero (by cases hc.zero <;> assumption))
    obtain ⟨f, h1, h2, h3⟩ := hc.fwd x hd.1 hx0
    have hf := dom_pred hd hne h1 h2
    by_cases e : u = f
    · subst e; exact h3
    · have := cx_ahead hc n f (by omega) hf e; omega

/-- Places, those of the first k of the order. -/
def plL (g : G) (o : List Nat) (k : Nat) : List Int := (List.range g.length).map fun b => if o.idxOf b < k ∧ o.idxOf b < o.length then ((o.idxOf b : Nat) : Int) else 0
theorem plL_length (g : G) (o : List Nat) (k : Nat) : (plL g o k).length = g.length := by simp [plL]
theorem plL_zero (g : G) (o : List Nat) : plL g o 0 = List.replicate g.length 0 := by
  refine List.ext_getElem (by simp [plL]) fun i h1 h2 => ?_
  simp [plL]
theorem plL_set {g : G} {o : List Nat} {k : Nat} (hnd : o.Nodup) (hk : k < o.length) : (plL g o k).set o[k] (k : Int) = plL g o (k + 1) := by
  refine List.ext_getElem (by simp [plL]) fun i h1 h2 => ?_
  rw [List.getElem_set]
  simp only [plL, List.getElem_map, List.getElem_range]
  by_cases e : o[k] = i
  · rw [if_pos e, ← e, hnd.idxOf_getElem k hk, if_pos ⟨by omega, hk⟩]
  · rw [if_neg e]
    have hne : o.idxOf i ≠ k := fun e' => by
      apply e
      have hi : o.idxOf i < o.length := by omega
      have := List.getElem_idxOf hi
      simp only [e'] at this; exact this
    by_cases e2 : o.idxOf i < k ∧ o.idxOf i < o.length
    · rw [if_pos e2, if_pos ⟨by omega, e2.2⟩]
    · rw [if_neg e2, if_neg (by omega)]
theorem plL_get {g : G} {d : D} (hd : Dfs g (into g 0 ⟨[], List.replicate g.length false, []⟩) d) {k : Nat} (hk : Rd g k) : (plL g (ordN d) (ordN d).length).getD k default = (rankN d k : Int) := by
  have hl := hk.lt
  have := ord_lt hd hk
  simp only [rankN] at this
  rw [List.length_reverse] at this
  simp [plL, List.getD, hl, this]

/-- Between two steps up. -/
def Up1 (g : G) (r : Nat → Nat) (a b i : Nat) (found : Bool) : Option Nat → Prop
  | some x => (Rd g b ∧ Dom g x b ∧ (found = true ↔ Dom g a b ∧ ¬ Dom g a x) ∧ r x + i ≤ r b) ∨ (¬ Rd g b ∧ x = b ∧ i = 0)
  | none => Rd g b → (found = true ↔ Dom g a b)

theorem Up1.step {g : G} {r : Nat → Nat} {a b i : Nat} {found : Bool} {x : Nat} (hc : Cx g r) (h : Up1 g r a b i found (some x)) {o : Option Nat} (ho : Nst g x (enc o)) : Up1 g r a b (i + 1) (found || decide (x = a)) o ∧ ∀ u, o = some u → Rd g x ∧ Rd g u ∧ r u < r x := by
  rcases ho with ⟨e, hn⟩ | ⟨u, e, h1, h2, h3⟩
  · have : o = none := by
      cases o with
      | none => rfl
      | some u => simp only [enc_some] at e; omega
    subst this
    refine ⟨fun hb => ?_, fun u e => by cases e⟩
    rcases h with ⟨_, hd, hf, _⟩ | ⟨h, _⟩
    · rw [Bool.or_eq_true, hf, decide_eq_true_eq]
      constructor
      · rintro (q | q)
        · exact q.1
        · subst q; exact hd
      · intro q
        by_cases e2 : x = a
        · exact .inr e2
        · exact .inl ⟨q, hn a fun e => e2 e.symm⟩
    · exact (h hb).elim
  · have : o = some u := by
      cases o with
      | none => simp only [enc_none] at e; omega
      | some v => simp only [enc_some] at e; rw [show v = u by omega]
    subst this
    have hr := cx_ahead hc (r x + 1) x (by omega) h2 h1
    have hur : Rd g u := by
      rcases h2.2 with q | q
      · exact (h1 q).elim
      · exact (rch_via (a := u) h2.1).resolve_left q
    refine ⟨?_, fun v e => by cases e; exact ⟨h2.1, hur, hr⟩⟩
    rcases h with ⟨hb, hd, hf, hl⟩ | ⟨h, rfl, _⟩
    · refine .inl ⟨hb, h2.trans hd, ?_, by omega⟩
      rw [Bool.or_eq_true, hf, decide_eq_true_eq]
      constructor
      · rintro (q | q)
        · exact ⟨q.1, fun k => q.2 (k.trans h2)⟩
        · subst q; exact ⟨hd, fun k => h1 (h2.one k)⟩
      · rintro ⟨q1, q2⟩
        by_cases e2 : x = a
        · exact .inr e2
        · exact .inl ⟨q1, fun k => q2 (h3 a (fun e => e2 e.symm) k)⟩
    · exact (h h2.1).elim

set_option maxHeartbeats 1000000 in
theorem flowrow_c (g : G) (hg : Any g) (a b : Int) (ha : 0 ≤ a ∧ a ≤ 255) (hb : 0 ≤ b ∧ b ≤ 255) : Contract Try.prog 7 [grph g, Y8 a, Y8 b] (fun r => r = B true) := by
  refine Contract.of_call (VCall.of_body hmix f_sclaw26_FlowRow (by simp) ?_)
  have ea : IntKind.i64.wrap a = a := i64_in (by omega) (by omega)
  have eb : IntKind.i64.wrap b = b := i64_in (by omega) (by omega)
  simp only [↓VW_skip, ↓VW_ops, ↓VW_par, ↓VW_seq, ↓VW_block, ↓VW_exit, ↓VW_ret, ↓VW_cond, ↓litE_tmp, ↓litE_const, ↓seq_normal, ↓seq_exit, ↓seq_ret, ↓blk_normal, ↓blk_exit, ↓blk_ret, ↓get_nil, ↓get_cons, ↓put_some, ↓put_none, ↓put_some', ↓put_none', ↓VTrL, ↓K.wpD, ↓K.wpE, K.xtra, argEnv, ↓retQ, ↓retW, ↓VR.wp, ↓VRs, binOK, binR, unOK, unR, ldOK, stoOK, putA, partA, partOK, fillA, fillOK, partsOf, evs, boundOf, AV.cells, AV.one, AV.laid, Value.oneCell', Nat.reduceEqDiff, Nat.reduceAdd, Nat.reduceMul, ↓reduceIte, ↓dreduceIte, true_and, and_true, List.cons_append, List.nil_append, List.length_map, List.length_cons, List.length_nil, List.getElem?_cons_zero, List.getElem?_cons_succ, List.map_cons, List.map_nil, Bool.not_true, Bool.not_false, forall_const, reduceCtorEq, false_implies, List.all_cons, List.all_nil, Bool.and_true, Bool.and_self, ↓idxT_map, ↓idxT_cons, ↓cellT_I, ↓cellT_B, ↓cellT_map, ↓cellT_cons, decide_eq_true_eq, decide_eq_false_iff_not, Int.toNat_natCast, bne_iff_ne, ne_eq, Bool.not_eq_true', Bool.not_eq_false', bne_eq_false_iff_eq, beq_iff_eq, beq_eq_false_iff_ne, implies_true, List.getD_cons_zero, List.getD_cons_succ, Bool.false_eq_true, false_or, or_false, true_or, or_true, Int.natCast_nonneg, Int.toNat_zero, Int.toNat_one, List.set_cons_zero, List.set_cons_succ, List.take_zero, List.take_succ_cons, List.take_nil, List.drop_zero, List.drop_succ_cons, List.drop_nil, List.append_nil, Nat.zero_add, Nat.add_zero, Nat.mul_one, Nat.zero_mul, ↓wp_mv, ↓wp_pick, ↓wp_ld, ↓wp_sto, ↓wp_idx, ↓wp_aidx, ↓wp_fad, ↓wp_fld, ↓wp_len, ↓wp_lens, ↓wp_bin, ↓wp_beq, ↓wp_un, ↓wp_conv, ↓wp_sl, ↓wp_sls, ↓wp_mk, ↓wp_app, ↓wp_bsl, ↓wp_bld, ↓wp_box, ↓wp_alc, ↓wp_mkf, ↓wp_nck, ↓wp_ext, ↓wp_call, ↓VOps_nil, ↓VOps_go, ↓VOps_if, ↓evF_tmp, ↓evF_const, ↓evF_func, cv_int, cv_bool, cv_slice, cv_string, cv, Nat.reduceLeDiff, Nat.reduceLT, Nat.le_refl, Nat.reduceSub, Int.reduceToNat, Int.reduceLE, Int.reduceLT, not_true_eq_false, not_false_eq_true, decide_true, decide_false, Bool.true_eq_false, ↓imp_tt, ↓imp_ft, ↓imp_tf, ↓imp_ff, ↓imp_tnt, ↓imp_fnt, ↓imp_tnf, ↓imp_fnf, addedOK, addedN, addedCells, oldA, Old, oldL, ↓VW_range, ↓wp_ycal, ↓wp_six, ↓wp_ixv, ↓wp_eqv, ↓wp_mx, ↓wp_mn, ↓wp_nilq, ↓wp_nils, ↓wp_b2s, ↓wp_look, ↓wp_mlen, ↓wp_cpy, ↓wp_clr, ↓wp_s2b, ↓wp_mkm, ↓wp_upd, ↓eqT_nil, ↓eqT_int, ↓eqT_bool, ↓eqT_str, ↓b2sT_U8, ↓b2sT_nil, ↓lookT_nil, ↓lookT_cons, cv_agg, cv_nilFunc, mapOK_nil, mapOK_cons, updA_nil , c_sclaw26_FlowRow]
  refine VCall.of_contract awake_c (SleL.pure rfl) fun x hx => ?_
  subst hx
  simp only [↓VW_skip, ↓VW_ops, ↓VW_par, ↓VW_seq, ↓VW_block, ↓VW_exit, ↓VW_ret, ↓VW_cond, ↓litE_tmp, ↓litE_const, ↓seq_normal, ↓seq_exit, ↓seq_ret, ↓blk_normal, ↓blk_exit, ↓blk_ret, ↓get_nil, ↓get_cons, ↓put_some, ↓put_none, ↓put_some', ↓put_none', ↓VTrL, ↓K.wpD, ↓K.wpE, K.xtra, argEnv, ↓retQ, ↓retW, ↓VR.wp, ↓VRs, binOK, binR, unOK, unR, ldOK, stoOK, putA, partA, partOK, fillA, fillOK, partsOf, evs, boundOf, AV.cells, AV.one, AV.laid, Value.oneCell', Nat.reduceEqDiff, Nat.reduceAdd, Nat.reduceMul, ↓reduceIte, ↓dreduceIte, true_and, and_true, List.cons_append, List.nil_append, List.length_map, List.length_cons, List.length_nil, List.getElem?_cons_zero, List.getElem?_cons_succ, List.map_cons, List.map_nil, Bool.not_true, Bool.not_false, forall_const, reduceCtorEq, false_implies, List.all_cons, List.all_nil, Bool.and_true, Bool.and_self, ↓idxT_map, ↓idxT_cons, ↓cellT_I, ↓cellT_B, ↓cellT_map, ↓cellT_cons, decide_eq_true_eq, decide_eq_false_iff_not, Int.toNat_natCast, bne_iff_ne, ne_eq, Bool.not_eq_true', Bool.not_eq_false', bne_eq_false_iff_eq, beq_iff_eq, beq_eq_false_iff_ne, implies_true, List.getD_cons_zero, List.getD_cons_succ, Bool.false_eq_true, false_or, or_false, true_or, or_true, Int.natCast_nonneg, Int.toNat_zero, Int.toNat_one, List.set_cons_zero, List.set_cons_succ, List.take_zero, List.take_succ_cons, List.take_nil, List.drop_zero, List.drop_succ_cons, List.drop_nil, List.append_nil, Nat.zero_add, Nat.add_zero, Nat.mul_one, Nat.zero_mul, ↓wp_mv, ↓wp_pick, ↓wp_ld, ↓wp_sto, ↓wp_idx, ↓wp_aidx, ↓wp_fad, ↓wp_fld, ↓wp_len, ↓wp_lens, ↓wp_bin, ↓wp_beq, ↓wp_un, ↓wp_conv, ↓wp_sl, ↓wp_sls, ↓wp_mk, ↓wp_app, ↓wp_bsl, ↓wp_bld, ↓wp_box, ↓wp_alc, ↓wp_mkf, ↓wp_nck, ↓wp_ext, ↓wp_call, ↓VOps_nil, ↓VOps_go, ↓VOps_if, ↓evF_tmp, ↓evF_const, ↓evF_func, cv_int, cv_bool, cv_slice, cv_string, cv, Nat.reduceLeDiff, Nat.reduceLT, Nat.le_refl, Nat.reduceSub, Int.reduceToNat, Int.reduceLE, Int.reduceLT, not_true_eq_false, not_false_eq_true, decide_true, decide_false, Bool.true_eq_false, ↓imp_tt, ↓imp_ft, ↓imp_tf, ↓imp_ff, ↓imp_tnt, ↓imp_fnt, ↓imp_tnf, ↓imp_fnf, addedOK, addedN, addedCells, oldA, Old, oldL, ↓VW_range, ↓wp_ycal, ↓wp_six, ↓wp_ixv, ↓wp_eqv, ↓wp_mx, ↓wp_mn, ↓wp_nilq, ↓wp_nils, ↓wp_b2s, ↓wp_look, ↓wp_mlen, ↓wp_cpy, ↓wp_clr, ↓wp_s2b, ↓wp_mkm, ↓wp_upd, ↓eqT_nil, ↓eqT_int, ↓eqT_bool, ↓eqT_str, ↓b2sT_U8, ↓b2sT_nil, ↓lookT_nil, ↓lookT_cons, cv_agg, cv_nilFunc, mapOK_nil, mapOK_cons, updA_nil ]
  refine VCall.of_contract (small_c g 40 150 hg.len hg.row (by omega) (by omega)) (SleL.pure rfl) fun x hx => ?_
  subst hx
  cases hs : small g 40 150
  · simp only [↓VW_skip, ↓VW_ops, ↓VW_par, ↓VW_seq, ↓VW_block, ↓VW_exit, ↓VW_ret, ↓VW_cond, ↓litE_tmp, ↓litE_const, ↓seq_normal, ↓seq_exit, ↓seq_ret, ↓blk_normal, ↓blk_exit, ↓blk_ret, ↓get_nil, ↓get_cons, ↓put_some, ↓put_none, ↓put_some', ↓put_none', ↓VTrL, ↓K.wpD, ↓K.wpE, K.xtra, argEnv, ↓retQ, ↓retW, ↓VR.wp, ↓VRs, binOK, binR, unOK, unR, ldOK, stoOK, putA, partA, partOK, fillA, fillOK, partsOf, evs, boundOf, AV.cells, AV.one, AV.laid, Value.oneCell', Nat.reduceEqDiff, Nat.reduceAdd, Nat.reduceMul, ↓reduceIte, ↓dreduceIte, true_and, and_true, List.cons_append, List.nil_append, List.length_map, List.length_cons, List.length_nil, List.getElem?_cons_zero, List.getElem?_cons_succ, List.map_cons, List.map_nil, Bool.not_true, Bool.not_false, forall_const, reduceCtorEq, false_implies, List.all_cons, List.all_nil, Bool.and_true, Bool.and_self, ↓idxT_map, ↓idxT_cons, ↓cellT_I, ↓cellT_B, ↓cellT_map, ↓cellT_cons, decide_eq_true_eq, decide_eq_false_iff_not, Int.toNat_natCast, bne_iff_ne, ne_eq, Bool.not_eq_true', Bool.not_eq_false', bne_eq_false_iff_eq, beq_iff_eq, beq_eq_false_iff_ne, implies_true, List.getD_cons_zero, List.getD_cons_succ, Bool.false_eq_true, false_or, or_false, true_or, or_true, Int.natCast_nonneg, Int.toNat_zero, Int.toNat_one, List.set_cons_zero, List.set_cons_succ, List.take_zero, List.take_succ_cons, List.take_nil, List.drop_zero, List.drop_succ_cons, List.drop_nil, List.append_nil, Nat.zero_add, Nat.add_zero, Nat.mul_one, Nat.zero_mul, ↓wp_mv, ↓wp_pick, ↓wp_ld, ↓wp_sto, ↓wp_idx, ↓wp_aidx, ↓wp_fad, ↓wp_fld, ↓wp_len, ↓wp_lens, ↓wp_bin, ↓wp_beq, ↓wp_un, ↓wp_conv, ↓wp_sl, ↓wp_sls, ↓wp_mk, ↓wp_app, ↓wp_bsl, ↓wp_bld, ↓wp_box, ↓wp_alc, ↓wp_mkf, ↓wp_nck, ↓wp_ext, ↓wp_call, ↓VOps_nil, ↓VOps_go, ↓VOps_if, ↓evF_tmp, ↓evF_const, ↓evF_func, cv_int, cv_bool, cv_slice, cv_string, cv, Nat.reduceLeDiff, Nat.reduceLT, Nat.le_refl, Nat.reduceSub, Int.reduceToNat, Int.reduceLE, Int.reduceLT, not_true_eq_false, not_false_eq_true, decide_true, decide_false, Bool.true_eq_false, ↓imp_tt, ↓imp_ft, ↓imp_tf, ↓imp_ff, ↓imp_tnt, ↓imp_fnt, ↓imp_tnf, ↓imp_fnf, addedOK, addedN, addedCells, oldA, Old, oldL, ↓VW_range, ↓wp_ycal, ↓wp_six, ↓wp_ixv, ↓wp_eqv, ↓wp_mx, ↓wp_mn, ↓wp_nilq, ↓wp_nils, ↓wp_b2s, ↓wp_look, ↓wp_mlen, ↓wp_cpy, ↓wp_clr, ↓wp_s2b, ↓wp_mkm, ↓wp_upd, ↓eqT_nil, ↓eqT_int, ↓eqT_bool, ↓eqT_str, ↓b2sT_U8, ↓b2sT_nil, ↓lookT_nil, ↓lookT_cons, cv_agg, cv_nilFunc, mapOK_nil, mapOK_cons, updA_nil ]
    exact ⟨_, Frz.pure rfl, rfl⟩
  have hf := fine_of hs (by omega) (by omega)
  have hlen := hf.len
  by_cases h1 : (g.length : Int) ≤ a
  · simp only [↓VW_skip, ↓VW_ops, ↓VW_par, ↓VW_seq, ↓VW_block, ↓VW_exit, ↓VW_ret, ↓VW_cond, ↓litE_tmp, ↓litE_const, ↓seq_normal, ↓seq_exit, ↓seq_ret, ↓blk_normal, ↓blk_exit, ↓blk_ret, ↓get_nil, ↓get_cons, ↓put_some, ↓put_none, ↓put_some', ↓put_none', ↓VTrL, ↓K.wpD, ↓K.wpE, K.xtra, argEnv, ↓retQ, ↓retW, ↓VR.wp, ↓VRs, binOK, binR, unOK, unR, ldOK, stoOK, putA, partA, partOK, fillA, fillOK, partsOf, evs, boundOf, AV.cells, AV.one, AV.laid, Value.oneCell', Nat.reduceEqDiff, Nat.reduceAdd, Nat.reduceMul, ↓reduceIte, ↓dreduceIte, true_and, and_true, List.cons_append, List.nil_append, List.length_map, List.length_cons, List.length_nil, List.getElem?_cons_zero, List.getElem?_cons_succ, List.map_cons, List.map_nil, Bool.not_true, Bool.not_false, forall_const, reduceCtorEq, false_implies, List.all_cons, List.all_nil, Bool.and_true, Bool.and_self, ↓idxT_map, ↓idxT_cons, ↓cellT_I, ↓cellT_B, ↓cellT_map, ↓cellT_cons, decide_eq_true_eq, decide_eq_false_iff_not, Int.toNat_natCast, bne_iff_ne, ne_eq, Bool.not_eq_true', Bool.not_eq_false', bne_eq_false_iff_eq, beq_iff_eq, beq_eq_false_iff_ne, implies_true, List.getD_cons_zero, List.getD_cons_succ, Bool.false_eq_true, false_or, or_false, true_or, or_true, Int.natCast_nonneg, Int.toNat_zero, Int.toNat_one, List.set_cons_zero, List.set_cons_succ, List.take_zero, List.take_succ_cons, List.take_nil, List.drop_zero, List.drop_succ_cons, List.drop_nil, List.append_nil, Nat.zero_add, Nat.add_zero, Nat.mul_one, Nat.zero_mul, ↓wp_mv, ↓wp_pick, ↓wp_ld, ↓wp_sto, ↓wp_idx, ↓wp_aidx, ↓wp_fad, ↓wp_fld, ↓wp_len, ↓wp_lens, ↓wp_bin, ↓wp_beq, ↓wp_un, ↓wp_conv, ↓wp_sl, ↓wp_sls, ↓wp_mk, ↓wp_app, ↓wp_bsl, ↓wp_bld, ↓wp_box, ↓wp_alc, ↓wp_mkf, ↓wp_nck, ↓wp_ext, ↓wp_call, ↓VOps_nil, ↓VOps_go, ↓VOps_if, ↓evF_tmp, ↓evF_const, ↓evF_func, cv_int, cv_bool, cv_slice, cv_string, cv, Nat.reduceLeDiff, Nat.reduceLT, Nat.le_refl, Nat.reduceSub, Int.reduceToNat, Int.reduceLE, Int.reduceLT, not_true_eq_false, not_false_eq_true, decide_true, decide_false, Bool.true_eq_false, ↓imp_tt, ↓imp_ft, ↓imp_tf, ↓imp_ff, ↓imp_tnt, ↓imp_fnt, ↓imp_tnf, ↓imp_fnf, addedOK, addedN, addedCells, oldA, Old, oldL, ↓VW_range, ↓wp_ycal, ↓wp_six, ↓wp_ixv, ↓wp_eqv, ↓wp_mx, ↓wp_mn, ↓wp_nilq, ↓wp_nils, ↓wp_b2s, ↓wp_look, ↓wp_mlen, ↓wp_cpy, ↓wp_clr, ↓wp_s2b, ↓wp_mkm, ↓wp_upd, ↓eqT_nil, ↓eqT_int, ↓eqT_bool, ↓eqT_str, ↓b2sT_U8, ↓b2sT_nil, ↓lookT_nil, ↓lookT_cons, cv_agg, cv_nilFunc, mapOK_nil, mapOK_cons, updA_nil , ea, eb, eq_true h1]
    exact ⟨_, Frz.pure rfl, rfl⟩
  by_cases h2 : (g.length : Int) ≤ b
  · simp only [↓VW_skip, ↓VW_ops, ↓VW_par, ↓VW_seq, ↓VW_block, ↓VW_exit, ↓VW_ret, ↓VW_cond, ↓litE_tmp, ↓litE_const, ↓seq_normal, ↓seq_exit, ↓seq_ret, ↓blk_normal, ↓blk_exit, ↓blk_ret, ↓get_nil, ↓get_cons, ↓put_some, ↓put_none, ↓put_some', ↓put_none', ↓VTrL, ↓K.wpD, ↓K.wpE, K.xtra, argEnv, ↓retQ, ↓retW, ↓VR.wp, ↓VRs, binOK, binR, unOK, unR, ldOK, stoOK, putA, partA, partOK, fillA, fillOK, partsOf, evs, boundOf, AV.cells, AV.one, AV.laid, Value.oneCell', Nat.reduceEqDiff, Nat.reduceAdd, Nat.reduceMul, ↓reduceIte, ↓dreduceIte, true_and, and_true, List.cons_append, List.nil_append, List.length_map, List.length_cons, List.length_nil, List.getElem?_cons_zero, List.getElem?_cons_succ, List.map_cons, List.map_nil, Bool.not_true, Bool.not_false, forall_const, reduceCtorEq, false_implies, List.all_cons, List.all_nil, Bool.and_true, Bool.and_self, ↓idxT_map, ↓idxT_cons, ↓cellT_I, ↓cellT_B, ↓cellT_map, ↓cellT_cons, decide_eq_true_eq, decide_eq_false_iff_not, Int.toNat_natCast, bne_iff_ne, ne_eq, Bool.not_eq_true', Bool.not_eq_false', bne_eq_false_iff_eq, beq_iff_eq, beq_eq_false_iff_ne, implies_true, List.getD_cons_zero, List.getD_cons_succ, Bool.false_eq_true, false_or, or_false, true_or, or_true, Int.natCast_nonneg, Int.toNat_zero, Int.toNat_one, List.set_cons_zero, List.set_cons_succ, List.take_zero, List.take_succ_cons, List.take_nil, List.drop_zero, List.drop_succ_cons, List.drop_nil, List.append_nil, Nat.zero_add, Nat.add_zero, Nat.mul_one, Nat.zero_mul, ↓wp_mv, ↓wp_pick, ↓wp_ld, ↓wp_sto, ↓wp_idx, ↓wp_aidx, ↓wp_fad, ↓wp_fld, ↓wp_len, ↓wp_lens, ↓wp_bin, ↓wp_beq, ↓wp_un, ↓wp_conv, ↓wp_sl, ↓wp_sls, ↓wp_mk, ↓wp_app, ↓wp_bsl, ↓wp_bld, ↓wp_box, ↓wp_alc, ↓wp_mkf, ↓wp_nck, ↓wp_ext, ↓wp_call, ↓VOps_nil, ↓VOps_go, ↓VOps_if, ↓evF_tmp, ↓evF_const, ↓evF_func, cv_int, cv_bool, cv_slice, cv_string, cv, Nat.reduceLeDiff, Nat.reduceLT, Nat.le_refl, Nat.reduceSub, Int.reduceToNat, Int.reduceLE, Int.reduceLT, not_true_eq_false, not_false_eq_true, decide_true, decide_false, Bool.true_eq_false, ↓imp_tt, ↓imp_ft, ↓imp_tf, ↓imp_ff, ↓imp_tnt, ↓imp_fnt, ↓imp_tnf, ↓imp_fnf, addedOK, addedN, addedCells, oldA, Old, oldL, ↓VW_range, ↓wp_ycal, ↓wp_six, ↓wp_ixv, ↓wp_eqv, ↓wp_mx, ↓wp_mn, ↓wp_nilq, ↓wp_nils, ↓wp_b2s, ↓wp_look, ↓wp_mlen, ↓wp_cpy, ↓wp_clr, ↓wp_s2b, ↓wp_mkm, ↓wp_upd, ↓eqT_nil, ↓eqT_int, ↓eqT_bool, ↓eqT_str, ↓b2sT_U8, ↓b2sT_nil, ↓lookT_nil, ↓lookT_cons, cv_agg, cv_nilFunc, mapOK_nil, mapOK_cons, updA_nil , ea, eb, eq_true h2, eq_false h1]
    exact ⟨_, Frz.pure rfl, rfl⟩
  have hg0 : 0 < g.length := by omega
  obtain ⟨d, hd⟩ := dfs_exists g _ (into g 0 ⟨[], List.replicate g.length false, []⟩) (Nat.le_refl _)
  have hc := ord_cx hd hg0
  have hnd := ord_nodup hd hg0
  have hol := ord_len hd hg0
  have hordL : ordL d = (ordN d).map fun b : Nat => (b : Int) := by simp [ordL, ordN]
  have hrl := reachL_length g (-1)
  obtain ⟨a, rfl⟩ := Int.eq_ofNat_of_zero_le ha.1
  obtain ⟨b, rfl⟩ := Int.eq_ofNat_of_zero_le hb.1
  have hal : a < g.length := by omega
  have hbl : b < g.length := by omega
  simp only [↓VW_skip, ↓VW_ops, ↓VW_par, ↓VW_seq, ↓VW_block, ↓VW_exit, ↓VW_ret, ↓VW_cond, ↓litE_tmp, ↓litE_const, ↓seq_normal, ↓seq_exit, ↓seq_ret, ↓blk_normal, ↓blk_exit, ↓blk_ret, ↓get_nil, ↓get_cons, ↓put_some, ↓put_none, ↓put_some', ↓put_none', ↓VTrL, ↓K.wpD, ↓K.wpE, K.xtra, argEnv, ↓retQ, ↓retW, ↓VR.wp, ↓VRs, binOK, binR, unOK, unR, ldOK, stoOK, putA, partA, partOK, fillA, fillOK, partsOf, evs, boundOf, AV.cells, AV.one, AV.laid, Value.oneCell', Nat.reduceEqDiff, Nat.reduceAdd, Nat.reduceMul, ↓reduceIte, ↓dreduceIte, true_and, and_true, List.cons_append, List.nil_append, List.length_map, List.length_cons, List.length_nil, List.getElem?_cons_zero, List.getElem?_cons_succ, List.map_cons, List.map_nil, Bool.not_true, Bool.not_false, forall_const, reduceCtorEq, false_implies, List.all_cons, List.all_nil, Bool.and_true, Bool.and_self, ↓idxT_map, ↓idxT_cons, ↓cellT_I, ↓cellT_B, ↓cellT_map, ↓cellT_cons, decide_eq_true_eq, decide_eq_false_iff_not, Int.toNat_natCast, bne_iff_ne, ne_eq, Bool.not_eq_true', Bool.not_eq_false', bne_eq_false_iff_eq, beq_iff_eq, beq_eq_false_iff_ne, implies_true, List.getD_cons_zero, List.getD_cons_succ, Bool.false_eq_true, false_or, or_false, true_or, or_true, Int.natCast_nonneg, Int.toNat_zero, Int.toNat_one, List.set_cons_zero, List.set_cons_succ, List.take_zero, List.take_succ_cons, List.take_nil, List.drop_zero, List.drop_succ_cons, List.drop_nil, List.append_nil, Nat.zero_add, Nat.add_zero, Nat.mul_one, Nat.zero_mul, ↓wp_mv, ↓wp_pick, ↓wp_ld, ↓wp_sto, ↓wp_idx, ↓wp_aidx, ↓wp_fad, ↓wp_fld, ↓wp_len, ↓wp_lens, ↓wp_bin, ↓wp_beq, ↓wp_un, ↓wp_conv, ↓wp_sl, ↓wp_sls, ↓wp_mk, ↓wp_app, ↓wp_bsl, ↓wp_bld, ↓wp_box, ↓wp_alc, ↓wp_mkf, ↓wp_nck, ↓wp_ext, ↓wp_call, ↓VOps_nil, ↓VOps_go, ↓VOps_if, ↓evF_tmp, ↓evF_const, ↓evF_func, cv_int, cv_bool, cv_slice, cv_string, cv, Nat.reduceLeDiff, Nat.reduceLT, Nat.le_refl, Nat.reduceSub, Int.reduceToNat, Int.reduceLE, Int.reduceLT, not_true_eq_false, not_false_eq_true, decide_true, decide_false, Bool.true_eq_false, ↓imp_tt, ↓imp_ft, ↓imp_tf, ↓imp_ff, ↓imp_tnt, ↓imp_fnt, ↓imp_tnf, ↓imp_fnf, addedOK, addedN, addedCells, oldA, Old, oldL, ↓VW_range, ↓wp_ycal, ↓wp_six, ↓wp_ixv, ↓wp_eqv, ↓wp_mx, ↓wp_mn, ↓wp_nilq, ↓wp_nils, ↓wp_b2s, ↓wp_look, ↓wp_mlen, ↓wp_cpy, ↓wp_clr, ↓wp_s2b, ↓wp_mkm, ↓wp_upd, ↓eqT_nil, ↓eqT_int, ↓eqT_bool, ↓eqT_str, ↓b2sT_U8, ↓b2sT_nil, ↓lookT_nil, ↓lookT_cons, cv_agg, cv_nilFunc, mapOK_nil, mapOK_cons, updA_nil , ea, eb, eq_false h2, eq_false h1]
  refine VCall.of_contract (reach_c g hf) (SleL.pure rfl) fun x hx => ?_
  subst hx
  simp only [↓VW_skip, ↓VW_ops, ↓VW_par, ↓VW_seq, ↓VW_block, ↓VW_exit, ↓VW_ret, ↓VW_cond, ↓litE_tmp, ↓litE_const, ↓seq_normal, ↓seq_exit, ↓seq_ret, ↓blk_normal, ↓blk_exit, ↓blk_ret, ↓get_nil, ↓get_cons, ↓put_some, ↓put_none, ↓put_some', ↓put_none', ↓VTrL, ↓K.wpD, ↓K.wpE, K.xtra, argEnv, ↓retQ, ↓retW, ↓VR.wp, ↓VRs, binOK, binR, unOK, unR, ldOK, stoOK, putA, partA, partOK, fillA, fillOK, partsOf, evs, boundOf, AV.cells, AV.one, AV.laid, Value.oneCell', Nat.reduceEqDiff, Nat.reduceAdd, Nat.reduceMul, ↓reduceIte, ↓dreduceIte, true_and, and_true, List.cons_append, List.nil_append, List.length_map, List.length_cons, List.length_nil, List.getElem?_cons_zero, List.getElem?_cons_succ, List.map_cons, List.map_nil, Bool.not_true, Bool.not_false, forall_const, reduceCtorEq, false_implies, List.all_cons, List.all_nil, Bool.and_true, Bool.and_self, ↓idxT_map, ↓idxT_cons, ↓cellT_I, ↓cellT_B, ↓cellT_map, ↓cellT_cons, decide_eq_true_eq, decide_eq_false_iff_not, Int.toNat_natCast, bne_iff_ne, ne_eq, Bool.not_eq_true', Bool.not_eq_false', bne_eq_false_iff_eq, beq_iff_eq, beq_eq_false_iff_ne, implies_true, List.getD_cons_zero, List.getD_cons_succ, Bool.false_eq_true, false_or, or_false, true_or, or_true, Int.natCast_nonneg, Int.toNat_zero, Int.toNat_one, List.set_cons_zero, List.set_cons_succ, List.take_zero, List.take_succ_cons, List.take_nil, List.drop_zero, List.drop_succ_cons, List.drop_nil, List.append_nil, Nat.zero_add, Nat.add_zero, Nat.mul_one, Nat.zero_mul, ↓wp_mv, ↓wp_pick, ↓wp_ld, ↓wp_sto, ↓wp_idx, ↓wp_aidx, ↓wp_fad, ↓wp_fld, ↓wp_len, ↓wp_lens, ↓wp_bin, ↓wp_beq, ↓wp_un, ↓wp_conv, ↓wp_sl, ↓wp_sls, ↓wp_mk, ↓wp_app, ↓wp_bsl, ↓wp_bld, ↓wp_box, ↓wp_alc, ↓wp_mkf, ↓wp_nck, ↓wp_ext, ↓wp_call, ↓VOps_nil, ↓VOps_go, ↓VOps_if, ↓evF_tmp, ↓evF_const, ↓evF_func, cv_int, cv_bool, cv_slice, cv_string, cv, Nat.reduceLeDiff, Nat.reduceLT, Nat.le_refl, Nat.reduceSub, Int.reduceToNat, Int.reduceLE, Int.reduceLT, not_true_eq_false, not_false_eq_true, decide_true, decide_false, Bool.true_eq_false, ↓imp_tt, ↓imp_ft, ↓imp_tf, ↓imp_ff, ↓imp_tnt, ↓imp_fnt, ↓imp_tnf, ↓imp_fnf, addedOK, addedN, addedCells, oldA, Old, oldL, ↓VW_range, ↓wp_ycal, ↓wp_six, ↓wp_ixv, ↓wp_eqv, ↓wp_mx, ↓wp_mn, ↓wp_nilq, ↓wp_nils, ↓wp_b2s, ↓wp_look, ↓wp_mlen, ↓wp_cpy, ↓wp_clr, ↓wp_s2b, ↓wp_mkm, ↓wp_upd, ↓eqT_nil, ↓eqT_int, ↓eqT_bool, ↓eqT_str, ↓b2sT_U8, ↓b2sT_nil, ↓lookT_nil, ↓lookT_cons, cv_agg, cv_nilFunc, mapOK_nil, mapOK_cons, updA_nil ]
  refine VCall.of_contract (aboveA_c g hf) (SleL.pure rfl) fun x hx => ?_
  obtain ⟨L, rfl, hL, hN⟩ := hx
  simp only [↓VW_skip, ↓VW_ops, ↓VW_par, ↓VW_seq, ↓VW_block, ↓VW_exit, ↓VW_ret, ↓VW_cond, ↓litE_tmp, ↓litE_const, ↓seq_normal, ↓seq_exit, ↓seq_ret, ↓blk_normal, ↓blk_exit, ↓blk_ret, ↓get_nil, ↓get_cons, ↓put_some, ↓put_none, ↓put_some', ↓put_none', ↓VTrL, ↓K.wpD, ↓K.wpE, K.xtra, argEnv, ↓retQ, ↓retW, ↓VR.wp, ↓VRs, binOK, binR, unOK, unR, ldOK, stoOK, putA, partA, partOK, fillA, fillOK, partsOf, evs, boundOf, AV.cells, AV.one, AV.laid, Value.oneCell', Nat.reduceEqDiff, Nat.reduceAdd, Nat.reduceMul, ↓reduceIte, ↓dreduceIte, true_and, and_true, List.cons_append, List.nil_append, List.length_map, List.length_cons, List.length_nil, List.getElem?_cons_zero, List.getElem?_cons_succ, List.map_cons, List.map_nil, Bool.not_true, Bool.not_false, forall_const, reduceCtorEq, false_implies, List.all_cons, List.all_nil, Bool.and_true, Bool.and_self, ↓idxT_map, ↓idxT_cons, ↓cellT_I, ↓cellT_B, ↓cellT_map, ↓cellT_cons, decide_eq_true_eq, decide_eq_false_iff_not, Int.toNat_natCast, bne_iff_ne, ne_eq, Bool.not_eq_true', Bool.not_eq_false', bne_eq_false_iff_eq, beq_iff_eq, beq_eq_false_iff_ne, implies_true, List.getD_cons_zero, List.getD_cons_succ, Bool.false_eq_true, false_or, or_false, true_or, or_true, Int.natCast_nonneg, Int.toNat_zero, Int.toNat_one, List.set_cons_zero, List.set_cons_succ, List.take_zero, List.take_succ_cons, List.take_nil, List.drop_zero, List.drop_succ_cons, List.drop_nil, List.append_nil, Nat.zero_add, Nat.add_zero, Nat.mul_one, Nat.zero_mul, ↓wp_mv, ↓wp_pick, ↓wp_ld, ↓wp_sto, ↓wp_idx, ↓wp_aidx, ↓wp_fad, ↓wp_fld, ↓wp_len, ↓wp_lens, ↓wp_bin, ↓wp_beq, ↓wp_un, ↓wp_conv, ↓wp_sl, ↓wp_sls, ↓wp_mk, ↓wp_app, ↓wp_bsl, ↓wp_bld, ↓wp_box, ↓wp_alc, ↓wp_mkf, ↓wp_nck, ↓wp_ext, ↓wp_call, ↓VOps_nil, ↓VOps_go, ↓VOps_if, ↓evF_tmp, ↓evF_const, ↓evF_func, cv_int, cv_bool, cv_slice, cv_string, cv, Nat.reduceLeDiff, Nat.reduceLT, Nat.le_refl, Nat.reduceSub, Int.reduceToNat, Int.reduceLE, Int.reduceLT, not_true_eq_false, not_false_eq_true, decide_true, decide_false, Bool.true_eq_false, ↓imp_tt, ↓imp_ft, ↓imp_tf, ↓imp_ff, ↓imp_tnt, ↓imp_fnt, ↓imp_tnf, ↓imp_fnf, addedOK, addedN, addedCells, oldA, Old, oldL, ↓VW_range, ↓wp_ycal, ↓wp_six, ↓wp_ixv, ↓wp_eqv, ↓wp_mx, ↓wp_mn, ↓wp_nilq, ↓wp_nils, ↓wp_b2s, ↓wp_look, ↓wp_mlen, ↓wp_cpy, ↓wp_clr, ↓wp_s2b, ↓wp_mkm, ↓wp_upd, ↓eqT_nil, ↓eqT_int, ↓eqT_bool, ↓eqT_str, ↓b2sT_U8, ↓b2sT_nil, ↓lookT_nil, ↓lookT_cons, cv_agg, cv_nilFunc, mapOK_nil, mapOK_cons, updA_nil ]
  refine VCall.of_contract (order_c g hf d hd).old (SleL.pure rfl) fun x hx => ?_
  subst hx
  simp only [↓VW_skip, ↓VW_ops, ↓VW_par, ↓VW_seq, ↓VW_block, ↓VW_exit, ↓VW_ret, ↓VW_cond, ↓litE_tmp, ↓litE_const, ↓seq_normal, ↓seq_exit, ↓seq_ret, ↓blk_normal, ↓blk_exit, ↓blk_ret, ↓get_nil, ↓get_cons, ↓put_some, ↓put_none, ↓put_some', ↓put_none', ↓VTrL, ↓K.wpD, ↓K.wpE, K.xtra, argEnv, ↓retQ, ↓retW, ↓VR.wp, ↓VRs, binOK, binR, unOK, unR, ldOK, stoOK, putA, partA, partOK, fillA, fillOK, partsOf, evs, boundOf, AV.cells, AV.one, AV.laid, Value.oneCell', Nat.reduceEqDiff, Nat.reduceAdd, Nat.reduceMul, ↓reduceIte, ↓dreduceIte, true_and, and_true, List.cons_append, List.nil_append, List.length_map, List.length_cons, List.length_nil, List.getElem?_cons_zero, List.getElem?_cons_succ, List.map_cons, List.map_nil, Bool.not_true, Bool.not_false, forall_const, reduceCtorEq, false_implies, List.all_cons, List.all_nil, Bool.and_true, Bool.and_self, ↓idxT_map, ↓idxT_cons, ↓cellT_I, ↓cellT_B, ↓cellT_map, ↓cellT_cons, decide_eq_true_eq, decide_eq_false_iff_not, Int.toNat_natCast, bne_iff_ne, ne_eq, Bool.not_eq_true', Bool.not_eq_false', bne_eq_false_iff_eq, beq_iff_eq, beq_eq_false_iff_ne, implies_true, List.getD_cons_zero, List.getD_cons_succ, Bool.false_eq_true, false_or, or_false, true_or, or_true, Int.natCast_nonneg, Int.toNat_zero, Int.toNat_one, List.set_cons_zero, List.set_cons_succ, List.take_zero, List.take_succ_cons, List.take_nil, List.drop_zero, List.drop_succ_cons, List.drop_nil, List.append_nil, Nat.zero_add, Nat.add_zero, Nat.mul_one, Nat.zero_mul, ↓wp_mv, ↓wp_pick, ↓wp_ld, ↓wp_sto, ↓wp_idx, ↓wp_aidx, ↓wp_fad, ↓wp_fld, ↓wp_len, ↓wp_lens, ↓wp_bin, ↓wp_beq, ↓wp_un, ↓wp_conv, ↓wp_sl, ↓wp_sls, ↓wp_mk, ↓wp_app, ↓wp_bsl, ↓wp_bld, ↓wp_box, ↓wp_alc, ↓wp_mkf, ↓wp_nck, ↓wp_ext, ↓wp_call, ↓VOps_nil, ↓VOps_go, ↓VOps_if, ↓evF_tmp, ↓evF_const, ↓evF_func, cv_int, cv_bool, cv_slice, cv_string, cv, Nat.reduceLeDiff, Nat.reduceLT, Nat.le_refl, Nat.reduceSub, Int.reduceToNat, Int.reduceLE, Int.reduceLT, not_true_eq_false, not_false_eq_true, decide_true, decide_false, Bool.true_eq_false, ↓imp_tt, ↓imp_ft, ↓imp_tf, ↓imp_ff, ↓imp_tnt, ↓imp_fnt, ↓imp_tnf, ↓imp_fnf, addedOK, addedN, addedCells, oldA, Old, oldL, ↓VW_range, ↓wp_ycal, ↓wp_six, ↓wp_ixv, ↓wp_eqv, ↓wp_mx, ↓wp_mn, ↓wp_nilq, ↓wp_nils, ↓wp_b2s, ↓wp_look, ↓wp_mlen, ↓wp_cpy, ↓wp_clr, ↓wp_s2b, ↓wp_mkm, ↓wp_upd, ↓eqT_nil, ↓eqT_int, ↓eqT_bool, ↓eqT_str, ↓b2sT_U8, ↓b2sT_nil, ↓lookT_nil, ↓lookT_cons, cv_agg, cv_nilFunc, mapOK_nil, mapOK_cons, updA_nil , hrl, hL, hordL, bne_self_eq_false]
  repeat (refine And.intro (by omega) ?_)
  refine VW_loop (fun k : Nat => ⟨[(0, grph g), (1, Y8 a), (2, Y8 b), (7, bools (reachL g (-1))), (8, ints L), (9, ints ((ordN d).map fun b : Nat => (b : Int))), (10, .ref 0 0 0 g.length), (11, I k)], [⟨0, 3, 1, (plL g (ordN d) k).map I⟩], 1⟩)
    (fun k => k ≤ (ordN d).length) (fun k => (ordN d).length - k) 0 (Wk.mk (by simp [get_cons]) ⟨[], by simp [flat_rep, plL_zero]⟩ (Nat.le_refl _)) (by omega) ?_
  intro k hk
  have hpl := plL_length g (ordN d) k
  by_cases h3 : k < (ordN d).length
  case pos =>
    have ew : ((ordN d).map fun b : Nat => (b : Int)).getD k default = (((ordN d)[k] : Nat) : Int) := by
      simp only [List.getD, List.getElem?_map, List.getElem?_eq_getElem h3, Option.map_some, Option.getD_some]
    have hwl : (ordN d)[k] < g.length := ((ord_mem hd).1 (List.getElem_mem h3)).lt
    have hset := plL_set hnd h3 (g := g)
    generalize (ordN d)[k] = w at ew hwl hset
    have h3' := eq_true (show (k : Int) < ((ordN d).length : Int) by omega)
    have h4' := eq_false (show ¬ (w : Int) < 0 by omega)
    have h5' := eq_false (show ¬ (g.length : Int) ≤ (w : Int) by omega)
    simp only [↓VW_skip, ↓VW_ops, ↓VW_par, ↓VW_seq, ↓VW_block, ↓VW_exit, ↓VW_ret, ↓VW_cond, ↓litE_tmp, ↓litE_const, ↓seq_normal, ↓seq_exit, ↓seq_ret, ↓blk_normal, ↓blk_exit, ↓blk_ret, ↓get_nil, ↓get_cons, ↓put_some, ↓put_none, ↓put_some', ↓put_none', ↓VTrL, ↓K.wpD, ↓K.wpE, K.xtra, argEnv, ↓retQ, ↓retW, ↓VR.wp, ↓VRs, binOK, binR, unOK, unR, ldOK, stoOK, putA, partA, partOK, fillA, fillOK, partsOf, evs, boundOf, AV.cells, AV.one, AV.laid, Value.oneCell', Nat.reduceEqDiff, Nat.reduceAdd, Nat.reduceMul, ↓reduceIte, ↓dreduceIte, true_and, and_true, List.cons_append, List.nil_append, List.length_map, List.length_cons, List.length_nil, List.getElem?_cons_zero, List.getElem?_cons_succ, List.map_cons, List.map_nil, Bool.not_true, Bool.not_false, forall_const, reduceCtorEq, false_implies, List.all_cons, List.all_nil, Bool.and_true, Bool.and_self, ↓idxT_map, ↓idxT_cons, ↓cellT_I, ↓cellT_B, ↓cellT_map, ↓cellT_cons, decide_eq_true_eq, decide_eq_false_iff_not, Int.toNat_natCast, bne_iff_ne, ne_eq, Bool.not_eq_true', Bool.not_eq_false', bne_eq_false_iff_eq, beq_iff_eq, beq_eq_false_iff_ne, implies_true, List.getD_cons_zero, List.getD_cons_succ, Bool.false_eq_true, false_or, or_false, true_or, or_true, Int.natCast_nonneg, Int.toNat_zero, Int.toNat_one, List.set_cons_zero, List.set_cons_succ, List.take_zero, List.take_succ_cons, List.take_nil, List.drop_zero, List.drop_succ_cons, List.drop_nil, List.append_nil, Nat.zero_add, Nat.add_zero, Nat.mul_one, Nat.zero_mul, ↓wp_mv, ↓wp_pick, ↓wp_ld, ↓wp_sto, ↓wp_idx, ↓wp_aidx, ↓wp_fad, ↓wp_fld, ↓wp_len, ↓wp_lens, ↓wp_bin, ↓wp_beq, ↓wp_un, ↓wp_conv, ↓wp_sl, ↓wp_sls, ↓wp_mk, ↓wp_app, ↓wp_bsl, ↓wp_bld, ↓wp_box, ↓wp_alc, ↓wp_mkf, ↓wp_nck, ↓wp_ext, ↓wp_call, ↓VOps_nil, ↓VOps_go, ↓VOps_if, ↓evF_tmp, ↓evF_const, ↓evF_func, cv_int, cv_bool, cv_slice, cv_string, cv, Nat.reduceLeDiff, Nat.reduceLT, Nat.le_refl, Nat.reduceSub, Int.reduceToNat, Int.reduceLE, Int.reduceLT, not_true_eq_false, not_false_eq_true, decide_true, decide_false, Bool.true_eq_false, ↓imp_tt, ↓imp_ft, ↓imp_tf, ↓imp_ff, ↓imp_tnt, ↓imp_fnt, ↓imp_tnf, ↓imp_fnf, addedOK, addedN, addedCells, oldA, Old, oldL, ↓VW_range, ↓wp_ycal, ↓wp_six, ↓wp_ixv, ↓wp_eqv, ↓wp_mx, ↓wp_mn, ↓wp_nilq, ↓wp_nils, ↓wp_b2s, ↓wp_look, ↓wp_mlen, ↓wp_cpy, ↓wp_clr, ↓wp_s2b, ↓wp_mkm, ↓wp_upd, ↓eqT_nil, ↓eqT_int, ↓eqT_bool, ↓eqT_str, ↓b2sT_U8, ↓b2sT_nil, ↓lookT_nil, ↓lookT_cons, cv_agg, cv_nilFunc, mapOK_nil, mapOK_cons, updA_nil , h3', Int.toNat_natCast, ew, h4', h5', set_map, hset, hpl, List.length_map]
    repeat (refine And.intro (by omega) ?_)
    rw [i64_in (by omega) (by omega)]
    exact ⟨k + 1, by omega, by omega, Wk.mk (by simp [get_cons]) ⟨[], by simp⟩ (Nat.le_refl _)⟩
  have h3' := eq_false (show ¬ (k : Int) < ((ordN d).length : Int) by omega)
  have hkl : k = (ordN d).length := by omega
  subst hkl
  have hplg := fun {x : Nat} (hx : Rd g x) => plL_get hd hx
  generalize plL g (ordN d) (ordN d).length = pl at hplg hpl
  simp only [↓VW_skip, ↓VW_ops, ↓VW_par, ↓VW_seq, ↓VW_block, ↓VW_exit, ↓VW_ret, ↓VW_cond, ↓litE_tmp, ↓litE_const, ↓seq_normal, ↓seq_exit, ↓seq_ret, ↓blk_normal, ↓blk_exit, ↓blk_ret, ↓get_nil, ↓get_cons, ↓put_some, ↓put_none, ↓put_some', ↓put_none', ↓VTrL, ↓K.wpD, ↓K.wpE, K.xtra, argEnv, ↓retQ, ↓retW, ↓VR.wp, ↓VRs, binOK, binR, unOK, unR, ldOK, stoOK, putA, partA, partOK, fillA, fillOK, partsOf, evs, boundOf, AV.cells, AV.one, AV.laid, Value.oneCell', Nat.reduceEqDiff, Nat.reduceAdd, Nat.reduceMul, ↓reduceIte, ↓dreduceIte, true_and, and_true, List.cons_append, List.nil_append, List.length_map, List.length_cons, List.length_nil, List.getElem?_cons_zero, List.getElem?_cons_succ, List.map_cons, List.map_nil, Bool.not_true, Bool.not_false, forall_const, reduceCtorEq, false_implies, List.all_cons, List.all_nil, Bool.and_true, Bool.and_self, ↓idxT_map, ↓idxT_cons, ↓cellT_I, ↓cellT_B, ↓cellT_map, ↓cellT_cons, decide_eq_true_eq, decide_eq_false_iff_not, Int.toNat_natCast, bne_iff_ne, ne_eq, Bool.not_eq_true', Bool.not_eq_false', bne_eq_false_iff_eq, beq_iff_eq, beq_eq_false_iff_ne, implies_true, List.getD_cons_zero, List.getD_cons_succ, Bool.false_eq_true, false_or, or_false, true_or, or_true, Int.natCast_nonneg, Int.toNat_zero, Int.toNat_one, List.set_cons_zero, List.set_cons_succ, List.take_zero, List.take_succ_cons, List.take_nil, List.drop_zero, List.drop_succ_cons, List.drop_nil, List.append_nil, Nat.zero_add, Nat.add_zero, Nat.mul_one, Nat.zero_mul, ↓wp_mv, ↓wp_pick, ↓wp_ld, ↓wp_sto, ↓wp_idx, ↓wp_aidx, ↓wp_fad, ↓wp_fld, ↓wp_len, ↓wp_lens, ↓wp_bin, ↓wp_beq, ↓wp_un, ↓wp_conv, ↓wp_sl, ↓wp_sls, ↓wp_mk, ↓wp_app, ↓wp_bsl, ↓wp_bld, ↓wp_box, ↓wp_alc, ↓wp_mkf, ↓wp_nck, ↓wp_ext, ↓wp_call, ↓VOps_nil, ↓VOps_go, ↓VOps_if, ↓evF_tmp, ↓evF_const, ↓evF_func, cv_int, cv_bool, cv_slice, cv_string, cv, Nat.reduceLeDiff, Nat.reduceLT, Nat.le_refl, Nat.reduceSub, Int.reduceToNat, Int.reduceLE, Int.reduceLT, not_true_eq_false, not_false_eq_true, decide_true, decide_false, Bool.true_eq_false, ↓imp_tt, ↓imp_ft, ↓imp_tf, ↓imp_ff, ↓imp_tnt, ↓imp_fnt, ↓imp_tnf, ↓imp_fnf, addedOK, addedN, addedCells, oldA, Old, oldL, ↓VW_range, ↓wp_ycal, ↓wp_six, ↓wp_ixv, ↓wp_eqv, ↓wp_mx, ↓wp_mn, ↓wp_nilq, ↓wp_nils, ↓wp_b2s, ↓wp_look, ↓wp_mlen, ↓wp_cpy, ↓wp_clr, ↓wp_s2b, ↓wp_mkm, ↓wp_upd, ↓eqT_nil, ↓eqT_int, ↓eqT_bool, ↓eqT_str, ↓b2sT_U8, ↓b2sT_nil, ↓lookT_nil, ↓lookT_cons, cv_agg, cv_nilFunc, mapOK_nil, mapOK_cons, updA_nil , h3', eb]
  refine VW_loop (fun q : Option Nat × Bool × Nat => ⟨[(0, grph g), (1, Y8 a), (2, Y8 b), (7, bools (reachL g (-1))), (8, ints L), (10, .ref 0 0 0 g.length), (12, B q.2.1), (13, I (enc q.1)), (14, I q.2.2)], [⟨0, 3, 1, pl.map I⟩], 1⟩)
    (fun q => Up1 g (rankN d) a b q.2.2 q.2.1 q.1 ∧ q.2.2 ≤ g.length + 1 ∧ (∀ x, q.1 = some x → x < g.length)) (fun q => g.length + 1 - q.2.2) (some b, false, 0)
    (Wk.mk (by simp [get_cons, enc]) ⟨[], rfl⟩ (Nat.le_refl _)) ⟨?_, by simp, fun x e => by cases e; exact hbl⟩ ?_
  · by_cases hr : Rd g b
    · exact .inl ⟨hr, ⟨hr, .inl rfl⟩, by simp, Nat.le_refl _⟩
    · exact .inr ⟨hr, rfl, rfl⟩
  rintro ⟨o, found, i⟩ ⟨hU, hi, hox⟩
  simp only at hU hi hox
  have hm : mustL g (a : Int) (b : Int) = domB g a b := by
    rw [must_in (by omega)]
    unfold domB
    rw [show ((a : Int) == (b : Int)) = decide (a = b) by rw [Bool.eq_iff_iff]; simp; omega]
    rfl
  cases o with
  | none =>
    have last : ∀ r, r = B (mustL g (a : Int) (b : Int)) →
        ((reachL g (-1)).getD b default = true → match r, B found with
          | .val (.bool a), .val (.bool b) => ∃ y, Frz 0 [⟨0, 3, 1, pl.map I⟩] 1 (.val (.bool (a == b))) y ∧ y = B true
          | _, _ => False) ∧
        ((reachL g (-1)).getD b default = false → match r, (.val (.bool false) : AV) with
          | .val (.bool a), .val (.bool b) => ∃ y, Frz 0 [⟨0, 3, 1, pl.map I⟩] 1 (.val (.bool (a == b))) y ∧ y = B true
          | _, _ => False) := fun r hr => by
      subst hr
      rw [hm]
      refine ⟨fun h5 => ⟨_, Frz.pure rfl, ?_⟩, fun h5 => ⟨_, Frz.pure rfl, ?_⟩⟩
      · have hr : Rd g b := (reachL_get hbl).1 h5
        have : domB g a b = found := by rw [Bool.eq_iff_iff, domB_iff hbl, hU hr]
        rw [this]; simp
      · have : domB g a b = false := by unfold domB; rw [h5]; rfl
        rw [this]; rfl
    by_cases h4 : i ≤ g.length
    · simp only [↓VW_skip, ↓VW_ops, ↓VW_par, ↓VW_seq, ↓VW_block, ↓VW_exit, ↓VW_ret, ↓VW_cond, ↓litE_tmp, ↓litE_const, ↓seq_normal, ↓seq_exit, ↓seq_ret, ↓blk_normal, ↓blk_exit, ↓blk_ret, ↓get_nil, ↓get_cons, ↓put_some, ↓put_none, ↓put_some', ↓put_none', ↓VTrL, ↓K.wpD, ↓K.wpE, K.xtra, argEnv, ↓retQ, ↓retW, ↓VR.wp, ↓VRs, binOK, binR, unOK, unR, ldOK, stoOK, putA, partA, partOK, fillA, fillOK, partsOf, evs, boundOf, AV.cells, AV.one, AV.laid, Value.oneCell', Nat.reduceEqDiff, Nat.reduceAdd, Nat.reduceMul, ↓reduceIte, ↓dreduceIte, true_and, and_true, List.cons_append, List.nil_append, List.length_map, List.length_cons, List.length_nil, List.getElem?_cons_zero, List.getElem?_cons_succ, List.map_cons, List.map_nil, Bool.not_true, Bool.not_false, forall_const, reduceCtorEq, false_implies, List.all_cons, List.all_nil, Bool.and_true, Bool.and_self, ↓idxT_map, ↓idxT_cons, ↓cellT_I, ↓cellT_B, ↓cellT_map, ↓cellT_cons, decide_eq_true_eq, decide_eq_false_iff_not, Int.toNat_natCast, bne_iff_ne, ne_eq, Bool.not_eq_true', Bool.not_eq_false', bne_eq_false_iff_eq, beq_iff_eq, beq_eq_false_iff_ne, implies_true, List.getD_cons_zero, List.getD_cons_succ, Bool.false_eq_true, false_or, or_false, true_or, or_true, Int.natCast_nonneg, Int.toNat_zero, Int.toNat_one, List.set_cons_zero, List.set_cons_succ, List.take_zero, List.take_succ_cons, List.take_nil, List.drop_zero, List.drop_succ_cons, List.drop_nil, List.append_nil, Nat.zero_add, Nat.add_zero, Nat.mul_one, Nat.zero_mul, ↓wp_mv, ↓wp_pick, ↓wp_ld, ↓wp_sto, ↓wp_idx, ↓wp_aidx, ↓wp_fad, ↓wp_fld, ↓wp_len, ↓wp_lens, ↓wp_bin, ↓wp_beq, ↓wp_un, ↓wp_conv, ↓wp_sl, ↓wp_sls, ↓wp_mk, ↓wp_app, ↓wp_bsl, ↓wp_bld, ↓wp_box, ↓wp_alc, ↓wp_mkf, ↓wp_nck, ↓wp_ext, ↓wp_call, ↓VOps_nil, ↓VOps_go, ↓VOps_if, ↓evF_tmp, ↓evF_const, ↓evF_func, cv_int, cv_bool, cv_slice, cv_string, cv, Nat.reduceLeDiff, Nat.reduceLT, Nat.le_refl, Nat.reduceSub, Int.reduceToNat, Int.reduceLE, Int.reduceLT, not_true_eq_false, not_false_eq_true, decide_true, decide_false, Bool.true_eq_false, ↓imp_tt, ↓imp_ft, ↓imp_tf, ↓imp_ff, ↓imp_tnt, ↓imp_fnt, ↓imp_tnf, ↓imp_fnf, addedOK, addedN, addedCells, oldA, Old, oldL, ↓VW_range, ↓wp_ycal, ↓wp_six, ↓wp_ixv, ↓wp_eqv, ↓wp_mx, ↓wp_mn, ↓wp_nilq, ↓wp_nils, ↓wp_b2s, ↓wp_look, ↓wp_mlen, ↓wp_cpy, ↓wp_clr, ↓wp_s2b, ↓wp_mkm, ↓wp_upd, ↓eqT_nil, ↓eqT_int, ↓eqT_bool, ↓eqT_str, ↓b2sT_U8, ↓b2sT_nil, ↓lookT_nil, ↓lookT_cons, cv_agg, cv_nilFunc, mapOK_nil, mapOK_cons, updA_nil , eq_true (show (i : Int) ≤ (g.length : Int) by omega), enc_none, ea, eb]
      exact ⟨by omega, _, _, must_c g hf a b, SleL.pure rfl, ⟨_, rfl⟩, last⟩
    · simp only [↓VW_skip, ↓VW_ops, ↓VW_par, ↓VW_seq, ↓VW_block, ↓VW_exit, ↓VW_ret, ↓VW_cond, ↓litE_tmp, ↓litE_const, ↓seq_normal, ↓seq_exit, ↓seq_ret, ↓blk_normal, ↓blk_exit, ↓blk_ret, ↓get_nil, ↓get_cons, ↓put_some, ↓put_none, ↓put_some', ↓put_none', ↓VTrL, ↓K.wpD, ↓K.wpE, K.xtra, argEnv, ↓retQ, ↓retW, ↓VR.wp, ↓VRs, binOK, binR, unOK, unR, ldOK, stoOK, putA, partA, partOK, fillA, fillOK, partsOf, evs, boundOf, AV.cells, AV.one, AV.laid, Value.oneCell', Nat.reduceEqDiff, Nat.reduceAdd, Nat.reduceMul, ↓reduceIte, ↓dreduceIte, true_and, and_true, List.cons_append, List.nil_append, List.length_map, List.length_cons, List.length_nil, List.getElem?_cons_zero, List.getElem?_cons_succ, List.map_cons, List.map_nil, Bool.not_true, Bool.not_false, forall_const, reduceCtorEq, false_implies, List.all_cons, List.all_nil, Bool.and_true, Bool.and_self, ↓idxT_map, ↓idxT_cons, ↓cellT_I, ↓cellT_B, ↓cellT_map, ↓cellT_cons, decide_eq_true_eq, decide_eq_false_iff_not, Int.toNat_natCast, bne_iff_ne, ne_eq, Bool.not_eq_true', Bool.not_eq_false', bne_eq_false_iff_eq, beq_iff_eq, beq_eq_false_iff_ne, implies_true, List.getD_cons_zero, List.getD_cons_succ, Bool.false_eq_true, false_or, or_false, true_or, or_true, Int.natCast_nonneg, Int.toNat_zero, Int.toNat_one, List.set_cons_zero, List.set_cons_succ, List.take_zero, List.take_succ_cons, List.take_nil, List.drop_zero, List.drop_succ_cons, List.drop_nil, List.append_nil, Nat.zero_add, Nat.add_zero, Nat.mul_one, Nat.zero_mul, ↓wp_mv, ↓wp_pick, ↓wp_ld, ↓wp_sto, ↓wp_idx, ↓wp_aidx, ↓wp_fad, ↓wp_fld, ↓wp_len, ↓wp_lens, ↓wp_bin, ↓wp_beq, ↓wp_un, ↓wp_conv, ↓wp_sl, ↓wp_sls, ↓wp_mk, ↓wp_app, ↓wp_bsl, ↓wp_bld, ↓wp_box, ↓wp_alc, ↓wp_mkf, ↓wp_nck, ↓wp_ext, ↓wp_call, ↓VOps_nil, ↓VOps_go, ↓VOps_if, ↓evF_tmp, ↓evF_const, ↓evF_func, cv_int, cv_bool, cv_slice, cv_string, cv, Nat.reduceLeDiff, Nat.reduceLT, Nat.le_refl, Nat.reduceSub, Int.reduceToNat, Int.reduceLE, Int.reduceLT, not_true_eq_false, not_false_eq_true, decide_true, decide_false, Bool.true_eq_false, ↓imp_tt, ↓imp_ft, ↓imp_tf, ↓imp_ff, ↓imp_tnt, ↓imp_fnt, ↓imp_tnf, ↓imp_fnf, addedOK, addedN, addedCells, oldA, Old, oldL, ↓VW_range, ↓wp_ycal, ↓wp_six, ↓wp_ixv, ↓wp_eqv, ↓wp_mx, ↓wp_mn, ↓wp_nilq, ↓wp_nils, ↓wp_b2s, ↓wp_look, ↓wp_mlen, ↓wp_cpy, ↓wp_clr, ↓wp_s2b, ↓wp_mkm, ↓wp_upd, ↓eqT_nil, ↓eqT_int, ↓eqT_bool, ↓eqT_str, ↓b2sT_U8, ↓b2sT_nil, ↓lookT_nil, ↓lookT_cons, cv_agg, cv_nilFunc, mapOK_nil, mapOK_cons, updA_nil , eq_false (show ¬ (i : Int) ≤ (g.length : Int) by omega), enc_none, ea, eb]
      exact ⟨by omega, _, _, must_c g hf a b, SleL.pure rfl, ⟨_, rfl⟩, last⟩
  | some x =>
    have hxl := hox x rfl
    have hNx := hN x hxl
    obtain ⟨u, hu⟩ : ∃ u : Option Nat, L.getD x default = enc u := by
      rcases hNx with ⟨e, _⟩ | ⟨m, e, _⟩
      · exact ⟨none, e⟩
      · exact ⟨some m, e⟩
    rw [hu] at hNx
    have hst := hU.step hc hNx
    have hil : i ≤ g.length := by
      rcases hU with ⟨h5, _, _, h6⟩ | ⟨_, _, h6⟩
      · have := ord_lt hd h5
        simp only [rankN] at this h6; omega
      · omega
    have h4' := eq_true (show (i : Int) ≤ (g.length : Int) by omega)
    have h5' := eq_true (show (0 : Int) ≤ (x : Int) by omega)
    have h6' := eq_false (show ¬ (g.length : Int) ≤ (x : Int) by omega)
    have fin : ∀ e, (∀ p ∈ [(0, grph g), (1, Y8 a), (2, Y8 b), (7, bools (reachL g (-1))), (8, ints L), (10, AV.ref 0 0 0 g.length), (12, B (found || decide (x = a))), (13, I (enc u)), (14, I ((i + 1 : Nat) : Int))], get e p.1 = p.2) →
        ∃ q : Option Nat × Bool × Nat, (Up1 g (rankN d) a b q.2.2 q.2.1 q.1 ∧ q.2.2 ≤ g.length + 1 ∧ (∀ x, q.1 = some x → x < g.length)) ∧ g.length + 1 - q.2.2 < g.length + 1 - i ∧
          Wk ⟨e, [⟨0, 3, 1, pl.map I⟩], 1⟩ ⟨[(0, grph g), (1, Y8 a), (2, Y8 b), (7, bools (reachL g (-1))), (8, ints L), (10, .ref 0 0 0 g.length), (12, B q.2.1), (13, I (enc q.1)), (14, I q.2.2)], [⟨0, 3, 1, pl.map I⟩], 1⟩ := fun e he =>
      ⟨(u, found || decide (x = a), i + 1), ⟨hst.1, by simp only; omega, fun v e => ((hst.2 v e).2.1).lt⟩, by simp only; omega, Wk.mk he ⟨[], rfl⟩ (Nat.le_refl _)⟩
    have hxa : ((x : Int) == (a : Int)) = decide (x = a) := by rw [Bool.eq_iff_iff]; simp; omega
    cases u with
    | none =>
      cases found
      all_goals
        simp only [↓VW_skip, ↓VW_ops, ↓VW_par, ↓VW_seq, ↓VW_block, ↓VW_exit, ↓VW_ret, ↓VW_cond, ↓litE_tmp, ↓litE_const, ↓seq_normal, ↓seq_exit, ↓seq_ret, ↓blk_normal, ↓blk_exit, ↓blk_ret, ↓get_nil, ↓get_cons, ↓put_some, ↓put_none, ↓put_some', ↓put_none', ↓VTrL, ↓K.wpD, ↓K.wpE, K.xtra, argEnv, ↓retQ, ↓retW, ↓VR.wp, ↓VRs, binOK, binR, unOK, unR, ldOK, stoOK, putA, partA, partOK, fillA, fillOK, partsOf, evs, boundOf, AV.cells, AV.one, AV.laid, Value.oneCell', Nat.reduceEqDiff, Nat.reduceAdd, Nat.reduceMul, ↓reduceIte, ↓dreduceIte, true_and, and_true, List.cons_append, List.nil_append, List.length_map, List.length_cons, List.length_nil, List.getElem?_cons_zero, List.getElem?_cons_succ, List.map_cons, List.map_nil, Bool.not_true, Bool.not_false, forall_const, reduceCtorEq, false_implies, List.all_cons, List.all_nil, Bool.and_true, Bool.and_self, ↓idxT_map, ↓idxT_cons, ↓cellT_I, ↓cellT_B, ↓cellT_map, ↓cellT_cons, decide_eq_true_eq, decide_eq_false_iff_not, Int.toNat_natCast, bne_iff_ne, ne_eq, Bool.not_eq_true', Bool.not_eq_false', bne_eq_false_iff_eq, beq_iff_eq, beq_eq_false_iff_ne, implies_true, List.getD_cons_zero, List.getD_cons_succ, Bool.false_eq_true, false_or, or_false, true_or, or_true, Int.natCast_nonneg, Int.toNat_zero, Int.toNat_one, List.set_cons_zero, List.set_cons_succ, List.take_zero, List.take_succ_cons, List.take_nil, List.drop_zero, List.drop_succ_cons, List.drop_nil, List.append_nil, Nat.zero_add, Nat.add_zero, Nat.mul_one, Nat.zero_mul, ↓wp_mv, ↓wp_pick, ↓wp_ld, ↓wp_sto, ↓wp_idx, ↓wp_aidx, ↓wp_fad, ↓wp_fld, ↓wp_len, ↓wp_lens, ↓wp_bin, ↓wp_beq, ↓wp_un, ↓wp_conv, ↓wp_sl, ↓wp_sls, ↓wp_mk, ↓wp_app, ↓wp_bsl, ↓wp_bld, ↓wp_box, ↓wp_alc, ↓wp_mkf, ↓wp_nck, ↓wp_ext, ↓wp_call, ↓VOps_nil, ↓VOps_go, ↓VOps_if, ↓evF_tmp, ↓evF_const, ↓evF_func, cv_int, cv_bool, cv_slice, cv_string, cv, Nat.reduceLeDiff, Nat.reduceLT, Nat.le_refl, Nat.reduceSub, Int.reduceToNat, Int.reduceLE, Int.reduceLT, not_true_eq_false, not_false_eq_true, decide_true, decide_false, Bool.true_eq_false, ↓imp_tt, ↓imp_ft, ↓imp_tf, ↓imp_ff, ↓imp_tnt, ↓imp_fnt, ↓imp_tnf, ↓imp_fnf, addedOK, addedN, addedCells, oldA, Old, oldL, ↓VW_range, ↓wp_ycal, ↓wp_six, ↓wp_ixv, ↓wp_eqv, ↓wp_mx, ↓wp_mn, ↓wp_nilq, ↓wp_nils, ↓wp_b2s, ↓wp_look, ↓wp_mlen, ↓wp_cpy, ↓wp_clr, ↓wp_s2b, ↓wp_mkm, ↓wp_upd, ↓eqT_nil, ↓eqT_int, ↓eqT_bool, ↓eqT_str, ↓b2sT_U8, ↓b2sT_nil, ↓lookT_nil, ↓lookT_cons, cv_agg, cv_nilFunc, mapOK_nil, mapOK_cons, updA_nil , h4', h5', h6', Int.toNat_natCast, hu, enc_none, enc_some, ea, hL, hxa]
        repeat (refine And.intro (by omega) ?_)
        rw [i64_in (by omega) (by omega)]
        exact fin _ (by simp [get_cons, enc])
    | some u =>
      obtain ⟨hx1, hu1, hlt⟩ := hst.2 u rfl
      have p1 := hplg hx1
      have p2 := hplg hu1
      have hul := hu1.lt
      have q1 := eq_true (show (0 : Int) ≤ (u : Int) by omega)
      have q2 := eq_false (show ¬ (g.length : Int) ≤ (u : Int) by omega)
      have q3 := eq_false (show ¬ (rankN d x : Int) ≤ (rankN d u : Int) by omega)
      cases found
      all_goals
        simp only [↓VW_skip, ↓VW_ops, ↓VW_par, ↓VW_seq, ↓VW_block, ↓VW_exit, ↓VW_ret, ↓VW_cond, ↓litE_tmp, ↓litE_const, ↓seq_normal, ↓seq_exit, ↓seq_ret, ↓blk_normal, ↓blk_exit, ↓blk_ret, ↓get_nil, ↓get_cons, ↓put_some, ↓put_none, ↓put_some', ↓put_none', ↓VTrL, ↓K.wpD, ↓K.wpE, K.xtra, argEnv, ↓retQ, ↓retW, ↓VR.wp, ↓VRs, binOK, binR, unOK, unR, ldOK, stoOK, putA, partA, partOK, fillA, fillOK, partsOf, evs, boundOf, AV.cells, AV.one, AV.laid, Value.oneCell', Nat.reduceEqDiff, Nat.reduceAdd, Nat.reduceMul, ↓reduceIte, ↓dreduceIte, true_and, and_true, List.cons_append, List.nil_append, List.length_map, List.length_cons, List.length_nil, List.getElem?_cons_zero, List.getElem?_cons_succ, List.map_cons, List.map_nil, Bool.not_true, Bool.not_false, forall_const, reduceCtorEq, false_implies, List.all_cons, List.all_nil, Bool.and_true, Bool.and_self, ↓idxT_map, ↓idxT_cons, ↓cellT_I, ↓cellT_B, ↓cellT_map, ↓cellT_cons, decide_eq_true_eq, decide_eq_false_iff_not, Int.toNat_natCast, bne_iff_ne, ne_eq, Bool.not_eq_true', Bool.not_eq_false', bne_eq_false_iff_eq, beq_iff_eq, beq_eq_false_iff_ne, implies_true, List.getD_cons_zero, List.getD_cons_succ, Bool.false_eq_true, false_or, or_false, true_or, or_true, Int.natCast_nonneg, Int.toNat_zero, Int.toNat_one, List.set_cons_zero, List.set_cons_succ, List.take_zero, List.take_succ_cons, List.take_nil, List.drop_zero, List.drop_succ_cons, List.drop_nil, List.append_nil, Nat.zero_add, Nat.add_zero, Nat.mul_one, Nat.zero_mul, ↓wp_mv, ↓wp_pick, ↓wp_ld, ↓wp_sto, ↓wp_idx, ↓wp_aidx, ↓wp_fad, ↓wp_fld, ↓wp_len, ↓wp_lens, ↓wp_bin, ↓wp_beq, ↓wp_un, ↓wp_conv, ↓wp_sl, ↓wp_sls, ↓wp_mk, ↓wp_app, ↓wp_bsl, ↓wp_bld, ↓wp_box, ↓wp_alc, ↓wp_mkf, ↓wp_nck, ↓wp_ext, ↓wp_call, ↓VOps_nil, ↓VOps_go, ↓VOps_if, ↓evF_tmp, ↓evF_const, ↓evF_func, cv_int, cv_bool, cv_slice, cv_string, cv, Nat.reduceLeDiff, Nat.reduceLT, Nat.le_refl, Nat.reduceSub, Int.reduceToNat, Int.reduceLE, Int.reduceLT, not_true_eq_false, not_false_eq_true, decide_true, decide_false, Bool.true_eq_false, ↓imp_tt, ↓imp_ft, ↓imp_tf, ↓imp_ff, ↓imp_tnt, ↓imp_fnt, ↓imp_tnf, ↓imp_fnf, addedOK, addedN, addedCells, oldA, Old, oldL, ↓VW_range, ↓wp_ycal, ↓wp_six, ↓wp_ixv, ↓wp_eqv, ↓wp_mx, ↓wp_mn, ↓wp_nilq, ↓wp_nils, ↓wp_b2s, ↓wp_look, ↓wp_mlen, ↓wp_cpy, ↓wp_clr, ↓wp_s2b, ↓wp_mkm, ↓wp_upd, ↓eqT_nil, ↓eqT_int, ↓eqT_bool, ↓eqT_str, ↓b2sT_U8, ↓b2sT_nil, ↓lookT_nil, ↓lookT_cons, cv_agg, cv_nilFunc, mapOK_nil, mapOK_cons, updA_nil , h4', h5', h6', Int.toNat_natCast, hu, enc_none, enc_some, ea, hL, hxa, p1, p2, q1, q2, q3, hpl]
        repeat (refine And.intro (by omega) ?_)
        rw [i64_in (by omega) (by omega)]
        exact fin _ (by simp [get_cons, enc])

set_option maxRecDepth 100000 in
theorem flowrow_lifted (os : Os) (started : os.Started) (H : Type) (enc : TypeId × Value → H) :
    ReturnsInHanded {} Try.checked os 7 .any (Rows.flowRowSpec.pre6 enc Try.prog Try.f7 Rows.flowRowRow.domain false) (Rows.flowRowSpec.post enc Try.prog Try.f7 false true false false) := by
  refine returnsInHanded_of_change_sized (C := Try.checked) Try.own started (by kernel_rfl) Try.func7
    (ChangeSpec.witness6 (enc := enc) (C := Try.checked) false ⟨#[], #[.slice none 0 0, .int .u8 0, .int .u8 0], []⟩ 8 (by kernel_rfl) (by kernel_rfl) (by kernel_rfl) (by kernel_rfl)) ?_
  intro W base args ds gs before hval hW _ hwt _
  refine law_calls (P := Try.prog) (n := 20) (shs := [gSh, .int .u8, .int .u8]) (tb := 4) Try.laidOut rfl (by kernel_rfl) (by kernel_rfl) (by decide +kernel) (by kernel_rfl) (fun ds h => ?_) (fun xs hx => ?_) hval hW hwt
  · match ds, h with
    | [d1, d2, d3], _ => rfl
  · simp only [Sh.fitL] at hx
    obtain ⟨x, xs', rfl, hx, y, ys', rfl, hy, z, zs', rfl, hz, rfl⟩ := hx
    obtain ⟨g, rfl, hg⟩ := graph_of hx
    obtain ⟨a, rfl, ha⟩ := fit_u8 hy
    obtain ⟨b, rfl, hb⟩ := fit_u8 hz
    exact flowrow_c g hg a b ha hb

theorem flowrow_holds : Rows.FlowRowSaid :=
  OpenClaim.holds_of_wide 7 Try.f7 rfl rfl rfl rfl rfl rfl rfl ⟨rfl, rfl, rfl, rfl, rfl⟩ rfl rfl rfl rfl rfl (by kernel_rfl) Try.func7 (by kernel_rfl)
    (of_decide_eq_true (by kernel_rfl)) (by unfold Func.isWrapper; first | (rw [if_pos (by decide +kernel)]; kernel_rfl) | (rw [if_neg (by decide +kernel)]; exact ⟨rfl, rfl⟩))
    (fun os started H enc _ => flowrow_lifted os started H enc)
end Go.Proofs.Ytdiknjjhegckcaa
