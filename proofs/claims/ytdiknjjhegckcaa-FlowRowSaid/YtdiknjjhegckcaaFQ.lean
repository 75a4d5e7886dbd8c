/-
  flow: contracts, part 12: of each block which reached ones it follows. No condition.
-/
import Derived.Test.YtdiknjjhegckcaaFM
namespace Go.Proofs.Ytdiknjjhegckcaa
set_option linter.unusedSimpArgs false
set_option linter.unusedVariables false
set_option maxRecDepth 10000
open Go.V Go.V.FL

def qd (q : List (Nat × List Int)) (b : Nat) : Nat × List Int := q.getD b (0, [])
abbrev qcells (q : List (Nat × List Int)) : List AV := (List.range q.length).map fun b => .ref (b + 1) (qd q b).1 0 (qd q b).2.length
abbrev qobjs (q : List (Nat × List Int)) : List VObj := q.map fun p => ⟨p.1, 3, 1, p.2.map I⟩

/-- Nil slices taken for slices over objects that are not there yet, one by one. -/
theorem virt_all (env : List (Nat × AV)) (he : ∀ p ∈ env, get env p.1 = p.2) (n nx : Nat) : ∀ j, j ≤ n → Wk ⟨env, [⟨0, 28, 1, List.replicate n nilv⟩], nx⟩
    ⟨env, ⟨0, 28, 1, (List.range n).map fun b => if b < j then .ref (b + 1) (nx + b) 0 0 else nilv⟩ :: (List.range j).map fun b => ⟨nx + b, 3, 1, []⟩, nx + j⟩
  | 0, _ => Wk.mk he ⟨[], by simp [nilv, List.map_const']⟩ (Nat.le_refl _)
  | j + 1, hj => by
    refine (virt_all env he n nx j (by omega)).trans (Wk.virt 3 1 (by decide) (fun p hp => .inl (he p hp)) ⟨⟨0, 28, 1, (List.range n).map fun b => if b < j + 1 then .ref (b + 1) (nx + b) 0 0 else nilv⟩ :: (List.range j).map fun b => ⟨nx + b, 3, 1, []⟩, ?_, by simp, ?_⟩ rfl)
    · simp [List.range_succ]
    · intro i ob' ho
      cases i with
      | zero =>
        simp at ho; subst ho
        refine ⟨_, rfl, rfl, rfl, rfl, by simp, by simp, fun i x y hx hy => ?_⟩
        simp only [List.getElem?_map] at hx hy
        cases hi : (List.range n)[i]? with
        | none => rw [hi] at hx; cases hx
        | some c =>
          have hc : c = i := by
            have := (List.getElem?_eq_some_iff.1 hi).2
            simpa using this.symm
          subst hc
          rw [hi] at hx hy
          simp only [Option.map_some, Option.some.injEq] at hx hy
          by_cases e : c < j
          · rw [if_pos e] at hx; rw [if_pos (by omega)] at hy
            exact .inl (hx.symm.trans hy)
          · rw [if_neg e] at hx
            by_cases e2 : c < j + 1
            · rw [if_pos e2] at hy
              refine .inr ⟨hx.symm, ?_⟩
              have : c = j := by omega
              subst this
              rw [← hy]; simp
            · rw [if_neg e2] at hy
              exact .inl (hx.symm.trans hy)
      | succ i => exact ⟨ob', ho, rfl, rfl, rfl, rfl, fun _ => rfl, fun _ x y hx hy => .inl (by rw [hx] at hy; exact Option.some.inj hy)⟩

/-- What was gathered when the ways of those ahead of k were gone through, and i of k's. -/
structure AH (g : G) (rk : List Int) (k i : Nat) (q : List (Nat × List Int)) : Prop where
  len : q.length = g.length
  sound : ∀ b, ∀ z ∈ (qd q b).2, ∃ p : Nat, z = p ∧ p < g.length ∧ rk.getD p default ≠ -1 ∧ Ed g p b
  comp : ∀ p b : Nat, rk.getD p default ≠ -1 → Ed g p b → (p < k ∨ (p = k ∧ (b : Int) ∈ (row g k).take i)) → (p : Int) ∈ (qd q b).2
  size : ∀ b, (qd q b).2.length ≤ 1000 * k + i

theorem qd_set {q : List (Nat × List Int)} {k b : Nat} {v : Nat × List Int} (hk : k < q.length) : qd (q.set k v) b = if b = k then v else qd q b := by
  unfold qd; simp only [List.getD, List.getElem?_set]
  by_cases e : k = b
  · subst e; simp [hk]
  · rw [if_neg e, if_neg (fun h => e h.symm)]

theorem AH.start (g : G) (rk : List Int) (nx : Nat) : AH g rk 0 0 ((List.range g.length).map fun b => (nx + b, [])) := by
  have e : ∀ b, (qd ((List.range g.length).map fun b => (nx + b, ([] : List Int))) b).2 = [] := fun b => by
    unfold qd; simp only [List.getD, List.getElem?_map]
    cases (List.range g.length)[b]? <;> rfl
  refine ⟨by simp, fun b z hz => ?_, fun p b _ _ h => ?_, fun b => ?_⟩
  · rw [e] at hz; cases hz
  · rcases h with h | ⟨_, h⟩
    · omega
    · simp at h
  · rw [e]; simp

theorem AH.next {g : G} {rk : List Int} {k i : Nat} {q : List (Nat × List Int)} (h : AH g rk k i q) (hr : (row g k).length ≤ 1000) (hi : rk.getD k default = -1 ∨ (row g k).length ≤ i) (hi2 : i ≤ (row g k).length) : AH g rk (k + 1) 0 q := by
  refine ⟨h.len, h.sound, fun p b h1 h2 h3 => h.comp p b h1 h2 ?_, fun b => by have := h.size b; omega⟩
  rcases h3 with h3 | ⟨_, h3⟩
  · by_cases e : p < k
    · exact .inl e
    · have : p = k := by omega
      subst this
      refine .inr ⟨rfl, ?_⟩
      rcases hi with hi | hi
      · exact (h1 hi).elim
      · rw [List.take_of_length_le hi]; exact h2.1
  · simp at h3

theorem AH.skip {g : G} {rk : List Int} {k i : Nat} {q : List (Nat × List Int)} (h : AH g rk k i q) (hi : i < (row g k).length) (hf : ¬ (0 ≤ (row g k).getD i default ∧ (row g k).getD i default < g.length)) : AH g rk k (i + 1) q := by
  refine ⟨h.len, h.sound, fun p b h1 h2 h3 => h.comp p b h1 h2 ?_, fun b => by have := h.size b; omega⟩
  rcases h3 with h3 | ⟨h3, h4⟩
  · exact .inl h3
  · refine .inr ⟨h3, ?_⟩
    rw [List.take_add_one, List.getElem?_eq_getElem hi] at h4
    rcases List.mem_append.1 h4 with h4 | h4
    · exact h4
    · simp at h4
      exfalso; apply hf
      simp only [List.getD, List.getElem?_eq_getElem hi, Option.getD_some, ← h4]
      have := h2.2
      omega

theorem AH.push {g : G} {rk : List Int} {k i : Nat} {q : List (Nat × List Int)} (h : AH g rk k i q) (hk : k < g.length) (hkr : rk.getD k default ≠ -1) (hi : i < (row g k).length) {y : Int} (hy : (row g k).getD i default = y) (h0 : 0 ≤ y) (h1 : y < g.length) (s : Nat) :
    AH g rk k (i + 1) (q.set y.toNat (s, (qd q y.toNat).2 ++ [(k : Int)])) := by
  have hl : y.toNat < q.length := by rw [h.len]; omega
  have hym : y ∈ row g k := by rw [← hy]; simp [List.getD, List.getElem?_eq_getElem hi]
  refine ⟨by simp [h.len], fun b z hz => ?_, fun p b h2 h3 h4 => ?_, fun b => ?_⟩
  · rw [qd_set hl] at hz
    split at hz
    · rename_i e; subst e
      rcases List.mem_append.1 hz with hz | hz
      · exact h.sound _ z hz
      · simp at hz; subst hz
        exact ⟨k, rfl, hk, hkr, by rw [Int.toNat_of_nonneg h0]; exact hym, by omega⟩
    · exact h.sound b z hz
  · rw [qd_set hl]
    rcases h4 with h4 | ⟨h4, h5⟩
    · have := h.comp p b h2 h3 (.inl h4)
      split
      · rename_i e; subst e; simp [this]
      · exact this
    · rw [List.take_add_one, List.getElem?_eq_getElem hi] at h5
      rcases List.mem_append.1 h5 with h5 | h5
      · have := h.comp p b h2 h3 (.inr ⟨h4, h5⟩)
        split
        · rename_i e; subst e; simp [this]
        · exact this
      · simp at h5
        have e : (row g k).getD i default = (b : Int) := by simp [List.getD, List.getElem?_eq_getElem hi, h5]
        rw [hy] at e
        subst h4
        rw [if_pos (by omega)]; simp
  · rw [qd_set hl]
    split
    · rename_i e; subst e
      have := h.size y.toNat
      simp; omega
    · have := h.size b; omega

theorem qcells_set {q : List (Nat × List Int)} {b s n : Nat} {l : List Int} (hb : b < q.length) (hn : n = l.length) : (qcells q).set b (.ref (b + 1) s 0 n) = qcells (q.set b (s, l)) := by
  refine List.ext_getElem (by simp) fun i h1 h2 => ?_
  simp only [List.length_set, List.length_map, List.length_range] at h1 h2
  rw [List.getElem_set]
  simp only [qcells, List.getElem_map, List.getElem_range, qd_set hb]
  by_cases e : b = i
  · subst e; rw [if_pos rfl, if_pos rfl, hn]
  · rw [if_neg e, if_neg (fun h => e h.symm)]

theorem qobjs_set {q : List (Nat × List Int)} {b s : Nat} {l : List Int} {tl : List VObj} (hb : b < q.length) : (qobjs q ++ tl).set b ⟨s, 3, 1, l.map I⟩ = qobjs (q.set b (s, l)) ++ tl := by
  rw [List.set_append_left _ _ (by simpa using hb)]
  simp [qobjs, List.map_set]

theorem FrzNL.of_map {α : Type} {H : List VObj} {nx : Nat} {f g : α → AV} : ∀ (l : List α), (∀ a ∈ l, FrzN H nx (f a) (g a)) → FrzNL H nx (l.map f) (l.map g)
  | [], _ => rfl
  | a :: l, h => ⟨_, _, rfl, h a (by simp), FrzNL.of_map l fun b hb => h b (by simp [hb])⟩

theorem aheadN_c {g : G} {rk : List Int} (hg : Fine g) (hr : rk.length = g.length) : ContractN Try.prog 28 [grph g, ints rk]
    (fun x => ∃ q : List (Nat × List Int), AH g rk g.length 0 q ∧ x = .imm 1 (q.map fun p => ints p.2)) := by
  refine ContractN.of_call (VCall.of_body hmix f_flow_aheadOf (by simp) ?_)
  have hlen := hg.len
  simp only [↓VW_skip, ↓VW_ops, ↓VW_par, ↓VW_seq, ↓VW_block, ↓VW_exit, ↓VW_ret, ↓VW_cond, ↓litE_tmp, ↓litE_const, ↓seq_normal, ↓seq_exit, ↓seq_ret, ↓blk_normal, ↓blk_exit, ↓blk_ret, ↓get_nil, ↓get_cons, ↓put_some, ↓put_none, ↓put_some', ↓put_none', ↓VTrL, ↓K.wpD, ↓K.wpE, K.xtra, argEnv, ↓retQ, ↓retW, ↓VR.wp, ↓VRs, binOK, binR, unOK, unR, ldOK, stoOK, putA, partA, partOK, fillA, fillOK, partsOf, evs, boundOf, AV.cells, AV.one, AV.laid, Value.oneCell', Nat.reduceEqDiff, Nat.reduceAdd, Nat.reduceMul, ↓reduceIte, ↓dreduceIte, true_and, and_true, List.cons_append, List.nil_append, List.length_map, List.length_cons, List.length_nil, List.getElem?_cons_zero, List.getElem?_cons_succ, List.map_cons, List.map_nil, Bool.not_true, Bool.not_false, forall_const, reduceCtorEq, false_implies, List.all_cons, List.all_nil, Bool.and_true, Bool.and_self, ↓idxT_map, ↓idxT_cons, ↓cellT_I, ↓cellT_B, ↓cellT_map, ↓cellT_cons, decide_eq_true_eq, decide_eq_false_iff_not, Int.toNat_natCast, bne_iff_ne, ne_eq, Bool.not_eq_true', Bool.not_eq_false', bne_eq_false_iff_eq, beq_iff_eq, beq_eq_false_iff_ne, implies_true, List.getD_cons_zero, List.getD_cons_succ, Bool.false_eq_true, false_or, or_false, true_or, or_true, Int.natCast_nonneg, Int.toNat_zero, Int.toNat_one, List.set_cons_zero, List.set_cons_succ, List.take_zero, List.take_succ_cons, List.take_nil, List.drop_zero, List.drop_succ_cons, List.drop_nil, List.append_nil, Nat.zero_add, Nat.add_zero, Nat.mul_one, Nat.zero_mul, ↓wp_mv, ↓wp_pick, ↓wp_ld, ↓wp_sto, ↓wp_idx, ↓wp_aidx, ↓wp_fad, ↓wp_fld, ↓wp_len, ↓wp_lens, ↓wp_bin, ↓wp_beq, ↓wp_un, ↓wp_conv, ↓wp_sl, ↓wp_sls, ↓wp_mk, ↓wp_app, ↓wp_bsl, ↓wp_bld, ↓wp_box, ↓wp_alc, ↓wp_mkf, ↓wp_nck, ↓wp_ext, ↓wp_call, ↓VOps_nil, ↓VOps_go, ↓VOps_if, ↓evF_tmp, ↓evF_const, ↓evF_func, cv_int, cv_bool, cv_slice, cv_string, cv, Nat.reduceLeDiff, Nat.reduceLT, Nat.le_refl, Nat.reduceSub, Int.reduceToNat, Int.reduceLE, Int.reduceLT, not_true_eq_false, not_false_eq_true, decide_true, decide_false, Bool.true_eq_false, ↓imp_tt, ↓imp_ft, ↓imp_tf, ↓imp_ff, ↓imp_tnt, ↓imp_fnt, ↓imp_tnf, ↓imp_fnf, addedOK, addedN, addedCells, oldA, Old, oldL, ↓VW_range, ↓wp_ycal, ↓wp_six, ↓wp_ixv, ↓wp_eqv, ↓wp_mx, ↓wp_mn, ↓wp_nilq, ↓wp_nils, ↓wp_b2s, ↓wp_look, ↓wp_mlen, ↓wp_cpy, ↓wp_clr, ↓wp_s2b, ↓wp_mkm, ↓wp_upd, ↓eqT_nil, ↓eqT_int, ↓eqT_bool, ↓eqT_str, ↓b2sT_U8, ↓b2sT_nil, ↓lookT_nil, ↓lookT_cons, cv_agg, cv_nilFunc, mapOK_nil, mapOK_cons, updA_nil , c_flow_aheadOf]
  repeat (refine And.intro (by omega) ?_)
  refine VW_loop (fun p : Nat × List (Nat × List Int) × Nat => ⟨[(0, grph g), (1, ints rk), (5, .ref 0 0 0 g.length), (13, grph g), (14, I g.length), (15, I p.1)], ⟨0, 28, 1, qcells p.2.1⟩ :: qobjs p.2.1, p.2.2⟩)
    (fun p => p.1 ≤ g.length ∧ AH g rk p.1 0 p.2.1) (fun p => g.length - p.1) (0, (List.range g.length).map (fun b => (1 + b, [])), 1 + g.length)
    (Wk.trans ?_ (Wk.trans (virt_all [(0, grph g), (1, ints rk), (5, .ref 0 0 0 g.length), (13, grph g), (14, I g.length), (15, I 0)] (by simp [get_cons]) g.length 1 g.length (Nat.le_refl _)) ?_)) ⟨by omega, AH.start g rk 1⟩ ?_
  · exact Wk.mk (by simp [get_cons]) ⟨[], by simp [flat_rep]⟩ (Nat.le_refl _)
  · refine Wk.mk (by simp [get_cons]) ⟨[], ?_⟩ (by simp)
    have e : ∀ b, b < g.length → qd ((List.range g.length).map fun b => (1 + b, ([] : List Int))) b = (1 + b, []) := fun b hb => by simp [qd, List.getD, hb]
    simp only [qcells, qobjs, List.length_map, List.length_range, List.map_map, List.append_nil, List.cons.injEq, VObj.mk.injEq, true_and]
    refine ⟨List.map_congr_left fun b hb => ?_, by simp [Function.comp_def]⟩
    have hb' : b < g.length := by simpa using hb
    rw [if_pos hb', e b hb']; rfl
  rintro ⟨k, q, nx⟩ ⟨hk, hq⟩
  simp only at hk hq
  by_cases h1 : k < g.length
  case neg =>
    have h1' := eq_false (show ¬ (k : Int) < (g.length : Int) by omega)
    simp only [↓VW_skip, ↓VW_ops, ↓VW_par, ↓VW_seq, ↓VW_block, ↓VW_exit, ↓VW_ret, ↓VW_cond, ↓litE_tmp, ↓litE_const, ↓seq_normal, ↓seq_exit, ↓seq_ret, ↓blk_normal, ↓blk_exit, ↓blk_ret, ↓get_nil, ↓get_cons, ↓put_some, ↓put_none, ↓put_some', ↓put_none', ↓VTrL, ↓K.wpD, ↓K.wpE, K.xtra, argEnv, ↓retQ, ↓retW, ↓VR.wp, ↓VRs, binOK, binR, unOK, unR, ldOK, stoOK, putA, partA, partOK, fillA, fillOK, partsOf, evs, boundOf, AV.cells, AV.one, AV.laid, Value.oneCell', Nat.reduceEqDiff, Nat.reduceAdd, Nat.reduceMul, ↓reduceIte, ↓dreduceIte, true_and, and_true, List.cons_append, List.nil_append, List.length_map, List.length_cons, List.length_nil, List.getElem?_cons_zero, List.getElem?_cons_succ, List.map_cons, List.map_nil, Bool.not_true, Bool.not_false, forall_const, reduceCtorEq, false_implies, List.all_cons, List.all_nil, Bool.and_true, Bool.and_self, ↓idxT_map, ↓idxT_cons, ↓cellT_I, ↓cellT_B, ↓cellT_map, ↓cellT_cons, decide_eq_true_eq, decide_eq_false_iff_not, Int.toNat_natCast, bne_iff_ne, ne_eq, Bool.not_eq_true', Bool.not_eq_false', bne_eq_false_iff_eq, beq_iff_eq, beq_eq_false_iff_ne, implies_true, List.getD_cons_zero, List.getD_cons_succ, Bool.false_eq_true, false_or, or_false, true_or, or_true, Int.natCast_nonneg, Int.toNat_zero, Int.toNat_one, List.set_cons_zero, List.set_cons_succ, List.take_zero, List.take_succ_cons, List.take_nil, List.drop_zero, List.drop_succ_cons, List.drop_nil, List.append_nil, Nat.zero_add, Nat.add_zero, Nat.mul_one, Nat.zero_mul, ↓wp_mv, ↓wp_pick, ↓wp_ld, ↓wp_sto, ↓wp_idx, ↓wp_aidx, ↓wp_fad, ↓wp_fld, ↓wp_len, ↓wp_lens, ↓wp_bin, ↓wp_beq, ↓wp_un, ↓wp_conv, ↓wp_sl, ↓wp_sls, ↓wp_mk, ↓wp_app, ↓wp_bsl, ↓wp_bld, ↓wp_box, ↓wp_alc, ↓wp_mkf, ↓wp_nck, ↓wp_ext, ↓wp_call, ↓VOps_nil, ↓VOps_go, ↓VOps_if, ↓evF_tmp, ↓evF_const, ↓evF_func, cv_int, cv_bool, cv_slice, cv_string, cv, Nat.reduceLeDiff, Nat.reduceLT, Nat.le_refl, Nat.reduceSub, Int.reduceToNat, Int.reduceLE, Int.reduceLT, not_true_eq_false, not_false_eq_true, decide_true, decide_false, Bool.true_eq_false, ↓imp_tt, ↓imp_ft, ↓imp_tf, ↓imp_ff, ↓imp_tnt, ↓imp_fnt, ↓imp_tnf, ↓imp_fnf, addedOK, addedN, addedCells, oldA, Old, oldL, ↓VW_range, ↓wp_ycal, ↓wp_six, ↓wp_ixv, ↓wp_eqv, ↓wp_mx, ↓wp_mn, ↓wp_nilq, ↓wp_nils, ↓wp_b2s, ↓wp_look, ↓wp_mlen, ↓wp_cpy, ↓wp_clr, ↓wp_s2b, ↓wp_mkm, ↓wp_upd, ↓eqT_nil, ↓eqT_int, ↓eqT_bool, ↓eqT_str, ↓b2sT_U8, ↓b2sT_nil, ↓lookT_nil, ↓lookT_cons, cv_agg, cv_nilFunc, mapOK_nil, mapOK_cons, updA_nil , h1']
    have hkl : k = g.length := by omega
    subst hkl
    have hql := hq.len
    have e : (q.map fun p => ints p.2) = (List.range q.length).map fun b => ints (qd q b).2 := by
      refine List.ext_getElem (by simp) fun i h1 h2 => ?_
      have : i < q.length := by simpa using h1
      simp [qd, List.getD, List.getElem?_eq_getElem this]
    refine ⟨_, ?_, q, hq, rfl⟩
    rw [e]
    refine FrzN.ref (ob := ⟨0, 28, 1, qcells q⟩) rfl rfl rfl (List.all_eq_true.2 fun y hy => ?_) ?_
    · obtain ⟨b, _, rfl⟩ := List.mem_map.1 hy; rfl
    · rw [List.drop_zero, List.take_of_length_le (by simp [hql])]
      refine FrzNL.of_map _ fun b hb => ?_
      have hb' : b < q.length := by simpa using hb
      exact frzN_ints (ty := 3) (by simp [qobjs, qd, List.getD, List.getElem?_eq_getElem hb']) rfl
  have h1' := eq_true (show (k : Int) < (g.length : Int) by omega)
  have hrow : g.getD k default = row g k := rfl
  have hrl : (row g k).length ≤ 1000 := hg.row _ (mem_getD h1)
  by_cases h2 : rk.getD k default = -1
  case pos =>
    simp only [↓VW_skip, ↓VW_ops, ↓VW_par, ↓VW_seq, ↓VW_block, ↓VW_exit, ↓VW_ret, ↓VW_cond, ↓litE_tmp, ↓litE_const, ↓seq_normal, ↓seq_exit, ↓seq_ret, ↓blk_normal, ↓blk_exit, ↓blk_ret, ↓get_nil, ↓get_cons, ↓put_some, ↓put_none, ↓put_some', ↓put_none', ↓VTrL, ↓K.wpD, ↓K.wpE, K.xtra, argEnv, ↓retQ, ↓retW, ↓VR.wp, ↓VRs, binOK, binR, unOK, unR, ldOK, stoOK, putA, partA, partOK, fillA, fillOK, partsOf, evs, boundOf, AV.cells, AV.one, AV.laid, Value.oneCell', Nat.reduceEqDiff, Nat.reduceAdd, Nat.reduceMul, ↓reduceIte, ↓dreduceIte, true_and, and_true, List.cons_append, List.nil_append, List.length_map, List.length_cons, List.length_nil, List.getElem?_cons_zero, List.getElem?_cons_succ, List.map_cons, List.map_nil, Bool.not_true, Bool.not_false, forall_const, reduceCtorEq, false_implies, List.all_cons, List.all_nil, Bool.and_true, Bool.and_self, ↓idxT_map, ↓idxT_cons, ↓cellT_I, ↓cellT_B, ↓cellT_map, ↓cellT_cons, decide_eq_true_eq, decide_eq_false_iff_not, Int.toNat_natCast, bne_iff_ne, ne_eq, Bool.not_eq_true', Bool.not_eq_false', bne_eq_false_iff_eq, beq_iff_eq, beq_eq_false_iff_ne, implies_true, List.getD_cons_zero, List.getD_cons_succ, Bool.false_eq_true, false_or, or_false, true_or, or_true, Int.natCast_nonneg, Int.toNat_zero, Int.toNat_one, List.set_cons_zero, List.set_cons_succ, List.take_zero, List.take_succ_cons, List.take_nil, List.drop_zero, List.drop_succ_cons, List.drop_nil, List.append_nil, Nat.zero_add, Nat.add_zero, Nat.mul_one, Nat.zero_mul, ↓wp_mv, ↓wp_pick, ↓wp_ld, ↓wp_sto, ↓wp_idx, ↓wp_aidx, ↓wp_fad, ↓wp_fld, ↓wp_len, ↓wp_lens, ↓wp_bin, ↓wp_beq, ↓wp_un, ↓wp_conv, ↓wp_sl, ↓wp_sls, ↓wp_mk, ↓wp_app, ↓wp_bsl, ↓wp_bld, ↓wp_box, ↓wp_alc, ↓wp_mkf, ↓wp_nck, ↓wp_ext, ↓wp_call, ↓VOps_nil, ↓VOps_go, ↓VOps_if, ↓evF_tmp, ↓evF_const, ↓evF_func, cv_int, cv_bool, cv_slice, cv_string, cv, Nat.reduceLeDiff, Nat.reduceLT, Nat.le_refl, Nat.reduceSub, Int.reduceToNat, Int.reduceLE, Int.reduceLT, not_true_eq_false, not_false_eq_true, decide_true, decide_false, Bool.true_eq_false, ↓imp_tt, ↓imp_ft, ↓imp_tf, ↓imp_ff, ↓imp_tnt, ↓imp_fnt, ↓imp_tnf, ↓imp_fnf, addedOK, addedN, addedCells, oldA, Old, oldL, ↓VW_range, ↓wp_ycal, ↓wp_six, ↓wp_ixv, ↓wp_eqv, ↓wp_mx, ↓wp_mn, ↓wp_nilq, ↓wp_nils, ↓wp_b2s, ↓wp_look, ↓wp_mlen, ↓wp_cpy, ↓wp_clr, ↓wp_s2b, ↓wp_mkm, ↓wp_upd, ↓eqT_nil, ↓eqT_int, ↓eqT_bool, ↓eqT_str, ↓b2sT_U8, ↓b2sT_nil, ↓lookT_nil, ↓lookT_cons, cv_agg, cv_nilFunc, mapOK_nil, mapOK_cons, updA_nil , h1', hrow, h2, Int.toNat_natCast]
    repeat (refine And.intro (by omega) ?_)
    rw [i64_in (by omega) (by omega)]
    exact ⟨(k + 1, q, nx), ⟨by simp only; omega, hq.next hrl (.inl h2) (by omega)⟩, by simp only; omega, Wk.mk (by simp [get_cons]) ⟨[], by simp⟩ (Nat.le_refl _)⟩
  have h2' := eq_false h2
  simp only [↓VW_skip, ↓VW_ops, ↓VW_par, ↓VW_seq, ↓VW_block, ↓VW_exit, ↓VW_ret, ↓VW_cond, ↓litE_tmp, ↓litE_const, ↓seq_normal, ↓seq_exit, ↓seq_ret, ↓blk_normal, ↓blk_exit, ↓blk_ret, ↓get_nil, ↓get_cons, ↓put_some, ↓put_none, ↓put_some', ↓put_none', ↓VTrL, ↓K.wpD, ↓K.wpE, K.xtra, argEnv, ↓retQ, ↓retW, ↓VR.wp, ↓VRs, binOK, binR, unOK, unR, ldOK, stoOK, putA, partA, partOK, fillA, fillOK, partsOf, evs, boundOf, AV.cells, AV.one, AV.laid, Value.oneCell', Nat.reduceEqDiff, Nat.reduceAdd, Nat.reduceMul, ↓reduceIte, ↓dreduceIte, true_and, and_true, List.cons_append, List.nil_append, List.length_map, List.length_cons, List.length_nil, List.getElem?_cons_zero, List.getElem?_cons_succ, List.map_cons, List.map_nil, Bool.not_true, Bool.not_false, forall_const, reduceCtorEq, false_implies, List.all_cons, List.all_nil, Bool.and_true, Bool.and_self, ↓idxT_map, ↓idxT_cons, ↓cellT_I, ↓cellT_B, ↓cellT_map, ↓cellT_cons, decide_eq_true_eq, decide_eq_false_iff_not, Int.toNat_natCast, bne_iff_ne, ne_eq, Bool.not_eq_true', Bool.not_eq_false', bne_eq_false_iff_eq, beq_iff_eq, beq_eq_false_iff_ne, implies_true, List.getD_cons_zero, List.getD_cons_succ, Bool.false_eq_true, false_or, or_false, true_or, or_true, Int.natCast_nonneg, Int.toNat_zero, Int.toNat_one, List.set_cons_zero, List.set_cons_succ, List.take_zero, List.take_succ_cons, List.take_nil, List.drop_zero, List.drop_succ_cons, List.drop_nil, List.append_nil, Nat.zero_add, Nat.add_zero, Nat.mul_one, Nat.zero_mul, ↓wp_mv, ↓wp_pick, ↓wp_ld, ↓wp_sto, ↓wp_idx, ↓wp_aidx, ↓wp_fad, ↓wp_fld, ↓wp_len, ↓wp_lens, ↓wp_bin, ↓wp_beq, ↓wp_un, ↓wp_conv, ↓wp_sl, ↓wp_sls, ↓wp_mk, ↓wp_app, ↓wp_bsl, ↓wp_bld, ↓wp_box, ↓wp_alc, ↓wp_mkf, ↓wp_nck, ↓wp_ext, ↓wp_call, ↓VOps_nil, ↓VOps_go, ↓VOps_if, ↓evF_tmp, ↓evF_const, ↓evF_func, cv_int, cv_bool, cv_slice, cv_string, cv, Nat.reduceLeDiff, Nat.reduceLT, Nat.le_refl, Nat.reduceSub, Int.reduceToNat, Int.reduceLE, Int.reduceLT, not_true_eq_false, not_false_eq_true, decide_true, decide_false, Bool.true_eq_false, ↓imp_tt, ↓imp_ft, ↓imp_tf, ↓imp_ff, ↓imp_tnt, ↓imp_fnt, ↓imp_tnf, ↓imp_fnf, addedOK, addedN, addedCells, oldA, Old, oldL, ↓VW_range, ↓wp_ycal, ↓wp_six, ↓wp_ixv, ↓wp_eqv, ↓wp_mx, ↓wp_mn, ↓wp_nilq, ↓wp_nils, ↓wp_b2s, ↓wp_look, ↓wp_mlen, ↓wp_cpy, ↓wp_clr, ↓wp_s2b, ↓wp_mkm, ↓wp_upd, ↓eqT_nil, ↓eqT_int, ↓eqT_bool, ↓eqT_str, ↓b2sT_U8, ↓b2sT_nil, ↓lookT_nil, ↓lookT_cons, cv_agg, cv_nilFunc, mapOK_nil, mapOK_cons, updA_nil , h1', hrow, h2', Int.toNat_natCast]
  repeat (refine And.intro (by omega) ?_)
  refine VW_loop (fun p : Nat × List (Nat × List Int) × Nat => ⟨[(0, grph g), (1, ints rk), (5, .ref 0 0 0 g.length), (13, grph g), (14, I g.length), (15, I k), (6, I k), (25, ints (row g k)), (26, I (row g k).length), (27, I p.1)], ⟨0, 28, 1, qcells p.2.1⟩ :: qobjs p.2.1, p.2.2⟩)
    (fun p => p.1 ≤ (row g k).length ∧ AH g rk k p.1 p.2.1) (fun p => (row g k).length - p.1) (0, q, nx)
    (Wk.mk (by simp [get_cons]) ⟨[], by simp⟩ (Nat.le_refl _)) ⟨by omega, hq⟩ ?_
  clear hq
  rintro ⟨i, q, nx⟩ ⟨hi, hq⟩
  simp only at hi hq
  by_cases h3 : i < (row g k).length
  case neg =>
    have h3' := eq_false (show ¬ (i : Int) < ((row g k).length : Int) by omega)
    simp only [↓VW_skip, ↓VW_ops, ↓VW_par, ↓VW_seq, ↓VW_block, ↓VW_exit, ↓VW_ret, ↓VW_cond, ↓litE_tmp, ↓litE_const, ↓seq_normal, ↓seq_exit, ↓seq_ret, ↓blk_normal, ↓blk_exit, ↓blk_ret, ↓get_nil, ↓get_cons, ↓put_some, ↓put_none, ↓put_some', ↓put_none', ↓VTrL, ↓K.wpD, ↓K.wpE, K.xtra, argEnv, ↓retQ, ↓retW, ↓VR.wp, ↓VRs, binOK, binR, unOK, unR, ldOK, stoOK, putA, partA, partOK, fillA, fillOK, partsOf, evs, boundOf, AV.cells, AV.one, AV.laid, Value.oneCell', Nat.reduceEqDiff, Nat.reduceAdd, Nat.reduceMul, ↓reduceIte, ↓dreduceIte, true_and, and_true, List.cons_append, List.nil_append, List.length_map, List.length_cons, List.length_nil, List.getElem?_cons_zero, List.getElem?_cons_succ, List.map_cons, List.map_nil, Bool.not_true, Bool.not_false, forall_const, reduceCtorEq, false_implies, List.all_cons, List.all_nil, Bool.and_true, Bool.and_self, ↓idxT_map, ↓idxT_cons, ↓cellT_I, ↓cellT_B, ↓cellT_map, ↓cellT_cons, decide_eq_true_eq, decide_eq_false_iff_not, Int.toNat_natCast, bne_iff_ne, ne_eq, Bool.not_eq_true', Bool.not_eq_false', bne_eq_false_iff_eq, beq_iff_eq, beq_eq_false_iff_ne, implies_true, List.getD_cons_zero, List.getD_cons_succ, Bool.false_eq_true, false_or, or_false, true_or, or_true, Int.natCast_nonneg, Int.toNat_zero, Int.toNat_one, List.set_cons_zero, List.set_cons_succ, List.take_zero, List.take_succ_cons, List.take_nil, List.drop_zero, List.drop_succ_cons, List.drop_nil, List.append_nil, Nat.zero_add, Nat.add_zero, Nat.mul_one, Nat.zero_mul, ↓wp_mv, ↓wp_pick, ↓wp_ld, ↓wp_sto, ↓wp_idx, ↓wp_aidx, ↓wp_fad, ↓wp_fld, ↓wp_len, ↓wp_lens, ↓wp_bin, ↓wp_beq, ↓wp_un, ↓wp_conv, ↓wp_sl, ↓wp_sls, ↓wp_mk, ↓wp_app, ↓wp_bsl, ↓wp_bld, ↓wp_box, ↓wp_alc, ↓wp_mkf, ↓wp_nck, ↓wp_ext, ↓wp_call, ↓VOps_nil, ↓VOps_go, ↓VOps_if, ↓evF_tmp, ↓evF_const, ↓evF_func, cv_int, cv_bool, cv_slice, cv_string, cv, Nat.reduceLeDiff, Nat.reduceLT, Nat.le_refl, Nat.reduceSub, Int.reduceToNat, Int.reduceLE, Int.reduceLT, not_true_eq_false, not_false_eq_true, decide_true, decide_false, Bool.true_eq_false, ↓imp_tt, ↓imp_ft, ↓imp_tf, ↓imp_ff, ↓imp_tnt, ↓imp_fnt, ↓imp_tnf, ↓imp_fnf, addedOK, addedN, addedCells, oldA, Old, oldL, ↓VW_range, ↓wp_ycal, ↓wp_six, ↓wp_ixv, ↓wp_eqv, ↓wp_mx, ↓wp_mn, ↓wp_nilq, ↓wp_nils, ↓wp_b2s, ↓wp_look, ↓wp_mlen, ↓wp_cpy, ↓wp_clr, ↓wp_s2b, ↓wp_mkm, ↓wp_upd, ↓eqT_nil, ↓eqT_int, ↓eqT_bool, ↓eqT_str, ↓b2sT_U8, ↓b2sT_nil, ↓lookT_nil, ↓lookT_cons, cv_agg, cv_nilFunc, mapOK_nil, mapOK_cons, updA_nil , h3']
    repeat (refine And.intro (by omega) ?_)
    rw [i64_in (by omega) (by omega)]
    exact ⟨(k + 1, q, nx), ⟨by simp only; omega, hq.next hrl (.inr (by omega)) hi⟩, by simp only; omega, Wk.mk (by simp [get_cons]) ⟨[], by simp⟩ (Nat.le_refl _)⟩
  have h3' := eq_true (show (i : Int) < ((row g k).length : Int) by omega)
  obtain ⟨y, hy⟩ : ∃ y, (row g k).getD i default = y := ⟨_, rfl⟩
  by_cases h4 : 0 ≤ y
  case neg =>
    simp only [↓VW_skip, ↓VW_ops, ↓VW_par, ↓VW_seq, ↓VW_block, ↓VW_exit, ↓VW_ret, ↓VW_cond, ↓litE_tmp, ↓litE_const, ↓seq_normal, ↓seq_exit, ↓seq_ret, ↓blk_normal, ↓blk_exit, ↓blk_ret, ↓get_nil, ↓get_cons, ↓put_some, ↓put_none, ↓put_some', ↓put_none', ↓VTrL, ↓K.wpD, ↓K.wpE, K.xtra, argEnv, ↓retQ, ↓retW, ↓VR.wp, ↓VRs, binOK, binR, unOK, unR, ldOK, stoOK, putA, partA, partOK, fillA, fillOK, partsOf, evs, boundOf, AV.cells, AV.one, AV.laid, Value.oneCell', Nat.reduceEqDiff, Nat.reduceAdd, Nat.reduceMul, ↓reduceIte, ↓dreduceIte, true_and, and_true, List.cons_append, List.nil_append, List.length_map, List.length_cons, List.length_nil, List.getElem?_cons_zero, List.getElem?_cons_succ, List.map_cons, List.map_nil, Bool.not_true, Bool.not_false, forall_const, reduceCtorEq, false_implies, List.all_cons, List.all_nil, Bool.and_true, Bool.and_self, ↓idxT_map, ↓idxT_cons, ↓cellT_I, ↓cellT_B, ↓cellT_map, ↓cellT_cons, decide_eq_true_eq, decide_eq_false_iff_not, Int.toNat_natCast, bne_iff_ne, ne_eq, Bool.not_eq_true', Bool.not_eq_false', bne_eq_false_iff_eq, beq_iff_eq, beq_eq_false_iff_ne, implies_true, List.getD_cons_zero, List.getD_cons_succ, Bool.false_eq_true, false_or, or_false, true_or, or_true, Int.natCast_nonneg, Int.toNat_zero, Int.toNat_one, List.set_cons_zero, List.set_cons_succ, List.take_zero, List.take_succ_cons, List.take_nil, List.drop_zero, List.drop_succ_cons, List.drop_nil, List.append_nil, Nat.zero_add, Nat.add_zero, Nat.mul_one, Nat.zero_mul, ↓wp_mv, ↓wp_pick, ↓wp_ld, ↓wp_sto, ↓wp_idx, ↓wp_aidx, ↓wp_fad, ↓wp_fld, ↓wp_len, ↓wp_lens, ↓wp_bin, ↓wp_beq, ↓wp_un, ↓wp_conv, ↓wp_sl, ↓wp_sls, ↓wp_mk, ↓wp_app, ↓wp_bsl, ↓wp_bld, ↓wp_box, ↓wp_alc, ↓wp_mkf, ↓wp_nck, ↓wp_ext, ↓wp_call, ↓VOps_nil, ↓VOps_go, ↓VOps_if, ↓evF_tmp, ↓evF_const, ↓evF_func, cv_int, cv_bool, cv_slice, cv_string, cv, Nat.reduceLeDiff, Nat.reduceLT, Nat.le_refl, Nat.reduceSub, Int.reduceToNat, Int.reduceLE, Int.reduceLT, not_true_eq_false, not_false_eq_true, decide_true, decide_false, Bool.true_eq_false, ↓imp_tt, ↓imp_ft, ↓imp_tf, ↓imp_ff, ↓imp_tnt, ↓imp_fnt, ↓imp_tnf, ↓imp_fnf, addedOK, addedN, addedCells, oldA, Old, oldL, ↓VW_range, ↓wp_ycal, ↓wp_six, ↓wp_ixv, ↓wp_eqv, ↓wp_mx, ↓wp_mn, ↓wp_nilq, ↓wp_nils, ↓wp_b2s, ↓wp_look, ↓wp_mlen, ↓wp_cpy, ↓wp_clr, ↓wp_s2b, ↓wp_mkm, ↓wp_upd, ↓eqT_nil, ↓eqT_int, ↓eqT_bool, ↓eqT_str, ↓b2sT_U8, ↓b2sT_nil, ↓lookT_nil, ↓lookT_cons, cv_agg, cv_nilFunc, mapOK_nil, mapOK_cons, updA_nil , h3', hy, eq_false h4, Int.toNat_natCast]
    repeat (refine And.intro (by omega) ?_)
    rw [i64_in (by omega) (by omega)]
    exact ⟨(i + 1, q, nx), ⟨by simp only; omega, hq.skip h3 (by rw [hy]; omega)⟩, by simp only; omega, Wk.mk (by simp [get_cons]) ⟨[], by simp⟩ (Nat.le_refl _)⟩
  by_cases h5 : y < g.length
  case neg =>
    simp only [↓VW_skip, ↓VW_ops, ↓VW_par, ↓VW_seq, ↓VW_block, ↓VW_exit, ↓VW_ret, ↓VW_cond, ↓litE_tmp, ↓litE_const, ↓seq_normal, ↓seq_exit, ↓seq_ret, ↓blk_normal, ↓blk_exit, ↓blk_ret, ↓get_nil, ↓get_cons, ↓put_some, ↓put_none, ↓put_some', ↓put_none', ↓VTrL, ↓K.wpD, ↓K.wpE, K.xtra, argEnv, ↓retQ, ↓retW, ↓VR.wp, ↓VRs, binOK, binR, unOK, unR, ldOK, stoOK, putA, partA, partOK, fillA, fillOK, partsOf, evs, boundOf, AV.cells, AV.one, AV.laid, Value.oneCell', Nat.reduceEqDiff, Nat.reduceAdd, Nat.reduceMul, ↓reduceIte, ↓dreduceIte, true_and, and_true, List.cons_append, List.nil_append, List.length_map, List.length_cons, List.length_nil, List.getElem?_cons_zero, List.getElem?_cons_succ, List.map_cons, List.map_nil, Bool.not_true, Bool.not_false, forall_const, reduceCtorEq, false_implies, List.all_cons, List.all_nil, Bool.and_true, Bool.and_self, ↓idxT_map, ↓idxT_cons, ↓cellT_I, ↓cellT_B, ↓cellT_map, ↓cellT_cons, decide_eq_true_eq, decide_eq_false_iff_not, Int.toNat_natCast, bne_iff_ne, ne_eq, Bool.not_eq_true', Bool.not_eq_false', bne_eq_false_iff_eq, beq_iff_eq, beq_eq_false_iff_ne, implies_true, List.getD_cons_zero, List.getD_cons_succ, Bool.false_eq_true, false_or, or_false, true_or, or_true, Int.natCast_nonneg, Int.toNat_zero, Int.toNat_one, List.set_cons_zero, List.set_cons_succ, List.take_zero, List.take_succ_cons, List.take_nil, List.drop_zero, List.drop_succ_cons, List.drop_nil, List.append_nil, Nat.zero_add, Nat.add_zero, Nat.mul_one, Nat.zero_mul, ↓wp_mv, ↓wp_pick, ↓wp_ld, ↓wp_sto, ↓wp_idx, ↓wp_aidx, ↓wp_fad, ↓wp_fld, ↓wp_len, ↓wp_lens, ↓wp_bin, ↓wp_beq, ↓wp_un, ↓wp_conv, ↓wp_sl, ↓wp_sls, ↓wp_mk, ↓wp_app, ↓wp_bsl, ↓wp_bld, ↓wp_box, ↓wp_alc, ↓wp_mkf, ↓wp_nck, ↓wp_ext, ↓wp_call, ↓VOps_nil, ↓VOps_go, ↓VOps_if, ↓evF_tmp, ↓evF_const, ↓evF_func, cv_int, cv_bool, cv_slice, cv_string, cv, Nat.reduceLeDiff, Nat.reduceLT, Nat.le_refl, Nat.reduceSub, Int.reduceToNat, Int.reduceLE, Int.reduceLT, not_true_eq_false, not_false_eq_true, decide_true, decide_false, Bool.true_eq_false, ↓imp_tt, ↓imp_ft, ↓imp_tf, ↓imp_ff, ↓imp_tnt, ↓imp_fnt, ↓imp_tnf, ↓imp_fnf, addedOK, addedN, addedCells, oldA, Old, oldL, ↓VW_range, ↓wp_ycal, ↓wp_six, ↓wp_ixv, ↓wp_eqv, ↓wp_mx, ↓wp_mn, ↓wp_nilq, ↓wp_nils, ↓wp_b2s, ↓wp_look, ↓wp_mlen, ↓wp_cpy, ↓wp_clr, ↓wp_s2b, ↓wp_mkm, ↓wp_upd, ↓eqT_nil, ↓eqT_int, ↓eqT_bool, ↓eqT_str, ↓b2sT_U8, ↓b2sT_nil, ↓lookT_nil, ↓lookT_cons, cv_agg, cv_nilFunc, mapOK_nil, mapOK_cons, updA_nil , h3', hy, eq_true h4, eq_false h5, Int.toNat_natCast]
    repeat (refine And.intro (by omega) ?_)
    rw [i64_in (by omega) (by omega)]
    exact ⟨(i + 1, q, nx), ⟨by simp only; omega, hq.skip h3 (by rw [hy]; omega)⟩, by simp only; omega, Wk.mk (by simp [get_cons]) ⟨[], by simp⟩ (Nat.le_refl _)⟩
  simp only [↓VW_skip, ↓VW_ops, ↓VW_par, ↓VW_seq, ↓VW_block, ↓VW_exit, ↓VW_ret, ↓VW_cond, ↓litE_tmp, ↓litE_const, ↓seq_normal, ↓seq_exit, ↓seq_ret, ↓blk_normal, ↓blk_exit, ↓blk_ret, ↓get_nil, ↓get_cons, ↓put_some, ↓put_none, ↓put_some', ↓put_none', ↓VTrL, ↓K.wpD, ↓K.wpE, K.xtra, argEnv, ↓retQ, ↓retW, ↓VR.wp, ↓VRs, binOK, binR, unOK, unR, ldOK, stoOK, putA, partA, partOK, fillA, fillOK, partsOf, evs, boundOf, AV.cells, AV.one, AV.laid, Value.oneCell', Nat.reduceEqDiff, Nat.reduceAdd, Nat.reduceMul, ↓reduceIte, ↓dreduceIte, true_and, and_true, List.cons_append, List.nil_append, List.length_map, List.length_cons, List.length_nil, List.getElem?_cons_zero, List.getElem?_cons_succ, List.map_cons, List.map_nil, Bool.not_true, Bool.not_false, forall_const, reduceCtorEq, false_implies, List.all_cons, List.all_nil, Bool.and_true, Bool.and_self, ↓idxT_map, ↓idxT_cons, ↓cellT_I, ↓cellT_B, ↓cellT_map, ↓cellT_cons, decide_eq_true_eq, decide_eq_false_iff_not, Int.toNat_natCast, bne_iff_ne, ne_eq, Bool.not_eq_true', Bool.not_eq_false', bne_eq_false_iff_eq, beq_iff_eq, beq_eq_false_iff_ne, implies_true, List.getD_cons_zero, List.getD_cons_succ, Bool.false_eq_true, false_or, or_false, true_or, or_true, Int.natCast_nonneg, Int.toNat_zero, Int.toNat_one, List.set_cons_zero, List.set_cons_succ, List.take_zero, List.take_succ_cons, List.take_nil, List.drop_zero, List.drop_succ_cons, List.drop_nil, List.append_nil, Nat.zero_add, Nat.add_zero, Nat.mul_one, Nat.zero_mul, ↓wp_mv, ↓wp_pick, ↓wp_ld, ↓wp_sto, ↓wp_idx, ↓wp_aidx, ↓wp_fad, ↓wp_fld, ↓wp_len, ↓wp_lens, ↓wp_bin, ↓wp_beq, ↓wp_un, ↓wp_conv, ↓wp_sl, ↓wp_sls, ↓wp_mk, ↓wp_app, ↓wp_bsl, ↓wp_bld, ↓wp_box, ↓wp_alc, ↓wp_mkf, ↓wp_nck, ↓wp_ext, ↓wp_call, ↓VOps_nil, ↓VOps_go, ↓VOps_if, ↓evF_tmp, ↓evF_const, ↓evF_func, cv_int, cv_bool, cv_slice, cv_string, cv, Nat.reduceLeDiff, Nat.reduceLT, Nat.le_refl, Nat.reduceSub, Int.reduceToNat, Int.reduceLE, Int.reduceLT, not_true_eq_false, not_false_eq_true, decide_true, decide_false, Bool.true_eq_false, ↓imp_tt, ↓imp_ft, ↓imp_tf, ↓imp_ff, ↓imp_tnt, ↓imp_fnt, ↓imp_tnf, ↓imp_fnf, addedOK, addedN, addedCells, oldA, Old, oldL, ↓VW_range, ↓wp_ycal, ↓wp_six, ↓wp_ixv, ↓wp_eqv, ↓wp_mx, ↓wp_mn, ↓wp_nilq, ↓wp_nils, ↓wp_b2s, ↓wp_look, ↓wp_mlen, ↓wp_cpy, ↓wp_clr, ↓wp_s2b, ↓wp_mkm, ↓wp_upd, ↓eqT_nil, ↓eqT_int, ↓eqT_bool, ↓eqT_str, ↓b2sT_U8, ↓b2sT_nil, ↓lookT_nil, ↓lookT_cons, cv_agg, cv_nilFunc, mapOK_nil, mapOK_cons, updA_nil , h3', hy, eq_true h4, eq_true h5, Int.toNat_natCast]
  repeat (refine And.intro (by omega) ?_)
  have hql := hq.len
  have hyq : y.toNat < q.length := by rw [hql]; omega
  have eg : (List.range q.length).getD y.toNat default = y.toNat := by simp [List.getD, hyq]
  have hob : (qobjs q)[y.toNat]? = some ⟨(qd q y.toNat).1, 3, 1, (qd q y.toNat).2.map I⟩ := by
    simp [qobjs, qd, List.getD, List.getElem?_eq_getElem hyq]
  have hob' : ∀ tl, (qobjs q ++ tl)[y.toNat]? = some ⟨(qd q y.toNat).1, 3, 1, (qd q y.toNat).2.map I⟩ := fun tl => by
    rw [List.getElem?_append_left (by simpa using hyq)]; exact hob
  have hnew : ∀ o : VObj, (qobjs q ++ [o])[q.length]? = some o := fun o => by
    rw [List.getElem?_append_right (by simp)]; simp
  have hsz := hq.size y.toNat
  rw [show qcells q = (List.range q.length).map (fun b => AV.ref (b + 1) (qd q b).1 0 (qd q b).2.length) from rfl, cellT_map (fun _ => rfl)]
  refine ⟨by simpa using hyq, ?_⟩
  rw [eg]
  simp only [↓VW_skip, ↓VW_ops, ↓VW_par, ↓VW_seq, ↓VW_block, ↓VW_exit, ↓VW_ret, ↓VW_cond, ↓litE_tmp, ↓litE_const, ↓seq_normal, ↓seq_exit, ↓seq_ret, ↓blk_normal, ↓blk_exit, ↓blk_ret, ↓get_nil, ↓get_cons, ↓put_some, ↓put_none, ↓put_some', ↓put_none', ↓VTrL, ↓K.wpD, ↓K.wpE, K.xtra, argEnv, ↓retQ, ↓retW, ↓VR.wp, ↓VRs, binOK, binR, unOK, unR, ldOK, stoOK, putA, partA, partOK, fillA, fillOK, partsOf, evs, boundOf, AV.cells, AV.one, AV.laid, Value.oneCell', Nat.reduceEqDiff, Nat.reduceAdd, Nat.reduceMul, ↓reduceIte, ↓dreduceIte, true_and, and_true, List.cons_append, List.nil_append, List.length_map, List.length_cons, List.length_nil, List.getElem?_cons_zero, List.getElem?_cons_succ, List.map_cons, List.map_nil, Bool.not_true, Bool.not_false, forall_const, reduceCtorEq, false_implies, List.all_cons, List.all_nil, Bool.and_true, Bool.and_self, ↓idxT_map, ↓idxT_cons, ↓cellT_I, ↓cellT_B, ↓cellT_map, ↓cellT_cons, decide_eq_true_eq, decide_eq_false_iff_not, Int.toNat_natCast, bne_iff_ne, ne_eq, Bool.not_eq_true', Bool.not_eq_false', bne_eq_false_iff_eq, beq_iff_eq, beq_eq_false_iff_ne, implies_true, List.getD_cons_zero, List.getD_cons_succ, Bool.false_eq_true, false_or, or_false, true_or, or_true, Int.natCast_nonneg, Int.toNat_zero, Int.toNat_one, List.set_cons_zero, List.set_cons_succ, List.take_zero, List.take_succ_cons, List.take_nil, List.drop_zero, List.drop_succ_cons, List.drop_nil, List.append_nil, Nat.zero_add, Nat.add_zero, Nat.mul_one, Nat.zero_mul, ↓wp_mv, ↓wp_pick, ↓wp_ld, ↓wp_sto, ↓wp_idx, ↓wp_aidx, ↓wp_fad, ↓wp_fld, ↓wp_len, ↓wp_lens, ↓wp_bin, ↓wp_beq, ↓wp_un, ↓wp_conv, ↓wp_sl, ↓wp_sls, ↓wp_mk, ↓wp_app, ↓wp_bsl, ↓wp_bld, ↓wp_box, ↓wp_alc, ↓wp_mkf, ↓wp_nck, ↓wp_ext, ↓wp_call, ↓VOps_nil, ↓VOps_go, ↓VOps_if, ↓evF_tmp, ↓evF_const, ↓evF_func, cv_int, cv_bool, cv_slice, cv_string, cv, Nat.reduceLeDiff, Nat.reduceLT, Nat.le_refl, Nat.reduceSub, Int.reduceToNat, Int.reduceLE, Int.reduceLT, not_true_eq_false, not_false_eq_true, decide_true, decide_false, Bool.true_eq_false, ↓imp_tt, ↓imp_ft, ↓imp_tf, ↓imp_ff, ↓imp_tnt, ↓imp_fnt, ↓imp_tnf, ↓imp_fnf, addedOK, addedN, addedCells, oldA, Old, oldL, ↓VW_range, ↓wp_ycal, ↓wp_six, ↓wp_ixv, ↓wp_eqv, ↓wp_mx, ↓wp_mn, ↓wp_nilq, ↓wp_nils, ↓wp_b2s, ↓wp_look, ↓wp_mlen, ↓wp_cpy, ↓wp_clr, ↓wp_s2b, ↓wp_mkm, ↓wp_upd, ↓eqT_nil, ↓eqT_int, ↓eqT_bool, ↓eqT_str, ↓b2sT_U8, ↓b2sT_nil, ↓lookT_nil, ↓lookT_cons, cv_agg, cv_nilFunc, mapOK_nil, mapOK_cons, updA_nil , hob', hnew, List.length_append]
  have hmx : (2000000 : Nat) ≤ maxLen := by decide
  rw [i64_in (by omega) (by omega)]
  repeat (refine And.intro (by first | omega | (simp; omega)) ?_)
  refine ⟨(i + 1, q.set y.toNat (nx + 1, (qd q y.toNat).2 ++ [(k : Int)]), nx + 1 + 1), ⟨by simp only; omega, hq.push h1 h2 h3 hy h4 h5 _⟩, by simp only; omega, Wk.mk (by simp [get_cons]) ⟨[⟨nx, 3, 1, [I k]⟩], ?_⟩ (Nat.le_refl _)⟩
  simp only [List.cons_append]
  rw [← qcells_set hyq (n := (qd q y.toNat).2.length + 1) (by simp), ← qobjs_set hyq, List.map_append, List.take_of_length_le (by simp)]
  rfl
end Go.Proofs.Ytdiknjjhegckcaa
