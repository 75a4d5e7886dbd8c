/-
  A row told truth by truth: contract. No condition.
-/
import Derived.Test.YtjdeediehmhdoaaBD
namespace Go.Proofs.Ytjdeediehmhdoaa
set_option linter.unusedSimpArgs false
set_option linter.unusedVariables false
set_option maxRecDepth 10000
open Go.V

theorem bit64b {l : List Bool} {v : Nat} (hv : v < 64) (hl : l.length ≤ 64) : (IntKind.u64.wrap ((BitVec.ofInt IntKind.u64.bits ((wd l : Int).fdiv (2 ^ min v IntKind.u64.bits)) &&& BitVec.ofInt IntKind.u64.bits 1).toNat : Nat) == (1 : Int)) = gB l v := bit64 hv hl
def sprL (l : List Bool) (k : Nat) : List Bool := (List.range l.length).map fun v => if v < k then gB l v else false
theorem sprL_len (l : List Bool) (k : Nat) : (sprL l k).length = l.length := by simp [sprL]
theorem sprL_zero (l : List Bool) : sprL l 0 = List.replicate l.length false := by
  refine List.ext_getElem (by simp [sprL]) fun i h1 h2 => ?_
  simp [sprL]
theorem sprL_set (l : List Bool) {k : Nat} (hk : k < l.length) : (sprL l k).set k (gB l k) = sprL l (k + 1) := by
  refine List.ext_getElem (by simp [sprL]) fun i h1 h2 => ?_
  rw [List.getElem_set]
  simp only [sprL, List.getElem_map, List.getElem_range]
  by_cases h : k = i
  · subst h; simp
  · rw [if_neg h]
    by_cases h3 : i < k
    · rw [if_pos h3, if_pos (by omega)]
    · rw [if_neg h3, if_neg (by omega)]
theorem sprL_all (l : List Bool) : sprL l l.length = l := gB_ext (sprL_len _ _) fun v hv => by
  rw [sprL_len] at hv
  unfold sprL; rw [gB, List.getD]; simp [hv]

theorem spread_c (l : List Bool) (hl : l.length ≤ 64) : ContractN Try.prog 33 [.imm 1 (rowC64 l), I l.length] (fun r => r = bools l) := by
  refine ContractN.of_call (VCall.of_body hmix f_live_row_spread (by simp) ?_)
  simp only [go_sem,Nat.reduceEqDiff,Nat.reduceAdd,Nat.reduceMul,↓reduceIte,↓dreduceIte,reduceCtorEq,Nat.reduceLeDiff,Nat.reduceLT,Nat.reduceSub,Int.reduceToNat,Int.reduceLE,Int.reduceLT, c_live_row_spread, one_imm, one_ref, rep_B]
  repeat ((with_reducible refine And.intro ?_ ?_); · omega)
  refine VW_loop (fun k : Nat => ⟨[(0, .imm 1 (rowC64 l)), (5, .ref 0 0 0 l.length), (10, I l.length), (11, I k)], [⟨0, 4, 1, (sprL l k).map B⟩], 1⟩) (fun k => k ≤ l.length) (fun k => l.length - k) 0
    (Wk.mk (by simp [get_cons]) ⟨[], by rw [sprL_zero]; rfl⟩ (Nat.le_refl _)) (by omega) ?_
  intro k hk
  by_cases hlt : k < l.length
  · have hne : l.length ≠ 0 := by omega
    have e1 : ((k : Int)).tdiv 64 = 0 := by rw [Int.tdiv_eq_ediv_of_nonneg (by omega)]; omega
    have e2 : ((k : Int)).tmod 64 = k := by rw [Int.tmod_eq_emod_of_nonneg (by omega)]; omega
    have e4 : IntKind.i64.wrap 0 = 0 := rfl
    have e5 := bit64b (l := l) (v := k) (by omega) hl
    have e6 : IntKind.i64.wrap (k : Int) = k := i64_in (by omega) (by omega)
    simp only [↓VW_skip,↓VW_ops,↓VW_par,↓VW_park,↓VW_seq,↓VW_block,↓VW_exit,↓VW_ret,↓VW_cond,↓litE_tmp,↓litE_const,↓seq_normal,↓seq_exit,↓seq_ret,↓blk_normal,↓blk_exit,↓blk_ret,↓get_nil,↓get_cons,↓put_some,↓put_none,↓put_some',↓put_none',↓VTrL_done,↓VTrL_one,↓VTrL_if,↓VTrL_both,↓wpD_eq,↓wpE_call,↓wpE_callA,↓wpE_mv,↓wpE_pick,↓wpE_ld,↓wpE_sto,↓wpE_idx,↓wpE_aidx,↓wpE_fad,↓wpE_fld,↓wpE_len,↓wpE_lens,↓wpE_bin,↓wpE_beq,↓wpE_un,↓wpE_conv,↓wpE_sl,↓wpE_sls,↓wpE_mk,↓wpE_app,↓wpE_bsl,↓wpE_bld,↓wpE_box,↓wpE_alc,↓wpE_mkf,↓wpE_nck,↓wpE_ext,↓wpE_pur,↓wpE_see,↓wpE_eff,↓wpE_ycal,undef,K.xtra,EOp.adds,argEnv,↓retQ,↓retW,↓VR.wp,↓VRs,binOK,binR,unOK,unR,ldOK,stoOK,putA,partA,partOK,fillA,fillOK,partsOf,evs,boundOf,AV.cells,AV.one,AV.laid,Value.oneCell',Nat.reduceEqDiff,Nat.reduceAdd,Nat.reduceMul,↓reduceIte,↓dreduceIte,true_and,and_true,List.cons_append,List.nil_append,List.length_map,List.length_cons,List.length_nil,List.getElem?_cons_zero,List.getElem?_cons_succ,List.map_cons,List.map_nil,Bool.not_true,Bool.not_false,forall_const,reduceCtorEq,false_implies,List.all_cons,List.all_nil,Bool.and_true,Bool.and_self,↓idxT_map,↓idxT_cons,↓cellT_I,↓cellT_B,↓cellT_map,↓cellT_cons,decide_eq_true_eq,decide_eq_false_iff_not,Int.toNat_natCast,bne_iff_ne,ne_eq,Bool.not_eq_true',Bool.not_eq_false',bne_eq_false_iff_eq,beq_iff_eq,beq_eq_false_iff_ne,implies_true,List.getD_cons_zero,List.getD_cons_succ,Bool.false_eq_true,false_or,or_false,true_or,or_true,Int.natCast_nonneg,Int.toNat_zero,Int.toNat_one,List.set_cons_zero,List.set_cons_succ,List.take_zero,List.take_succ_cons,List.take_nil,List.drop_zero,List.drop_succ_cons,List.drop_nil,List.append_nil,Nat.zero_add,Nat.add_zero,Nat.mul_one,Nat.zero_mul,↓wp_mv,↓wp_pick,↓wp_ld,↓wp_sto,↓wp_idx,↓wp_aidx,↓wp_fad,↓wp_fld,↓wp_len,↓wp_lens,↓wp_bin,↓wp_beq,↓wp_un,↓wp_conv,↓wp_sl,↓wp_sls,↓wp_mk,↓wp_app,↓wp_bsl,↓wp_bld,↓wp_box,↓wp_alc,↓wp_mkf,↓wp_nck,↓wp_ext,↓wp_call,↓wp_callA,↓VOps_nil,↓VOps_go,↓VOps_if,↓evF_tmp,↓evF_const,↓evF_func,cv_int,cv_bool,cv_slice,cv_string,cv,Nat.reduceLeDiff,Nat.reduceLT,Nat.le_refl,Nat.reduceSub,Int.reduceToNat,Int.reduceLE,Int.reduceLT,not_true_eq_false,not_false_eq_true,decide_true,decide_false,Bool.true_eq_false,↓imp_tt,↓imp_ft,↓imp_tf,↓imp_ff,↓imp_tnt,↓imp_fnt,↓imp_tnf,↓imp_fnf,addedOK,addedN,addedCells,oldA,Old,oldL,↓VW_range,↓wp_ycal,↓wp_six,↓wp_ixv,↓wp_eqv,↓wp_mx,↓wp_mn,↓wp_nilq,↓wp_nils,↓wp_b2s,↓wp_look,↓wp_mlen,↓wp_cpy,↓wp_clr,↓wp_s2b,↓wp_mkm,↓wp_upd,↓eqT_nil,↓eqT_int,↓eqT_bool,↓eqT_str,↓b2sT_U8,↓b2sT_nil,↓lookT_nil,↓lookT_cons,cv_agg,cv_nilFunc,mapOK_nil,mapOK_cons,updA_nil,iteP,Bool.not_eq_true,Bool.not_eq_false,Classical.not_not, one_imm, one_ref, List.length_map, eq_true (show (k : Int) < l.length by omega), e1, e2, e4, e6, rowC64_pos hne, e5, set_B, sprL_len, sprL_set _ hlt]
    repeat ((with_reducible refine And.intro ?_ ?_); · first | omega | decide)
    rw [i64_in (by omega) (by omega)]
    exact ⟨k + 1, by omega, by omega, Wk.mk (by simp [get_cons, rowC64_pos hne]) ⟨[], rfl⟩ (Nat.le_refl _)⟩
  · obtain rfl : k = l.length := by omega
    simp only [go_sem,Nat.reduceEqDiff,Nat.reduceAdd,Nat.reduceMul,↓reduceIte,↓dreduceIte,reduceCtorEq,Nat.reduceLeDiff,Nat.reduceLT,Nat.reduceSub,Int.reduceToNat,Int.reduceLE,Int.reduceLT, one_imm, one_ref, List.length_map, eq_false (show ¬ (l.length : Int) < l.length by omega), sprL_all]
    exact ⟨_, frzN_bools rfl rfl, rfl⟩
end Go.Proofs.Ytjdeediehmhdoaa
