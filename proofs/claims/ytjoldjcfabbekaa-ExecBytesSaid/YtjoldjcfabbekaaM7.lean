/-
  Instructions out of words, and words out of instructions, as the program and the document have it: contracts, part 2. No condition.
-/
import Derived.Test.YtjoldjcfabbekaaM6
namespace Go.Proofs.Ytjoldjcfabbekaa
set_option linter.unusedSimpArgs false
set_option linter.unusedVariables false
set_option maxRecDepth 10000
open Go.V

def opW (w : Int) : Int := w / 16777216
def raW (w : Int) : Int := w / 1048576 % 16
def rbW (w : Int) : Int := w / 65536 % 16
def kW (w : Int) : Int := w % 65536
/-- Is it an instruction? -/
def okW (w : Int) : Bool := okI (opW w) (raW w) (rbW w) (kW w)
def decA (w : Int) : AV := if okW w then .tup [insA (opW w) (raW w) (rbW w) (kW w), I 0] else .tup [insA 0 0 0 0, I 7]

theorem Frz.ins {n : Nat} {H : List VObj} {nx : Nat} {op a b c e : Int} : Frz n H nx (.tup [.agg [I op, I a, I b, I c], I e]) (.tup [insA op a b c, I e]) := Frz.pure rfl

theorem decode_c (w : Int) (hw : In32 w) : Contract Try.prog 47 [U32 w] (fun r => r = decA w) := by
  refine Contract.of_call (VCall.of_body hmix f_inst_Decode (by simp) ?_)
  obtain ⟨h0, h1⟩ := hw
  have hdiv : ∀ k : Nat, k ≤ 32 → w.fdiv (2 ^ (min ((k : Int)).toNat IntKind.u32.bits)) = w / 2 ^ k := fun k hk => by
    have := shrW_eq ⟨h0, h1⟩ k hk
    unfold shrW at this
    rw [this]
    conv => rhs; rw [show w = ((w.toNat : Nat) : Int) by omega]
    simp
  have e24 : w.fdiv (2 ^ (min 24 IntKind.u32.bits)) = w / 16777216 := hdiv 24 (by omega)
  have e20 : w.fdiv (2 ^ (min 20 IntKind.u32.bits)) = w / 1048576 := hdiv 20 (by omega)
  have e16 : w.fdiv (2 ^ (min 16 IntKind.u32.bits)) = w / 65536 := hdiv 16 (by omega)
  have m15 : ∀ x : Int, In32 x → IntKind.u32.wrap (((BitVec.ofInt IntKind.u32.bits x &&& BitVec.ofInt IntKind.u32.bits 15).toNat : Nat) : Int) = x % 16 := fun x hx => andW_mask hx 4 (by omega)
  have m65 : IntKind.u32.wrap (((BitVec.ofInt IntKind.u32.bits w &&& BitVec.ofInt IntKind.u32.bits 65535).toNat : Nat) : Int) = w % 65536 := andW_mask ⟨h0, h1⟩ 16 (by omega)
  have e1 : IntKind.i64.wrap (w / 16777216) = opW w := i64_in (by omega) (by omega)
  have e2 : IntKind.i64.wrap (w / 1048576 % 16) = raW w := i64_in (by omega) (by omega)
  have e3 : IntKind.i64.wrap (w / 65536 % 16) = rbW w := i64_in (by omega) (by omega)
  have e4 : IntKind.i64.wrap (w % 65536) = kW w := i64_in (by omega) (by omega)
  have x20 := m15 (w / 1048576) ⟨by omega, by omega⟩
  have x16 := m15 (w / 65536) ⟨by omega, by omega⟩
  simp only [↓VW_skip,↓VW_ops,↓VW_par,↓VW_park,↓VW_seq,↓VW_block,↓VW_exit,↓VW_ret,↓VW_cond,↓litE_tmp,↓litE_const,↓seq_normal,↓seq_exit,↓seq_ret,↓blk_normal,↓blk_exit,↓blk_ret,↓get_nil,↓get_cons,↓put_some,↓put_none,↓put_some',↓put_none',↓VTrL_done,↓VTrL_one,↓VTrL_if,↓VTrL_both,↓wpD_eq,↓wpE_call,↓wpE_callA,↓wpE_mv,↓wpE_pick,↓wpE_ld,↓wpE_sto,↓wpE_idx,↓wpE_aidx,↓wpE_fad,↓wpE_fld,↓wpE_len,↓wpE_lens,↓wpE_bin,↓wpE_beq,↓wpE_un,↓wpE_conv,↓wpE_sl,↓wpE_sls,↓wpE_mk,↓wpE_app,↓wpE_bsl,↓wpE_bld,↓wpE_box,↓wpE_alc,↓wpE_mkf,↓wpE_nck,↓wpE_ext,↓wpE_pur,↓wpE_see,↓wpE_eff,↓wpE_ycal,undef,K.xtra,argEnv,↓retQ,↓retW,↓VR.wp,↓VRs,binOK,binR,unOK,unR,ldOK,stoOK,putA,partA,partOK,fillA,fillOK,partsOf,evs,boundOf,AV.cells,AV.one,AV.laid,Value.oneCell',Nat.reduceEqDiff,Nat.reduceAdd,Nat.reduceMul,↓reduceIte,↓dreduceIte,true_and,and_true,List.cons_append,List.nil_append,List.length_map,List.length_cons,List.length_nil,List.getElem?_cons_zero,List.getElem?_cons_succ,List.map_cons,List.map_nil,Bool.not_true,Bool.not_false,forall_const,reduceCtorEq,false_implies,List.all_cons,List.all_nil,Bool.and_true,Bool.and_self,↓idxT_map,↓idxT_cons,↓cellT_I,↓cellT_B,↓cellT_map,↓cellT_cons,decide_eq_true_eq,decide_eq_false_iff_not,Int.toNat_natCast,bne_iff_ne,ne_eq,Bool.not_eq_true',Bool.not_eq_false',bne_eq_false_iff_eq,beq_iff_eq,beq_eq_false_iff_ne,implies_true,List.getD_cons_zero,List.getD_cons_succ,Bool.false_eq_true,false_or,or_false,true_or,or_true,Int.natCast_nonneg,Int.toNat_zero,Int.toNat_one,List.set_cons_zero,List.set_cons_succ,List.take_zero,List.take_succ_cons,List.take_nil,List.drop_zero,List.drop_succ_cons,List.drop_nil,List.append_nil,Nat.zero_add,Nat.add_zero,Nat.mul_one,Nat.zero_mul,↓wp_mv,↓wp_pick,↓wp_ld,↓wp_sto,↓wp_idx,↓wp_aidx,↓wp_fad,↓wp_fld,↓wp_len,↓wp_lens,↓wp_bin,↓wp_beq,↓wp_un,↓wp_conv,↓wp_sl,↓wp_sls,↓wp_mk,↓wp_app,↓wp_bsl,↓wp_bld,↓wp_box,↓wp_alc,↓wp_mkf,↓wp_nck,↓wp_ext,↓wp_call,↓wp_callA,↓VOps_nil,↓VOps_go,↓VOps_if,↓evF_tmp,↓evF_const,↓evF_func,cv_int,cv_bool,cv_slice,cv_string,cv,Nat.reduceLeDiff,Nat.reduceLT,Nat.le_refl,Nat.reduceSub,Int.reduceToNat,Int.reduceLE,Int.reduceLT,not_true_eq_false,not_false_eq_true,decide_true,decide_false,Bool.true_eq_false,↓imp_tt,↓imp_ft,↓imp_tf,↓imp_ff,↓imp_tnt,↓imp_fnt,↓imp_tnf,↓imp_fnf,addedOK,addedN,addedCells,oldA,Old,oldL,↓VW_range,↓wp_ycal,↓wp_six,↓wp_ixv,↓wp_eqv,↓wp_mx,↓wp_mn,↓wp_nilq,↓wp_nils,↓wp_b2s,↓wp_look,↓wp_mlen,↓wp_cpy,↓wp_clr,↓wp_s2b,↓wp_mkm,↓wp_upd,↓eqT_nil,↓eqT_int,↓eqT_bool,↓eqT_str,↓b2sT_U8,↓b2sT_nil,↓lookT_nil,↓lookT_cons,cv_agg,cv_nilFunc,mapOK_nil,mapOK_cons,updA_nil,iteP,Bool.not_eq_true,Bool.not_eq_false,Classical.not_not, c_inst_Decode, e24, e20, e16, m65, x20, x16, e1, e2, e3, e4]
  refine VCall.of_contract (right_c _ _ _ _) (SleL.pure rfl) fun x hx => ?_
  subst hx
  unfold decA okW
  cases h : okI (opW w) (raW w) (rbW w) (kW w)
  · simp only [go_sem,Nat.reduceEqDiff,Nat.reduceAdd,Nat.reduceMul,↓reduceIte,↓dreduceIte,reduceCtorEq,Nat.reduceLeDiff,Nat.reduceLT,Nat.reduceSub,Int.reduceToNat,Int.reduceLE,Int.reduceLT]
    exact ⟨_, Frz.ins, rfl⟩
  · simp only [go_sem,Nat.reduceEqDiff,Nat.reduceAdd,Nat.reduceMul,↓reduceIte,↓dreduceIte,reduceCtorEq,Nat.reduceLeDiff,Nat.reduceLT,Nat.reduceSub,Int.reduceToNat,Int.reduceLE,Int.reduceLT]
    exact ⟨_, Frz.ins, rfl⟩

theorem refdecode_c (w : Int) (hw : In32 w) : Contract Try.prog 22 [U32 w] (fun r => r = decA w) := by
  refine Contract.of_call (VCall.of_body hmix f_scref07_Decode (by simp) ?_)
  obtain ⟨h0, h1⟩ := hw
  have q : ∀ k : Int, 1 ≤ k → IntKind.u32.wrap (w.tdiv k) = w / k := fun k hk => by
    rw [Int.tdiv_eq_ediv_of_nonneg h0]
    refine w32_in ⟨Int.ediv_nonneg h0 (by omega), ?_⟩
    have := Int.ediv_le_self k h0
    omega
  have q24 := q 16777216 (by omega)
  have q20 := q 1048576 (by omega)
  have q16 := q 65536 (by omega)
  have r20 : (w / 1048576).tmod 16 = w / 1048576 % 16 := Int.tmod_eq_emod_of_nonneg (by omega)
  have r16 : (w / 65536).tmod 16 = w / 65536 % 16 := Int.tmod_eq_emod_of_nonneg (by omega)
  have r0 : w.tmod 65536 = w % 65536 := Int.tmod_eq_emod_of_nonneg h0
  have e1 : IntKind.i64.wrap (w / 16777216) = opW w := i64_in (by omega) (by omega)
  have e2 : IntKind.i64.wrap (w / 1048576 % 16) = raW w := i64_in (by omega) (by omega)
  have e3 : IntKind.i64.wrap (w / 65536 % 16) = rbW w := i64_in (by omega) (by omega)
  have e4 : IntKind.i64.wrap (w % 65536) = kW w := i64_in (by omega) (by omega)
  simp only [go_sem,Nat.reduceEqDiff,Nat.reduceAdd,Nat.reduceMul,↓reduceIte,↓dreduceIte,reduceCtorEq,Nat.reduceLeDiff,Nat.reduceLT,Nat.reduceSub,Int.reduceToNat,Int.reduceLE,Int.reduceLT, c_scref07_Decode, q24, q20, q16, r20, r16, r0, e1, e2, e3, e4, Int.reduceEq]
  refine VCall.of_contract (refright_c _ _ _ _) (SleL.pure rfl) fun x hx => ?_
  subst hx
  unfold decA okW
  cases h : okI (opW w) (raW w) (rbW w) (kW w)
  · simp only [go_sem,Nat.reduceEqDiff,Nat.reduceAdd,Nat.reduceMul,↓reduceIte,↓dreduceIte,reduceCtorEq,Nat.reduceLeDiff,Nat.reduceLT,Nat.reduceSub,Int.reduceToNat,Int.reduceLE,Int.reduceLT]
    exact ⟨_, Frz.ins, rfl⟩
  · simp only [go_sem,Nat.reduceEqDiff,Nat.reduceAdd,Nat.reduceMul,↓reduceIte,↓dreduceIte,reduceCtorEq,Nat.reduceLeDiff,Nat.reduceLT,Nat.reduceSub,Int.reduceToNat,Int.reduceLE,Int.reduceLT]
    exact ⟨_, Frz.ins, rfl⟩

theorem winB_in {v most : Int} {named : Bool} (h : winB v most named = true) (hm : 0 ≤ most) : 0 ≤ v ∧ v ≤ most := by
  unfold winB at h
  split at h
  · simp at h; exact h
  · simp at h; omega

/-- What may be has all fields in their bounds. -/
theorem okI_in {op a b c : Int} (h : okI op a b c = true) : 1 ≤ op ∧ op ≤ 27 ∧ 0 ≤ a ∧ a ≤ 15 ∧ 0 ≤ b ∧ b ≤ 15 ∧ 0 ≤ c ∧ c ≤ 65535 ∧ (cK op = 2 → c ≤ 15) := by
  unfold okI at h
  simp only [Bool.and_eq_true] at h
  obtain ⟨⟨⟨h1, h2⟩, h3⟩, h4⟩ := h
  have h2 := winB_in h2 (by omega)
  have h3 := winB_in h3 (by omega)
  have h5 := winB_in h4 (by split <;> omega)
  simp [vOp] at h1
  split at h5 <;> omega

theorem encode_c (op a b c : Int) (h : okI op a b c = true) : Contract Try.prog 27 [insA op a b c] (fun r => r = tup2 (op * 16777216 + a * 1048576 + b * 65536 + c, 0)) := by
  refine Contract.of_call (VCall.of_body hmix f_scref07_Encode (by simp) ?_)
  have hb := okI_in h
  have e1 : IntKind.i64.wrap (op * 16777216) = op * 16777216 := i64_in (by omega) (by omega)
  have e2 : IntKind.i64.wrap (a * 1048576) = a * 1048576 := i64_in (by omega) (by omega)
  have e3 : IntKind.i64.wrap (b * 65536) = b * 65536 := i64_in (by omega) (by omega)
  have e4 : IntKind.i64.wrap (op * 16777216 + a * 1048576) = op * 16777216 + a * 1048576 := i64_in (by omega) (by omega)
  have e5 : IntKind.i64.wrap (op * 16777216 + a * 1048576 + b * 65536) = op * 16777216 + a * 1048576 + b * 65536 := i64_in (by omega) (by omega)
  have e6 : IntKind.i64.wrap (op * 16777216 + a * 1048576 + b * 65536 + c) = op * 16777216 + a * 1048576 + b * 65536 + c := i64_in (by omega) (by omega)
  have e7 : IntKind.u32.wrap (op * 16777216 + a * 1048576 + b * 65536 + c) = op * 16777216 + a * 1048576 + b * 65536 + c := w32_in ⟨by omega, by omega⟩
  simp only [go_sem,Nat.reduceEqDiff,Nat.reduceAdd,Nat.reduceMul,↓reduceIte,↓dreduceIte,reduceCtorEq,Nat.reduceLeDiff,Nat.reduceLT,Nat.reduceSub,Int.reduceToNat,Int.reduceLE,Int.reduceLT, c_scref07_Encode]
  refine VCall.of_contract (refright_c _ _ _ _) (SleL.pure rfl) fun x hx => ?_
  subst hx
  simp only [go_sem,Nat.reduceEqDiff,Nat.reduceAdd,Nat.reduceMul,↓reduceIte,↓dreduceIte,reduceCtorEq,Nat.reduceLeDiff,Nat.reduceLT,Nat.reduceSub,Int.reduceToNat,Int.reduceLE,Int.reduceLT, h, e1, e2, e3, e4, e5, e6, e7]
  exact ⟨_, Frz.pure rfl, rfl⟩
end Go.Proofs.Ytjoldjcfabbekaa
