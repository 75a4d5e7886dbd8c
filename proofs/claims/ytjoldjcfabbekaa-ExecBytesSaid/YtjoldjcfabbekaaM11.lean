/-
  The machine's runner: contracts, part 3: one instruction. No condition.
-/
import Derived.Test.YtjoldjcfabbekaaM10
namespace Go.Proofs.Ytjoldjcfabbekaa
set_option linter.unusedSimpArgs false
set_option linter.unusedVariables false
set_option maxRecDepth 10000
open Go.V

theorem MemAt.put {L T : List VObj} {m : AV} {own : Bool} {mem : List Int} (h : MemAt L T m own mem) {k sm s' : Nat} {cs cs' : List AV} (hk : T[k]? = some ⟨sm, 5, 1, cs⟩) (R : List VObj) : MemAt L ((T ++ R).set k ⟨s', 5, 1, cs'⟩) m own mem := by
  rcases h with h | ⟨h1, j, s2, h2, h3⟩
  · exact .inl h
  · refine .inr ⟨h1, j, s2, h2, ?_⟩
    have hne : k ≠ j := fun e => by
      subst e; rw [hk] at h3
      simp only [Option.some.injEq, VObj.mk.injEq] at h3
      exact absurd h3.2.1 (by decide)
    rw [List.getElem?_set, if_neg hne, List.getElem?_append_left (List.getElem?_eq_some_iff.1 h3).1]; exact h3

theorem MoreAt.size {L T : List VObj} {m : AV} {bs : List UInt8} (h : MoreAt L T m bs) : (m = nilv ∧ bs = []) ∨ ∃ k sm, m = .ref (L.length + (k + 1)) sm 0 bs.length ∧ T[k]? = some ⟨sm, 5, 1, bs.map U8⟩ := h

theorem lui_eq {r c : Int} (hr : In32 r) (hc1 : 0 ≤ c) (hc2 : c ≤ 65535) : IntKind.u32.wrap (((BitVec.ofInt IntKind.u32.bits (IntKind.u32.wrap (((BitVec.ofInt IntKind.u32.bits r &&& BitVec.ofInt IntKind.u32.bits 65535).toNat : Nat) : Int)) ||| BitVec.ofInt IntKind.u32.bits (IntKind.u32.wrap (c * 2 ^ (min 16 IntKind.u32.bits)))).toNat : Nat) : Int) = r % 65536 + c * 65536 := by
  have h1 : IntKind.u32.wrap (((BitVec.ofInt IntKind.u32.bits r &&& BitVec.ofInt IntKind.u32.bits 65535).toNat : Nat) : Int) = r % 65536 := andW_mask hr 16 (by omega)
  have h2 : IntKind.u32.wrap (c * 2 ^ (min 16 IntKind.u32.bits)) = c * 65536 := by
    show IntKind.u32.wrap (c * 65536) = _
    exact w32_in ⟨by omega, by omega⟩
  rw [h1, h2]
  have h3 := orW_eq (a := r % 65536) (b := c * 65536) ⟨by omega, by omega⟩ ⟨by omega, by omega⟩
  unfold orW at h3
  rw [w32] at h3
  rw [h3]
  have h4 := Nat.two_pow_add_eq_or_of_lt (i := 16) (b := (r % 65536).toNat) (by omega) c.toNat
  rw [Nat.or_comm, show (c * 65536).toNat = 2 ^ 16 * c.toNat by omega, ← h4]
  omega

theorem byteOf_eq (r : Int) : ((byteOf r).toNat : Int) = IntKind.u8.wrap r := by
  unfold byteOf
  rw [IntKind.wrap_u8]
  simp only [UInt8.toNat_ofNat']
  omega

theorem insF_jump {code : List Int} {inp : ByteArray} {pc : Int} {f : Nat → Int} {mem : List Int} {rd : Int} {out outT : ByteArray} {st fin op a b c : Int} (ho : op = 18 ∨ op = 19 ∨ op = 20 ∨ op = 21 ∨ op = 22) :
    insF code inp ⟨pc, f, mem, rd, outT, st, fin⟩ op a b c = (0, ⟨(insF code inp ⟨pc, f, [], rd, out, st, fin⟩ op a b c).2.pc, (insF code inp ⟨pc, f, [], rd, out, st, fin⟩ op a b c).2.reg, mem, rd, outT, st, fin⟩) := by
  rcases ho with rfl | rfl | rfl | rfl | rfl <;> rfl

theorem insF_move {code : List Int} {inp : ByteArray} {s : S} {op a b c : Int} (ho : op = 16 ∨ op = 17 ∨ op = 27) :
    ((insF code inp s op a b c).1 = 0 ∧ (insF code inp s op a b c).2.pc = nxt s ∧ (insF code inp s op a b c).2.rd = s.rd ∧ (insF code inp s op a b c).2.out = s.out) ∨ insF code inp s op a b c = (8, s) := by
  rcases ho with rfl | rfl | rfl
  · have e : insF code inp s 16 a b c = if atW s b c < s.mem.length then (0, setR s a (s.mem.getD (atW s b c).toNat default)) else (8, s) := rfl
    rw [e]; by_cases h : atW s b c < s.mem.length
    · rw [if_pos h]; exact .inl ⟨rfl, rfl, rfl, rfl⟩
    · rw [if_neg h]; exact .inr rfl
  · have e : insF code inp s 17 a b c = if atW s b c < s.mem.length then (0, { s with mem := s.mem.set (atW s b c).toNat (s.reg a.toNat), pc := nxt s }) else (8, s) := rfl
    rw [e]; by_cases h : atW s b c < s.mem.length
    · rw [if_pos h]; exact .inl ⟨rfl, rfl, rfl, rfl⟩
    · rw [if_neg h]; exact .inr rfl
  · have e : insF code inp s 27 a b c = if atW s b c < code.length then (0, setR s a (code.getD (atW s b c).toNat default)) else (8, s) := rfl
    rw [e]; by_cases h : atW s b c < code.length
    · rw [if_pos h]; exact .inl ⟨rfl, rfl, rfl, rfl⟩
    · rw [if_neg h]; exact .inr rfl

section
variable (code : List Int) (inp : ByteArray) (pc : Int) (f : Nat → Int) (m : AV) (mem : List Int) (rd : Int) (out outT : ByteArray) (st fin : Int) (own : Bool) (more : AV) (bs : List UInt8) (L T : List VObj) (s nx : Nat)

theorem do_v (op a b c : Int) (ho : okI op a b c = true) (hf : ∀ k, In32 (f k)) (hi : inp.size ≤ 1000000000) (hm : MemAt L T m own mem) (hl : mem.length ≤ 1000000) (hmo : MoreAt L T more bs) (hout : outT.data.toList = out.data.toList ++ bs) (hol : outT.size ≤ 1000000) (C : AV → List VObj → Nat → Prop)
    (hC : ∀ T' m' own' more' bs' nx', MemAt L T' m' own' (insF code inp ⟨pc, f, mem, rd, outT, st, fin⟩ op a b c).2.mem → MoreAt L T' more' bs' → (insF code inp ⟨pc, f, mem, rd, outT, st, fin⟩ op a b c).2.out.data.toList = out.data.toList ++ bs' → Keep T T' →
      C (I (insF code inp ⟨pc, f, mem, rd, outT, st, fin⟩ op a b c).1) (L ++ rob s (rnc (words code) inp (insF code inp ⟨pc, f, mem, rd, outT, st, fin⟩ op a b c).2.pc (insF code inp ⟨pc, f, mem, rd, outT, st, fin⟩ op a b c).2.reg m' (insF code inp ⟨pc, f, mem, rd, outT, st, fin⟩ op a b c).2.rd out st fin own' more') :: T') nx') :
    VCall Try.prog 48 [.ptr L.length s 0, insA op a b c] (L ++ rob s (rnc (words code) inp pc f m rd out st fin own more) :: T) nx C := by
  refine VCall.of_body hmix f_machine_Runner_do (by simp) ?_
  obtain ⟨hv1, hv2, ha1, ha2, hb1, hb2, hc1, hc2, hcr⟩ := okI_in ho
  have hj : a.toNat < 16 := by omega
  have hk : b.toNat < 16 := by omega
  have e1 : IntKind.u32.wrap c = c := w32_in ⟨by omega, by omega⟩
  have hop : (op = 18 ∨ op = 19 ∨ op = 20 ∨ op = 21 ∨ op = 22) ∨ op = 1 ∨ op = 2 ∨ op = 3 ∨ (op = 16 ∨ op = 17 ∨ op = 27) ∨ op = 23 ∨ op = 24 ∨ op = 25 ∨ op = 26 ∨ (4 ≤ op ∧ op ≤ 15) := by omega
  rcases hop with hop | rfl | rfl | rfl | hop | rfl | rfl | rfl | rfl | hop
  · -- jumps
    have hins := insF_jump (code := code) (inp := inp) (pc := pc) (f := f) (mem := mem) (rd := rd) (out := out) (outT := outT) (st := st) (fin := fin) (a := a) (b := b) (c := c) hop
    rw [hins] at hC
    have hst : ((op == 18) || (op == 19) || (op == 20) || (op == 21) || (op == 22)) = true := by simp; omega
    rcases hop with rfl | rfl | rfl | rfl | rfl
    all_goals
      simp only [go_sem,Nat.reduceEqDiff,Nat.reduceAdd,Nat.reduceMul,↓reduceIte,↓dreduceIte,reduceCtorEq,Nat.reduceLeDiff,Nat.reduceLT,Nat.reduceSub,Int.reduceToNat,Int.reduceLE,Int.reduceLT, c_machine_Runner_do, olen, oadd, og0, os0, ogk, osk, ogn, osn, onx, rnc_length, r_pc, r_code, r_own, r_out, r_more, r_reg hj, r_reg hk, r_mem, cellT_U32, rs_pc, rs_reg hj, rs_mem, rs_own, rs_more, one_imm, one_ref, Int.reduceEq, Int.reduceBEq, e1]
      refine jump_v code inp pc f m rd out st fin own more L _ s _ _ a b c (by simp) ⟨ha1, ha2⟩ hf _ fun r T' nx' => ?_
      simp only [go_sem,Nat.reduceEqDiff,Nat.reduceAdd,Nat.reduceMul,↓reduceIte,↓dreduceIte,reduceCtorEq,Nat.reduceLeDiff,Nat.reduceLT,Nat.reduceSub,Int.reduceToNat,Int.reduceLE,Int.reduceLT, olen, oadd, og0, os0, ogk, osk, ogn, osn, onx, rnc_length, r_pc, r_code, r_own, r_out, r_more, r_reg hj, r_reg hk, r_mem, cellT_U32, rs_pc, rs_reg hj, rs_mem, rs_own, rs_more, one_imm, one_ref, Int.reduceEq, Int.reduceBEq, e1]
      refine hC _ _ _ _ _ _ ?_ ?_ hout ?_
      · rw [List.append_assoc]; exact hm.add _
      · rw [List.append_assoc]; exact hmo.add _
      · rw [List.append_assoc]; exact Keep.add _
  · -- li
    simp only [go_sem,Nat.reduceEqDiff,Nat.reduceAdd,Nat.reduceMul,↓reduceIte,↓dreduceIte,reduceCtorEq,Nat.reduceLeDiff,Nat.reduceLT,Nat.reduceSub,Int.reduceToNat,Int.reduceLE,Int.reduceLT, c_machine_Runner_do, olen, oadd, og0, os0, ogk, osk, ogn, osn, onx, rnc_length, r_pc, r_code, r_own, r_out, r_more, r_reg hj, r_reg hk, r_mem, cellT_U32, rs_pc, rs_reg hj, rs_mem, rs_own, rs_more, one_imm, one_ref, Int.reduceEq, Int.reduceBEq, e1]
    repeat (refine And.intro (by omega) ?_)
    exact hC _ _ _ _ _ _ (hm.add _) (hmo.add _) hout (Keep.add _)
  · -- lui
    have hlui := lui_eq (hf a.toNat) hc1 hc2
    simp only [↓VW_skip,↓VW_ops,↓VW_par,↓VW_park,↓VW_seq,↓VW_block,↓VW_exit,↓VW_ret,↓VW_cond,↓litE_tmp,↓litE_const,↓seq_normal,↓seq_exit,↓seq_ret,↓blk_normal,↓blk_exit,↓blk_ret,↓get_nil,↓get_cons,↓put_some,↓put_none,↓put_some',↓put_none',↓VTrL_done,↓VTrL_one,↓VTrL_if,↓VTrL_both,↓wpD_eq,↓wpE_call,↓wpE_callA,↓wpE_mv,↓wpE_pick,↓wpE_ld,↓wpE_sto,↓wpE_idx,↓wpE_aidx,↓wpE_fad,↓wpE_fld,↓wpE_len,↓wpE_lens,↓wpE_bin,↓wpE_beq,↓wpE_un,↓wpE_conv,↓wpE_sl,↓wpE_sls,↓wpE_mk,↓wpE_app,↓wpE_bsl,↓wpE_bld,↓wpE_box,↓wpE_alc,↓wpE_mkf,↓wpE_nck,↓wpE_ext,↓wpE_pur,↓wpE_see,↓wpE_eff,↓wpE_ycal,undef,K.xtra,argEnv,↓retQ,↓retW,↓VR.wp,↓VRs,binOK,binR,unOK,unR,ldOK,stoOK,putA,partA,partOK,fillA,fillOK,partsOf,evs,boundOf,AV.cells,AV.one,AV.laid,Value.oneCell',Nat.reduceEqDiff,Nat.reduceAdd,Nat.reduceMul,↓reduceIte,↓dreduceIte,true_and,and_true,List.cons_append,List.nil_append,List.length_map,List.length_cons,List.length_nil,List.getElem?_cons_zero,List.getElem?_cons_succ,List.map_cons,List.map_nil,Bool.not_true,Bool.not_false,forall_const,reduceCtorEq,false_implies,List.all_cons,List.all_nil,Bool.and_true,Bool.and_self,↓idxT_map,↓idxT_cons,↓cellT_I,↓cellT_B,↓cellT_map,↓cellT_cons,decide_eq_true_eq,decide_eq_false_iff_not,Int.toNat_natCast,bne_iff_ne,ne_eq,Bool.not_eq_true',Bool.not_eq_false',bne_eq_false_iff_eq,beq_iff_eq,beq_eq_false_iff_ne,implies_true,List.getD_cons_zero,List.getD_cons_succ,Bool.false_eq_true,false_or,or_false,true_or,or_true,Int.natCast_nonneg,Int.toNat_zero,Int.toNat_one,List.set_cons_zero,List.set_cons_succ,List.take_zero,List.take_succ_cons,List.take_nil,List.drop_zero,List.drop_succ_cons,List.drop_nil,List.append_nil,Nat.zero_add,Nat.add_zero,Nat.mul_one,Nat.zero_mul,↓wp_mv,↓wp_pick,↓wp_ld,↓wp_sto,↓wp_idx,↓wp_aidx,↓wp_fad,↓wp_fld,↓wp_len,↓wp_lens,↓wp_bin,↓wp_beq,↓wp_un,↓wp_conv,↓wp_sl,↓wp_sls,↓wp_mk,↓wp_app,↓wp_bsl,↓wp_bld,↓wp_box,↓wp_alc,↓wp_mkf,↓wp_nck,↓wp_ext,↓wp_call,↓wp_callA,↓VOps_nil,↓VOps_go,↓VOps_if,↓evF_tmp,↓evF_const,↓evF_func,cv_int,cv_bool,cv_slice,cv_string,cv,Nat.reduceLeDiff,Nat.reduceLT,Nat.le_refl,Nat.reduceSub,Int.reduceToNat,Int.reduceLE,Int.reduceLT,not_true_eq_false,not_false_eq_true,decide_true,decide_false,Bool.true_eq_false,↓imp_tt,↓imp_ft,↓imp_tf,↓imp_ff,↓imp_tnt,↓imp_fnt,↓imp_tnf,↓imp_fnf,addedOK,addedN,addedCells,oldA,Old,oldL,↓VW_range,↓wp_ycal,↓wp_six,↓wp_ixv,↓wp_eqv,↓wp_mx,↓wp_mn,↓wp_nilq,↓wp_nils,↓wp_b2s,↓wp_look,↓wp_mlen,↓wp_cpy,↓wp_clr,↓wp_s2b,↓wp_mkm,↓wp_upd,↓eqT_nil,↓eqT_int,↓eqT_bool,↓eqT_str,↓b2sT_U8,↓b2sT_nil,↓lookT_nil,↓lookT_cons,cv_agg,cv_nilFunc,mapOK_nil,mapOK_cons,updA_nil,iteP,Bool.not_eq_true,Bool.not_eq_false,Classical.not_not, c_machine_Runner_do, olen, oadd, og0, os0, ogk, osk, ogn, osn, onx, rnc_length, r_pc, r_code, r_own, r_out, r_more, r_reg hj, r_reg hk, r_mem, cellT_U32, rs_pc, rs_reg hj, rs_mem, rs_own, rs_more, one_imm, one_ref, Int.reduceEq, Int.reduceBEq, e1, hlui]
    repeat (refine And.intro (by omega) ?_)
    exact hC _ _ _ _ _ _ (hm.add _) (hmo.add _) hout (Keep.add _)
  · -- mov
    simp only [go_sem,Nat.reduceEqDiff,Nat.reduceAdd,Nat.reduceMul,↓reduceIte,↓dreduceIte,reduceCtorEq,Nat.reduceLeDiff,Nat.reduceLT,Nat.reduceSub,Int.reduceToNat,Int.reduceLE,Int.reduceLT, c_machine_Runner_do, olen, oadd, og0, os0, ogk, osk, ogn, osn, onx, rnc_length, r_pc, r_code, r_own, r_out, r_more, r_reg hj, r_reg hk, r_mem, cellT_U32, rs_pc, rs_reg hj, rs_mem, rs_own, rs_more, one_imm, one_ref, Int.reduceEq, Int.reduceBEq, e1]
    repeat (refine And.intro (by omega) ?_)
    exact hC _ _ _ _ _ _ (hm.add _) (hmo.add _) hout (Keep.add _)
  · -- move
    have hst := insF_move (code := code) (inp := inp) (s := ⟨pc, f, mem, rd, outT, st, fin⟩) (a := a) (b := b) (c := c) hop
    have key : ∀ (C2 : AV → List VObj → Nat → Prop), (∀ T' m' own' nx', MemAt L T' m' own' (insF code inp ⟨pc, f, mem, rd, outT, st, fin⟩ op a b c).2.mem → MoreAt L T' more bs → Keep T T' →
        C2 (B (decide ((insF code inp ⟨pc, f, mem, rd, outT, st, fin⟩ op a b c).1 = 0))) (L ++ rob s (rnc (words code) inp pc (insF code inp ⟨pc, f, mem, rd, outT, st, fin⟩ op a b c).2.reg m' rd out st fin own' more) :: T') nx') →
        VCall Try.prog 57 [.ptr L.length s 0, insA op a b c] (L ++ rob s (rnc (words code) inp pc f m rd out st fin own more) :: (T ++ [⟨nx, 47, 1, [I op, I a, I b, I c]⟩])) (nx + 1) C2 := fun C2 h =>
      move_v code inp pc f m mem rd out outT st fin own more L _ s _ op a b c hop ⟨ha1, ha2⟩ ⟨hb1, hb2⟩ ⟨hc1, hc2⟩ (hm.add _) hl C2 fun T' m' own' nx' h1 h2 h3 => h T' m' own' nx' h1 (h2 _ _ (hmo.add _)) ((Keep.add _).trans h3)
    generalize insF code inp ⟨pc, f, mem, rd, outT, st, fin⟩ op a b c = p at *
    have hlit : op = 16 ∨ op = 17 ∨ op = 27 := hop
    rcases hop with rfl | rfl | rfl
    all_goals
      simp only [go_sem,Nat.reduceEqDiff,Nat.reduceAdd,Nat.reduceMul,↓reduceIte,↓dreduceIte,reduceCtorEq,Nat.reduceLeDiff,Nat.reduceLT,Nat.reduceSub,Int.reduceToNat,Int.reduceLE,Int.reduceLT, c_machine_Runner_do, olen, oadd, og0, os0, ogk, osk, ogn, osn, onx, rnc_length, r_pc, r_code, r_own, r_out, r_more, r_reg hj, r_reg hk, r_mem, cellT_U32, rs_pc, rs_reg hj, rs_mem, rs_own, rs_more, one_imm, one_ref, Int.reduceEq, Int.reduceBEq, e1]
      refine key _ fun T' m' own' nx' h1 h2 h3 => ?_
      rcases hst with ⟨q1, q2, q3, q4⟩ | q
      · rw [q1] at hC ⊢
        simp only [go_sem,Nat.reduceEqDiff,Nat.reduceAdd,Nat.reduceMul,↓reduceIte,↓dreduceIte,reduceCtorEq,Nat.reduceLeDiff,Nat.reduceLT,Nat.reduceSub,Int.reduceToNat,Int.reduceLE,Int.reduceLT, olen, oadd, og0, os0, ogk, osk, ogn, osn, onx, rnc_length, r_pc, r_code, r_own, r_out, r_more, r_reg hj, r_reg hk, r_mem, cellT_U32, rs_pc, rs_reg hj, rs_mem, rs_own, rs_more, one_imm, one_ref, Int.reduceEq, Int.reduceBEq, e1]
        repeat (refine And.intro (by omega) ?_)
        have := hC T' m' own' more bs nx' h1 h2 (by rw [q4]; exact hout) h3
        rw [q2, q3] at this
        exact this
      · subst q
        simp only [go_sem,Nat.reduceEqDiff,Nat.reduceAdd,Nat.reduceMul,↓reduceIte,↓dreduceIte,reduceCtorEq,Nat.reduceLeDiff,Nat.reduceLT,Nat.reduceSub,Int.reduceToNat,Int.reduceLE,Int.reduceLT, olen, oadd, og0, os0, ogk, osk, ogn, osn, onx, rnc_length, r_pc, r_code, r_own, r_out, r_more, r_reg hj, r_reg hk, r_mem, cellT_U32, rs_pc, rs_reg hj, rs_mem, rs_own, rs_more, one_imm, one_ref, Int.reduceEq, Int.reduceBEq, e1]
        repeat (refine And.intro (by omega) ?_)
        exact hC T' m' own' more bs nx' h1 h2 hout h3
  · -- get
    have hins : insF code inp ⟨pc, f, mem, rd, outT, st, fin⟩ 23 a b c = (0, if rd < 0 ∨ (inp.size : Int) ≤ rd then setR ⟨pc, f, mem, rd, outT, st, fin⟩ a 256 else setR ⟨pc, f, mem, IntKind.i64.wrap (rd + 1), outT, st, fin⟩ a (byteAt inp rd.toNat)) := rfl
    rw [hins] at hC
    simp only [go_sem,Nat.reduceEqDiff,Nat.reduceAdd,Nat.reduceMul,↓reduceIte,↓dreduceIte,reduceCtorEq,Nat.reduceLeDiff,Nat.reduceLT,Nat.reduceSub,Int.reduceToNat,Int.reduceLE,Int.reduceLT, c_machine_Runner_do, olen, oadd, og0, os0, ogk, osk, ogn, osn, onx, rnc_length, r_pc, r_code, r_own, r_out, r_more, r_reg hj, r_reg hk, r_mem, cellT_U32, rs_pc, rs_reg hj, rs_mem, rs_own, rs_more, one_imm, one_ref, Int.reduceEq, Int.reduceBEq, e1]
    repeat (refine And.intro (by omega) ?_)
    refine get_v code inp pc f m rd out st fin own more L _ s _ a ⟨ha1, ha2⟩ hi _ fun r => ?_
    simp only [go_sem,Nat.reduceEqDiff,Nat.reduceAdd,Nat.reduceMul,↓reduceIte,↓dreduceIte,reduceCtorEq,Nat.reduceLeDiff,Nat.reduceLT,Nat.reduceSub,Int.reduceToNat,Int.reduceLE,Int.reduceLT, olen, oadd, og0, os0, ogk, osk, ogn, osn, onx, rnc_length, r_pc, r_code, r_own, r_out, r_more, r_reg hj, r_reg hk, r_mem, cellT_U32, rs_pc, rs_reg hj, rs_mem, rs_own, rs_more, one_imm, one_ref, Int.reduceEq, Int.reduceBEq, e1]
    repeat (refine And.intro (by omega) ?_)
    by_cases h : rd < 0 ∨ (inp.size : Int) ≤ rd
    · simp only [if_pos h] at hC ⊢
      exact hC _ _ _ _ _ _ (hm.add _) (hmo.add _) hout (Keep.add _)
    · simp only [if_neg h] at hC ⊢
      exact hC _ _ _ _ _ _ (hm.add _) (hmo.add _) hout (Keep.add _)
  · -- put
    have hins : insF code inp ⟨pc, f, mem, rd, outT, st, fin⟩ 24 a b c = if 65536 ≤ outT.size then (4, ⟨pc, f, mem, rd, outT, st, fin⟩) else (0, ⟨nxt ⟨pc, f, mem, rd, outT, st, fin⟩, f, mem, rd, outT.push (byteOf (f a.toNat)), st, fin⟩) := rfl
    rw [hins] at hC
    have hsz : outT.size = out.size + bs.length := by
      have := congrArg List.length hout
      simp only [List.length_append, Array.length_toList] at this
      exact this
    have hpush : (outT.push (byteOf (f a.toNat))).data.toList = out.data.toList ++ (bs ++ [byteOf (f a.toNat)]) := by
      rw [← List.append_assoc, ← hout]; simp [ByteArray.push]
    have hU8 : (AV.val (.int .u8 (IntKind.u8.wrap (f a.toNat)))) = U8 (byteOf (f a.toNat)) := by
      rw [← byteOf_eq]
    have hw : IntKind.i64.wrap ((out.size : Int) + (bs.length : Int)) = (outT.size : Int) := by rw [i64_in (by omega) (by omega)]; omega
    have hmx : (2000000 : Nat) ≤ maxLen := by decide
    rcases hmo with ⟨rfl, rfl⟩ | ⟨k, sm, rfl, hT⟩
    · simp only [List.length_nil] at hw hsz
      have hw0 : IntKind.i64.wrap ((out.size : Int) + 0) = (outT.size : Int) := hw
      by_cases h : 65536 ≤ outT.size
      · rw [if_pos h] at hC
        simp only [go_sem,Nat.reduceEqDiff,Nat.reduceAdd,Nat.reduceMul,↓reduceIte,↓dreduceIte,reduceCtorEq,Nat.reduceLeDiff,Nat.reduceLT,Nat.reduceSub,Int.reduceToNat,Int.reduceLE,Int.reduceLT, c_machine_Runner_do, olen, oadd, og0, os0, ogk, osk, ogn, osn, onx, rnc_length, r_pc, r_code, r_own, r_out, r_more, r_reg hj, r_reg hk, r_mem, cellT_U32, rs_pc, rs_reg hj, rs_mem, rs_own, rs_more, one_imm, one_ref, Int.reduceEq, Int.reduceBEq, e1, hw0, eq_true (show (65536 : Int) ≤ (outT.size : Int) by omega)]
        repeat (refine And.intro (by omega) ?_)
        exact hC _ _ _ _ _ _ (hm.add _) (.inl ⟨rfl, rfl⟩) hout (Keep.add _)
      · rw [if_neg h] at hC
        simp only [go_sem,Nat.reduceEqDiff,Nat.reduceAdd,Nat.reduceMul,↓reduceIte,↓dreduceIte,reduceCtorEq,Nat.reduceLeDiff,Nat.reduceLT,Nat.reduceSub,Int.reduceToNat,Int.reduceLE,Int.reduceLT, c_machine_Runner_do, olen, oadd, og0, os0, ogk, osk, ogn, osn, onx, rnc_length, r_pc, r_code, r_own, r_out, r_more, r_reg hj, r_reg hk, r_mem, cellT_U32, rs_pc, rs_reg hj, rs_mem, rs_own, rs_more, one_imm, one_ref, Int.reduceEq, Int.reduceBEq, e1, hw0, eq_false (show ¬ (65536 : Int) ≤ (outT.size : Int) by omega)]
        repeat (refine And.intro (by omega) ?_)
        rw [hU8]
        refine hC _ _ _ _ _ _ (hm.add _) (.inr ⟨T.length + 2, nx + 1 + 1, rfl, ?_⟩) hpush (Keep.add _)
        rw [List.getElem?_append_right (by omega)]; simp
    · have hT2 : ∀ R, (T ++ R)[k]? = some ⟨sm, 5, 1, bs.map U8⟩ := fun R => by rw [List.getElem?_append_left (List.getElem?_eq_some_iff.1 hT).1]; exact hT
      by_cases h : 65536 ≤ outT.size
      · rw [if_pos h] at hC
        simp only [go_sem,Nat.reduceEqDiff,Nat.reduceAdd,Nat.reduceMul,↓reduceIte,↓dreduceIte,reduceCtorEq,Nat.reduceLeDiff,Nat.reduceLT,Nat.reduceSub,Int.reduceToNat,Int.reduceLE,Int.reduceLT, c_machine_Runner_do, olen, oadd, og0, os0, ogk, osk, ogn, osn, onx, rnc_length, r_pc, r_code, r_own, r_out, r_more, r_reg hj, r_reg hk, r_mem, cellT_U32, rs_pc, rs_reg hj, rs_mem, rs_own, rs_more, one_imm, one_ref, Int.reduceEq, Int.reduceBEq, e1, hT2, hw, eq_true (show (65536 : Int) ≤ (outT.size : Int) by omega)]
        repeat (refine And.intro (by omega) ?_)
        exact hC _ _ _ _ _ _ (hm.add _) (.inr ⟨k, sm, rfl, hT2 _⟩) hout (Keep.add _)
      · rw [if_neg h] at hC
        simp only [go_sem,Nat.reduceEqDiff,Nat.reduceAdd,Nat.reduceMul,↓reduceIte,↓dreduceIte,reduceCtorEq,Nat.reduceLeDiff,Nat.reduceLT,Nat.reduceSub,Int.reduceToNat,Int.reduceLE,Int.reduceLT, c_machine_Runner_do, olen, oadd, og0, os0, ogk, osk, ogn, osn, onx, rnc_length, r_pc, r_code, r_own, r_out, r_more, r_reg hj, r_reg hk, r_mem, cellT_U32, rs_pc, rs_reg hj, rs_mem, rs_own, rs_more, one_imm, one_ref, Int.reduceEq, Int.reduceBEq, e1, hT2, hw, eq_false (show ¬ (65536 : Int) ≤ (outT.size : Int) by omega)]
        repeat (refine And.intro (by omega) ?_)
        rw [hU8]
        have hkl := (List.getElem?_eq_some_iff.1 hT).1
        refine hC _ _ _ _ _ _ (hm.put hT _) (.inr ⟨k, nx + 1 + 1, by simp, ?_⟩) hpush (Keep.put hT (by show (1 : Nat) ≠ 0; omega) (.inr rfl) _)
        rw [List.getElem?_set, if_pos rfl, if_pos (by simp; omega), List.take_of_length_le (by simp)]
        simp
  · -- chk
    have hins : insF code inp ⟨pc, f, mem, rd, outT, st, fin⟩ 25 a b c = if f a.toNat < c then (0, ⟨nxt ⟨pc, f, mem, rd, outT, st, fin⟩, f, mem, rd, outT, st, fin⟩) else (3, ⟨pc, f, mem, rd, outT, st, fin⟩) := rfl
    rw [hins] at hC
    by_cases h : c ≤ f a.toNat
    · rw [if_neg (by omega)] at hC
      simp only [go_sem,Nat.reduceEqDiff,Nat.reduceAdd,Nat.reduceMul,↓reduceIte,↓dreduceIte,reduceCtorEq,Nat.reduceLeDiff,Nat.reduceLT,Nat.reduceSub,Int.reduceToNat,Int.reduceLE,Int.reduceLT, c_machine_Runner_do, olen, oadd, og0, os0, ogk, osk, ogn, osn, onx, rnc_length, r_pc, r_code, r_own, r_out, r_more, r_reg hj, r_reg hk, r_mem, cellT_U32, rs_pc, rs_reg hj, rs_mem, rs_own, rs_more, one_imm, one_ref, Int.reduceEq, Int.reduceBEq, e1, eq_true h]
      repeat (refine And.intro (by omega) ?_)
      exact hC _ _ _ _ _ _ (hm.add _) (hmo.add _) hout (Keep.add _)
    · rw [if_pos (by omega)] at hC
      simp only [go_sem,Nat.reduceEqDiff,Nat.reduceAdd,Nat.reduceMul,↓reduceIte,↓dreduceIte,reduceCtorEq,Nat.reduceLeDiff,Nat.reduceLT,Nat.reduceSub,Int.reduceToNat,Int.reduceLE,Int.reduceLT, c_machine_Runner_do, olen, oadd, og0, os0, ogk, osk, ogn, osn, onx, rnc_length, r_pc, r_code, r_own, r_out, r_more, r_reg hj, r_reg hk, r_mem, cellT_U32, rs_pc, rs_reg hj, rs_mem, rs_own, rs_more, one_imm, one_ref, Int.reduceEq, Int.reduceBEq, e1, eq_false h]
      repeat (refine And.intro (by omega) ?_)
      exact hC _ _ _ _ _ _ (hm.add _) (hmo.add _) hout (Keep.add _)
  · -- halt
    simp only [go_sem,Nat.reduceEqDiff,Nat.reduceAdd,Nat.reduceMul,↓reduceIte,↓dreduceIte,reduceCtorEq,Nat.reduceLeDiff,Nat.reduceLT,Nat.reduceSub,Int.reduceToNat,Int.reduceLE,Int.reduceLT, c_machine_Runner_do, olen, oadd, og0, os0, ogk, osk, ogn, osn, onx, rnc_length, r_pc, r_code, r_own, r_out, r_more, r_reg hj, r_reg hk, r_mem, cellT_U32, rs_pc, rs_reg hj, rs_mem, rs_own, rs_more, one_imm, one_ref, Int.reduceEq, Int.reduceBEq, e1]
    repeat (refine And.intro (by omega) ?_)
    exact hC _ _ _ _ _ _ (hm.add _) (hmo.add _) hout (Keep.add _)
  · -- two words
    have hcl : c.toNat < 16 := by
      have : cK op = 2 := by unfold cK; rw [if_pos hop]
      have := hcr this; omega
    have n : ∀ k : Int, k < 4 ∨ 15 < k → (op = k) = False := fun k h => eq_false (by omega)
    have hins : insF code inp ⟨pc, f, mem, rd, outT, st, fin⟩ op a b c = if (applyW op (f b.toNat) (f c.toNat)).2 = 0 then (0, setR ⟨pc, f, mem, rd, outT, st, fin⟩ a (applyW op (f b.toNat) (f c.toNat)).1) else (2, ⟨pc, f, mem, rd, outT, st, fin⟩) := by
      unfold insF
      simp only [n 18 (by omega), n 19 (by omega), n 20 (by omega), n 21 (by omega), n 22 (by omega), n 1 (by omega), n 2 (by omega), n 3 (by omega), n 16 (by omega), n 17 (by omega), n 27 (by omega), n 23 (by omega), n 24 (by omega), n 25 (by omega), n 26 (by omega), if_false]
    rw [hins] at hC
    simp only [go_sem,Nat.reduceEqDiff,Nat.reduceAdd,Nat.reduceMul,↓reduceIte,↓dreduceIte,reduceCtorEq,Nat.reduceLeDiff,Nat.reduceLT,Nat.reduceSub,Int.reduceToNat,Int.reduceLE,Int.reduceLT, c_machine_Runner_do, olen, oadd, og0, os0, ogk, osk, ogn, osn, onx, rnc_length, r_pc, r_code, r_own, r_out, r_more, r_reg hj, r_reg hk, r_mem, cellT_U32, rs_pc, rs_reg hj, rs_mem, rs_own, rs_more, one_imm, one_ref, Int.reduceEq, Int.reduceBEq, e1, r_reg hcl, n 18 (by omega), n 19 (by omega), n 20 (by omega), n 21 (by omega), n 22 (by omega), n 1 (by omega), n 2 (by omega), n 3 (by omega), n 16 (by omega), n 17 (by omega), n 27 (by omega), n 23 (by omega), n 24 (by omega), n 25 (by omega), n 26 (by omega)]
    repeat (refine And.intro (by omega) ?_)
    refine ECall.of (apply_c op (f b.toNat) (f c.toNat) (hf _).1) (SleL.pure rfl) ⟨_, fun _ => Iff.rfl⟩ fun x hx => ?_
    subst hx
    by_cases h : (applyW op (f b.toNat) (f c.toNat)).2 = 0
    · rw [if_pos h] at hC
      simp only [go_sem,Nat.reduceEqDiff,Nat.reduceAdd,Nat.reduceMul,↓reduceIte,↓dreduceIte,reduceCtorEq,Nat.reduceLeDiff,Nat.reduceLT,Nat.reduceSub,Int.reduceToNat,Int.reduceLE,Int.reduceLT, olen, oadd, og0, os0, ogk, osk, ogn, osn, onx, rnc_length, r_pc, r_code, r_own, r_out, r_more, r_reg hj, r_reg hk, r_mem, cellT_U32, rs_pc, rs_reg hj, rs_mem, rs_own, rs_more, one_imm, one_ref, Int.reduceEq, Int.reduceBEq, e1, h]
      repeat (refine And.intro (by omega) ?_)
      exact hC _ _ _ _ _ _ (hm.add _) (hmo.add _) hout (Keep.add _)
    · rw [if_neg h] at hC
      simp only [go_sem,Nat.reduceEqDiff,Nat.reduceAdd,Nat.reduceMul,↓reduceIte,↓dreduceIte,reduceCtorEq,Nat.reduceLeDiff,Nat.reduceLT,Nat.reduceSub,Int.reduceToNat,Int.reduceLE,Int.reduceLT, olen, oadd, og0, os0, ogk, osk, ogn, osn, onx, rnc_length, r_pc, r_code, r_own, r_out, r_more, r_reg hj, r_reg hk, r_mem, cellT_U32, rs_pc, rs_reg hj, rs_mem, rs_own, rs_more, one_imm, one_ref, Int.reduceEq, Int.reduceBEq, e1, eq_false h]
      repeat (refine And.intro (by first | omega | simp [h]) ?_)
      exact hC _ _ _ _ _ _ (hm.add _) (hmo.add _) hout (Keep.add _)
end
end Go.Proofs.Ytjoldjcfabbekaa
