/-
  Images as bytes: words of bytes, a list that grows, slices.Collect, the document's reading, the program's, exec.Bytes. No condition.
-/
import Derived.Test.YtjoldjcfabbekaaE4
namespace Go.Proofs.Ytjoldjcfabbekaa
set_option linter.unusedSimpArgs false
set_option linter.unusedVariables false
set_option maxRecDepth 10000
open Go.V

theorem byteAt_in (s : ByteArray) (k : Nat) : 0 ≤ byteAt s k ∧ byteAt s k ≤ 255 := by
  unfold byteAt
  have := (s.data.toList.getD k 0).toNat_lt
  omega
/-- The word whose four bytes stand from a place on, the least first. -/
def wordA (s : ByteArray) (k : Nat) : Int := byteAt s k + 256 * byteAt s (k + 1) + 65536 * byteAt s (k + 2) + 16777216 * byteAt s (k + 3)
theorem wordA_in (s : ByteArray) (k : Nat) : In32 (wordA s k) := by
  have h0 := byteAt_in s k
  have h1 := byteAt_in s (k + 1)
  have h2 := byteAt_in s (k + 2)
  have h3 := byteAt_in s (k + 3)
  unfold wordA
  constructor <;> omega
/-- The first words. -/
def wl (s : ByteArray) (n : Nat) : List Int := (List.range n).map fun i => wordA s (4 * i)
theorem wl_length (s : ByteArray) (n : Nat) : (wl s n).length = n := by simp [wl]
theorem wl_succ (s : ByteArray) (n : Nat) : wl s (n + 1) = wl s n ++ [wordA s (4 * n)] := by simp [wl, List.range_succ]

theorem word_c (s : ByteArray) (k : Nat) (hk : k + 4 ≤ s.size) (hs : s.size ≤ 1000000000) : Contract Try.prog 37 [strv s, I (k : Nat)] (fun r => r = U32 (wordA s k)) := by
  refine Contract.of_call (VCall.of_body hmix f_scref08_word (by simp) ?_)
  have w1 : IntKind.i64.wrap ((k : Int) + 1) = ((k + 1 : Nat) : Int) := by rw [i64_in (by omega) (by omega)]; omega
  have w2 : IntKind.i64.wrap ((k : Int) + 2) = ((k + 2 : Nat) : Int) := by rw [i64_in (by omega) (by omega)]; omega
  have w3 : IntKind.i64.wrap ((k : Int) + 3) = ((k + 3 : Nat) : Int) := by rw [i64_in (by omega) (by omega)]; omega
  simp only [↓VW_skip,↓VW_ops,↓VW_par,↓VW_park,↓VW_seq,↓VW_block,↓VW_exit,↓VW_ret,↓VW_cond,↓litE_tmp,↓litE_const,↓seq_normal,↓seq_exit,↓seq_ret,↓blk_normal,↓blk_exit,↓blk_ret,↓get_nil,↓get_cons,↓put_some,↓put_none,↓put_some',↓put_none',↓VTrL_done,↓VTrL_one,↓VTrL_if,↓VTrL_both,↓wpD_eq,↓wpE_call,↓wpE_callA,↓wpE_mv,↓wpE_pick,↓wpE_ld,↓wpE_sto,↓wpE_idx,↓wpE_aidx,↓wpE_fad,↓wpE_fld,↓wpE_len,↓wpE_lens,↓wpE_bin,↓wpE_beq,↓wpE_un,↓wpE_conv,↓wpE_sl,↓wpE_sls,↓wpE_mk,↓wpE_app,↓wpE_bsl,↓wpE_bld,↓wpE_box,↓wpE_alc,↓wpE_mkf,↓wpE_nck,↓wpE_ext,↓wpE_pur,↓wpE_see,↓wpE_eff,↓wpE_ycal,undef,K.xtra,argEnv,↓retQ,↓retW,↓VR.wp,↓VRs,binOK,binR,unOK,unR,ldOK,stoOK,putA,partA,partOK,fillA,fillOK,partsOf,evs,boundOf,AV.cells,AV.one,AV.laid,Value.oneCell',Nat.reduceEqDiff,Nat.reduceAdd,Nat.reduceMul,↓reduceIte,↓dreduceIte,true_and,and_true,List.cons_append,List.nil_append,List.length_map,List.length_cons,List.length_nil,List.getElem?_cons_zero,List.getElem?_cons_succ,List.map_cons,List.map_nil,Bool.not_true,Bool.not_false,forall_const,reduceCtorEq,false_implies,List.all_cons,List.all_nil,Bool.and_true,Bool.and_self,↓idxT_map,↓idxT_cons,↓cellT_I,↓cellT_B,↓cellT_map,↓cellT_cons,decide_eq_true_eq,decide_eq_false_iff_not,Int.toNat_natCast,bne_iff_ne,ne_eq,Bool.not_eq_true',Bool.not_eq_false',bne_eq_false_iff_eq,beq_iff_eq,beq_eq_false_iff_ne,implies_true,List.getD_cons_zero,List.getD_cons_succ,Bool.false_eq_true,false_or,or_false,true_or,or_true,Int.natCast_nonneg,Int.toNat_zero,Int.toNat_one,List.set_cons_zero,List.set_cons_succ,List.take_zero,List.take_succ_cons,List.take_nil,List.drop_zero,List.drop_succ_cons,List.drop_nil,List.append_nil,Nat.zero_add,Nat.add_zero,Nat.mul_one,Nat.zero_mul,↓wp_mv,↓wp_pick,↓wp_ld,↓wp_sto,↓wp_idx,↓wp_aidx,↓wp_fad,↓wp_fld,↓wp_len,↓wp_lens,↓wp_bin,↓wp_beq,↓wp_un,↓wp_conv,↓wp_sl,↓wp_sls,↓wp_mk,↓wp_app,↓wp_bsl,↓wp_bld,↓wp_box,↓wp_alc,↓wp_mkf,↓wp_nck,↓wp_ext,↓wp_call,↓wp_callA,↓VOps_nil,↓VOps_go,↓VOps_if,↓evF_tmp,↓evF_const,↓evF_func,cv_int,cv_bool,cv_slice,cv_string,cv,Nat.reduceLeDiff,Nat.reduceLT,Nat.le_refl,Nat.reduceSub,Int.reduceToNat,Int.reduceLE,Int.reduceLT,not_true_eq_false,not_false_eq_true,decide_true,decide_false,Bool.true_eq_false,↓imp_tt,↓imp_ft,↓imp_tf,↓imp_ff,↓imp_tnt,↓imp_fnt,↓imp_tnf,↓imp_fnf,addedOK,addedN,addedCells,oldA,Old,oldL,↓VW_range,↓wp_ycal,↓wp_six,↓wp_ixv,↓wp_eqv,↓wp_mx,↓wp_mn,↓wp_nilq,↓wp_nils,↓wp_b2s,↓wp_look,↓wp_mlen,↓wp_cpy,↓wp_clr,↓wp_s2b,↓wp_mkm,↓wp_upd,↓eqT_nil,↓eqT_int,↓eqT_bool,↓eqT_str,↓b2sT_U8,↓b2sT_nil,↓lookT_nil,↓lookT_cons,cv_agg,cv_nilFunc,mapOK_nil,mapOK_cons,updA_nil,iteP,Bool.not_eq_true,Bool.not_eq_false,Classical.not_not, c_scref08_word, w1, w2, w3]
  repeat (refine And.intro (by omega) ?_)
  refine ⟨_, Frz.pure rfl, ?_⟩
  have h0 := byteAt_in s k
  have h1 := byteAt_in s (k + 1)
  have h2 := byteAt_in s (k + 2)
  have h3 := byteAt_in s (k + 3)
  have e : ∀ n, In32 n → IntKind.u32.wrap n = n := fun n h => w32_in h
  unfold wordA
  generalize byteAt s k = b0 at *
  generalize byteAt s (k + 1) = b1 at *
  generalize byteAt s (k + 2) = b2 at *
  generalize byteAt s (k + 3) = b3 at *
  simp only [IntKind.wrap_u32]
  congr 2
  omega

theorem or_add {x y : Int} (i : Nat) (hx : 0 ≤ x) (hx2 : x < ((2 ^ i : Nat) : Int)) (hy : 0 ≤ y) (hi : y * ((2 ^ i : Nat) : Int) < 4294967296) (hx3 : x < 4294967296) :
    IntKind.u32.wrap (((BitVec.ofInt IntKind.u32.bits x ||| BitVec.ofInt IntKind.u32.bits (y * ((2 ^ i : Nat) : Int))).toNat : Nat) : Int) = x + y * ((2 ^ i : Nat) : Int) := by
  obtain ⟨a, rfl⟩ := Int.eq_ofNat_of_zero_le hx
  obtain ⟨b, rfl⟩ := Int.eq_ofNat_of_zero_le hy
  have e : (b : Int) * ((2 ^ i : Nat) : Int) = ((b * 2 ^ i : Nat) : Int) := by simp
  rw [e] at hi ⊢
  have h3 := orW_eq (a := (a : Int)) (b := ((b * 2 ^ i : Nat) : Int)) ⟨by omega, by omega⟩ ⟨by omega, by omega⟩
  unfold orW at h3
  rw [w32] at h3
  rw [h3, Int.toNat_natCast, Int.toNat_natCast, Nat.or_comm, Nat.mul_comm b, ← Nat.two_pow_add_eq_or_of_lt (by omega) b]
  omega

/-- Places where list and cell may be written to are others than those of what stays. -/
structure AppI (ty : Nat) (re : List AV) (H0 : List VObj) (pc sc j0 : Nat) (ws : List Int) (H : List VObj) : Prop where
  cell : ∃ m, H[pc]? = some ⟨sc, ty, 1, m :: re⟩ ∧ ((m = nilv ∧ ws = []) ∨ ∃ j sm, m = .ref j sm 0 ws.length ∧ H[j]? = some ⟨sm, 34, 1, ws.map U32⟩ ∧ j ≠ pc ∧ (j = j0 ∨ H0.length ≤ j))
  keep : ∀ i ob, i ≠ pc → i ≠ j0 → H0[i]? = some ob → H[i]? = some ob
  len : H0.length ≤ H.length
  pcl : pc < H0.length

theorem AppI.set {ty : Nat} {re : List AV} {H0 H : List VObj} {pc sc j0 : Nat} {ws : List Int} (h : AppI ty re H0 pc sc j0 ws H) {r : Nat} (h1 : r ≠ pc) (h2 : r ≠ j0) (h3 : r < H0.length) (x : VObj) : AppI ty re (H0.set r x) pc sc j0 ws (H.set r x) := by
  obtain ⟨m, hm, hj⟩ := h.cell
  have hl := h.len
  refine ⟨⟨m, by rw [List.getElem?_set, if_neg h1]; exact hm, ?_⟩, fun i ob i1 i2 i3 => ?_, by simpa using hl, by simpa using h.pcl⟩
  · rcases hj with hj | ⟨j, sm, e, g, n1, n2⟩
    · exact .inl hj
    · refine .inr ⟨j, sm, e, ?_, n1, by simpa using n2⟩
      rw [List.getElem?_set, if_neg (by omega)]; exact g
  · rw [List.getElem?_set] at i3 ⊢
    by_cases e : r = i
    · subst e
      rw [if_pos rfl, if_pos h3] at i3
      rw [if_pos rfl, if_pos (by omega)]; exact i3
    · rw [if_neg e] at i3 ⊢
      exact h.keep i ob i1 i2 i3

/-- A word more, the list being none so far. -/
theorem AppI.first {ty : Nat} {re : List AV} {H0 H : List VObj} {pc sc j0 sm : Nat} (h : AppI ty re H0 pc sc j0 [] H) (w : Int) (x : VObj) :
    AppI ty re H0 pc sc j0 [w] (((H ++ [x]) ++ [(⟨sm, 34, 1, [U32 w]⟩ : VObj)]).set pc ⟨sc, ty, 1, .ref (H.length + 1) sm 0 1 :: re⟩) := by
  have hl := h.len
  have hp := h.pcl
  refine ⟨⟨.ref (H.length + 1) sm 0 1, by rw [List.getElem?_set, if_pos rfl, if_pos (by simp; omega)], .inr ⟨H.length + 1, sm, rfl, ?_, by omega, by omega⟩⟩, fun i ob i1 i2 i3 => ?_, by simp; omega, hp⟩
  · rw [List.getElem?_set, if_neg (by omega), List.getElem?_append_right (by simp)]; simp
  · have := h.keep i ob i1 i2 i3
    have hi := (List.getElem?_eq_some_iff.1 this).1
    rw [List.getElem?_set, if_neg (Ne.symm i1), List.getElem?_append_left (by simp; omega), List.getElem?_append_left hi]; exact this
/-- A word more, the list being there. -/
theorem AppI.more {ty : Nat} {re : List AV} {H0 H : List VObj} {pc sc j0 j sm sn : Nat} {ws : List Int} (h : AppI ty re H0 pc sc j0 ws H) (hj : H[j]? = some ⟨sm, 34, 1, ws.map U32⟩) (n1 : j ≠ pc) (n2 : j = j0 ∨ H0.length ≤ j) (w : Int) (x : VObj) :
    AppI ty re H0 pc sc j0 (ws ++ [w]) (((H ++ [x]).set j ⟨sn, 34, 1, (ws ++ [w]).map U32⟩).set pc ⟨sc, ty, 1, .ref j sn 0 (ws.length + 1) :: re⟩) := by
  have hl := h.len
  have hp := h.pcl
  have hjl := (List.getElem?_eq_some_iff.1 hj).1
  refine ⟨⟨_, by rw [List.getElem?_set, if_pos rfl, if_pos (by simp; omega)], .inr ⟨j, sn, by simp, ?_, n1, n2⟩⟩, fun i ob i1 i2 i3 => ?_, by simp; omega, hp⟩
  · rw [List.getElem?_set, if_neg (Ne.symm n1), List.getElem?_set, if_pos rfl, if_pos (by simp; omega)]
  · have := h.keep i ob i1 i2 i3
    have hi := (List.getElem?_eq_some_iff.1 this).1
    have hi0 := (List.getElem?_eq_some_iff.1 i3).1
    rw [List.getElem?_set, if_neg (Ne.symm i1), List.getElem?_set, if_neg (by omega), List.getElem?_append_left hi]; exact this

/-- What is known at the head of a loop of rounds. -/
structure XB where
  k : Nat
  H : List VObj
  nx : Nat

/-- THE BYTES' WORDS, one by one. -/
theorem words_v (s : ByteArray) (hs : s.size ≤ 1000000000) (yi ys pi ps nx0 : Nat) (H0 : List VObj) (R : Nat → List VObj → Nat → Prop) (C : AV → List VObj → Nat → Prop)
    (hR0 : R 0 H0 nx0)
    (hRp : ∀ k H nx, R k H nx → H[pi]? = some ⟨ps, 9, 1, [strv s]⟩)
    (hy : ∀ k H nx C, k < s.size / 4 → R k H nx → (∀ H' nx', R (k + 1) H' nx' → C (B true) H' nx') → YCall Try.prog yi ys [U32 (wordA s (4 * k))] H nx C)
    (hC : ∀ r H nx, R (s.size / 4) H nx → C r H nx) :
    VCall Try.prog 61 [.yld yi ys, .ptr pi ps 0] H0 nx0 C := by
  refine VCall.of_bodyB hmix f_image_words_1 (by simp) ?_
  simp only [go_sem,Nat.reduceEqDiff,Nat.reduceAdd,Nat.reduceMul,↓reduceIte,↓dreduceIte,reduceCtorEq,Nat.reduceLeDiff,Nat.reduceLT,Nat.reduceSub,Int.reduceToNat,Int.reduceLE,Int.reduceLT, c_image_words_1]
  refine VW_loop (fun q : XB => ⟨[(0, .yld yi ys), (1, .ptr pi ps 0), (3, I ((4 * q.k : Nat) : Int))], q.H, q.nx⟩)
    (fun q => q.k ≤ s.size / 4 ∧ R q.k q.H q.nx) (fun q => s.size / 4 - q.k) ⟨0, H0, nx0⟩ (Wk.mk (by simp [get_cons]) ⟨[], (List.append_nil _).symm⟩ (Nat.le_refl _)) ⟨Nat.zero_le _, hR0⟩ ?_
  rintro ⟨k, H, nx⟩ ⟨h1, h2⟩
  simp only at h1 h2
  have g := hRp k H nx h2
  have w4 : IntKind.i64.wrap (((4 * k : Nat) : Int) + 4) = ((4 * (k + 1) : Nat) : Int) := by rw [i64_in (by omega) (by omega)]; omega
  by_cases c : 4 * (k + 1) ≤ s.size
  · have c' := eq_true (show ((4 * (k + 1) : Nat) : Int) ≤ s.size by omega)
    have w1 : IntKind.i64.wrap (((4 * k : Nat) : Int) + 1) = ((4 * k + 1 : Nat) : Int) := by rw [i64_in (by omega) (by omega)]; omega
    have w2 : IntKind.i64.wrap (((4 * k : Nat) : Int) + 2) = ((4 * k + 2 : Nat) : Int) := by rw [i64_in (by omega) (by omega)]; omega
    have w3 : IntKind.i64.wrap (((4 * k : Nat) : Int) + 3) = ((4 * k + 3 : Nat) : Int) := by rw [i64_in (by omega) (by omega)]; omega
    have hb : ∀ i, IntKind.u32.wrap (byteAt s i) = byteAt s i := fun i => by
      have := byteAt_in s i
      exact w32_in ⟨by omega, by omega⟩
    have hb8 : ∀ i, IntKind.u32.wrap (byteAt s i * 2 ^ min 8 IntKind.u32.bits) = byteAt s i * 256 := fun i => by
      have := byteAt_in s i
      exact w32_in ⟨by show 0 ≤ byteAt s i * 256; omega, by show byteAt s i * 256 < _; omega⟩
    have hb16 : ∀ i, IntKind.u32.wrap (byteAt s i * 2 ^ min 16 IntKind.u32.bits) = byteAt s i * 65536 := fun i => by
      have := byteAt_in s i
      exact w32_in ⟨by show 0 ≤ byteAt s i * 65536; omega, by show byteAt s i * 65536 < _; omega⟩
    have hb24 : ∀ i, IntKind.u32.wrap (byteAt s i * 2 ^ min 24 IntKind.u32.bits) = byteAt s i * 16777216 := fun i => by
      have := byteAt_in s i
      exact w32_in ⟨by show 0 ≤ byteAt s i * 16777216; omega, by show byteAt s i * 16777216 < _; omega⟩
    have b0 := byteAt_in s (4 * k)
    have b1 := byteAt_in s (4 * k + 1)
    have b2 := byteAt_in s (4 * k + 2)
    have b3 := byteAt_in s (4 * k + 3)
    have o1 := or_add 8 (x := byteAt s (4 * k)) (y := byteAt s (4 * k + 1)) (by omega) (by omega) (by omega) (by omega) (by omega)
    have o2 := or_add 16 (x := byteAt s (4 * k) + byteAt s (4 * k + 1) * 256) (y := byteAt s (4 * k + 2)) (by omega) (by omega) (by omega) (by omega) (by omega)
    have o3 := or_add 24 (x := byteAt s (4 * k) + byteAt s (4 * k + 1) * 256 + byteAt s (4 * k + 2) * 65536) (y := byteAt s (4 * k + 3)) (by omega) (by omega) (by omega) (by omega) (by omega)
    rw [show ((2 ^ 8 : Nat) : Int) = 256 from rfl] at o1
    rw [show ((2 ^ 16 : Nat) : Int) = 65536 from rfl] at o2
    rw [show ((2 ^ 24 : Nat) : Int) = 16777216 from rfl, show byteAt s (4 * k) + byteAt s (4 * k + 1) * 256 + byteAt s (4 * k + 2) * 65536 + byteAt s (4 * k + 3) * 16777216 = wordA s (4 * k) by unfold wordA; omega] at o3
    have hq := hy k H nx
    simp only [↓VW_skip,↓VW_ops,↓VW_par,↓VW_park,↓VW_seq,↓VW_block,↓VW_exit,↓VW_ret,↓VW_cond,↓litE_tmp,↓litE_const,↓seq_normal,↓seq_exit,↓seq_ret,↓blk_normal,↓blk_exit,↓blk_ret,↓get_nil,↓get_cons,↓put_some,↓put_none,↓put_some',↓put_none',↓VTrL_done,↓VTrL_one,↓VTrL_if,↓VTrL_both,↓wpD_eq,↓wpE_call,↓wpE_callA,↓wpE_mv,↓wpE_pick,↓wpE_ld,↓wpE_sto,↓wpE_idx,↓wpE_aidx,↓wpE_fad,↓wpE_fld,↓wpE_len,↓wpE_lens,↓wpE_bin,↓wpE_beq,↓wpE_un,↓wpE_conv,↓wpE_sl,↓wpE_sls,↓wpE_mk,↓wpE_app,↓wpE_bsl,↓wpE_bld,↓wpE_box,↓wpE_alc,↓wpE_mkf,↓wpE_nck,↓wpE_ext,↓wpE_pur,↓wpE_see,↓wpE_eff,↓wpE_ycal,undef,K.xtra,argEnv,↓retQ,↓retW,↓VR.wp,↓VRs,binOK,binR,unOK,unR,ldOK,stoOK,putA,partA,partOK,fillA,fillOK,partsOf,evs,boundOf,AV.cells,AV.one,AV.laid,Value.oneCell',Nat.reduceEqDiff,Nat.reduceAdd,Nat.reduceMul,↓reduceIte,↓dreduceIte,true_and,and_true,List.cons_append,List.nil_append,List.length_map,List.length_cons,List.length_nil,List.getElem?_cons_zero,List.getElem?_cons_succ,List.map_cons,List.map_nil,Bool.not_true,Bool.not_false,forall_const,reduceCtorEq,false_implies,List.all_cons,List.all_nil,Bool.and_true,Bool.and_self,↓idxT_map,↓idxT_cons,↓cellT_I,↓cellT_B,↓cellT_map,↓cellT_cons,decide_eq_true_eq,decide_eq_false_iff_not,Int.toNat_natCast,bne_iff_ne,ne_eq,Bool.not_eq_true',Bool.not_eq_false',bne_eq_false_iff_eq,beq_iff_eq,beq_eq_false_iff_ne,implies_true,List.getD_cons_zero,List.getD_cons_succ,Bool.false_eq_true,false_or,or_false,true_or,or_true,Int.natCast_nonneg,Int.toNat_zero,Int.toNat_one,List.set_cons_zero,List.set_cons_succ,List.take_zero,List.take_succ_cons,List.take_nil,List.drop_zero,List.drop_succ_cons,List.drop_nil,List.append_nil,Nat.zero_add,Nat.add_zero,Nat.mul_one,Nat.zero_mul,↓wp_mv,↓wp_pick,↓wp_ld,↓wp_sto,↓wp_idx,↓wp_aidx,↓wp_fad,↓wp_fld,↓wp_len,↓wp_lens,↓wp_bin,↓wp_beq,↓wp_un,↓wp_conv,↓wp_sl,↓wp_sls,↓wp_mk,↓wp_app,↓wp_bsl,↓wp_bld,↓wp_box,↓wp_alc,↓wp_mkf,↓wp_nck,↓wp_ext,↓wp_call,↓wp_callA,↓VOps_nil,↓VOps_go,↓VOps_if,↓evF_tmp,↓evF_const,↓evF_func,cv_int,cv_bool,cv_slice,cv_string,cv,Nat.reduceLeDiff,Nat.reduceLT,Nat.le_refl,Nat.reduceSub,Int.reduceToNat,Int.reduceLE,Int.reduceLT,not_true_eq_false,not_false_eq_true,decide_true,decide_false,Bool.true_eq_false,↓imp_tt,↓imp_ft,↓imp_tf,↓imp_ff,↓imp_tnt,↓imp_fnt,↓imp_tnf,↓imp_fnf,addedOK,addedN,addedCells,oldA,Old,oldL,↓VW_range,↓wp_ycal,↓wp_six,↓wp_ixv,↓wp_eqv,↓wp_mx,↓wp_mn,↓wp_nilq,↓wp_nils,↓wp_b2s,↓wp_look,↓wp_mlen,↓wp_cpy,↓wp_clr,↓wp_s2b,↓wp_mkm,↓wp_upd,↓eqT_nil,↓eqT_int,↓eqT_bool,↓eqT_str,↓b2sT_U8,↓b2sT_nil,↓lookT_nil,↓lookT_cons,cv_agg,cv_nilFunc,mapOK_nil,mapOK_cons,updA_nil,iteP,Bool.not_eq_true,Bool.not_eq_false,Classical.not_not, g, w4, c', w1, w2, w3, hb, hb8, hb16, hb24, o1, o2, o3]
    repeat (refine And.intro (by omega) ?_)
    refine hq _ (by omega) h2 fun H' nx' h' => ?_
    simp only [go_sem,Nat.reduceEqDiff,Nat.reduceAdd,Nat.reduceMul,↓reduceIte,↓dreduceIte,reduceCtorEq,Nat.reduceLeDiff,Nat.reduceLT,Nat.reduceSub,Int.reduceToNat,Int.reduceLE,Int.reduceLT, w4]
    exact ⟨⟨k + 1, H', nx'⟩, ⟨by simp only; omega, h'⟩, by simp only; omega, Wk.mk (by simp [get_cons]) ⟨[], (List.append_nil _).symm⟩ (Nat.le_refl _)⟩
  · have c' := eq_false (show ¬ ((4 * (k + 1) : Nat) : Int) ≤ s.size by omega)
    have e : s.size / 4 = k := by omega
    rw [e] at hC
    simp only [↓VW_skip,↓VW_ops,↓VW_par,↓VW_park,↓VW_seq,↓VW_block,↓VW_exit,↓VW_ret,↓VW_cond,↓litE_tmp,↓litE_const,↓seq_normal,↓seq_exit,↓seq_ret,↓blk_normal,↓blk_exit,↓blk_ret,↓get_nil,↓get_cons,↓put_some,↓put_none,↓put_some',↓put_none',↓VTrL_done,↓VTrL_one,↓VTrL_if,↓VTrL_both,↓wpD_eq,↓wpE_call,↓wpE_callA,↓wpE_mv,↓wpE_pick,↓wpE_ld,↓wpE_sto,↓wpE_idx,↓wpE_aidx,↓wpE_fad,↓wpE_fld,↓wpE_len,↓wpE_lens,↓wpE_bin,↓wpE_beq,↓wpE_un,↓wpE_conv,↓wpE_sl,↓wpE_sls,↓wpE_mk,↓wpE_app,↓wpE_bsl,↓wpE_bld,↓wpE_box,↓wpE_alc,↓wpE_mkf,↓wpE_nck,↓wpE_ext,↓wpE_pur,↓wpE_see,↓wpE_eff,↓wpE_ycal,undef,K.xtra,argEnv,↓retQ,↓retW,↓VR.wp,↓VRs,binOK,binR,unOK,unR,ldOK,stoOK,putA,partA,partOK,fillA,fillOK,partsOf,evs,boundOf,AV.cells,AV.one,AV.laid,Value.oneCell',Nat.reduceEqDiff,Nat.reduceAdd,Nat.reduceMul,↓reduceIte,↓dreduceIte,true_and,and_true,List.cons_append,List.nil_append,List.length_map,List.length_cons,List.length_nil,List.getElem?_cons_zero,List.getElem?_cons_succ,List.map_cons,List.map_nil,Bool.not_true,Bool.not_false,forall_const,reduceCtorEq,false_implies,List.all_cons,List.all_nil,Bool.and_true,Bool.and_self,↓idxT_map,↓idxT_cons,↓cellT_I,↓cellT_B,↓cellT_map,↓cellT_cons,decide_eq_true_eq,decide_eq_false_iff_not,Int.toNat_natCast,bne_iff_ne,ne_eq,Bool.not_eq_true',Bool.not_eq_false',bne_eq_false_iff_eq,beq_iff_eq,beq_eq_false_iff_ne,implies_true,List.getD_cons_zero,List.getD_cons_succ,Bool.false_eq_true,false_or,or_false,true_or,or_true,Int.natCast_nonneg,Int.toNat_zero,Int.toNat_one,List.set_cons_zero,List.set_cons_succ,List.take_zero,List.take_succ_cons,List.take_nil,List.drop_zero,List.drop_succ_cons,List.drop_nil,List.append_nil,Nat.zero_add,Nat.add_zero,Nat.mul_one,Nat.zero_mul,↓wp_mv,↓wp_pick,↓wp_ld,↓wp_sto,↓wp_idx,↓wp_aidx,↓wp_fad,↓wp_fld,↓wp_len,↓wp_lens,↓wp_bin,↓wp_beq,↓wp_un,↓wp_conv,↓wp_sl,↓wp_sls,↓wp_mk,↓wp_app,↓wp_bsl,↓wp_bld,↓wp_box,↓wp_alc,↓wp_mkf,↓wp_nck,↓wp_ext,↓wp_call,↓wp_callA,↓VOps_nil,↓VOps_go,↓VOps_if,↓evF_tmp,↓evF_const,↓evF_func,cv_int,cv_bool,cv_slice,cv_string,cv,Nat.reduceLeDiff,Nat.reduceLT,Nat.le_refl,Nat.reduceSub,Int.reduceToNat,Int.reduceLE,Int.reduceLT,not_true_eq_false,not_false_eq_true,decide_true,decide_false,Bool.true_eq_false,↓imp_tt,↓imp_ft,↓imp_tf,↓imp_ff,↓imp_tnt,↓imp_fnt,↓imp_tnf,↓imp_fnf,addedOK,addedN,addedCells,oldA,Old,oldL,↓VW_range,↓wp_ycal,↓wp_six,↓wp_ixv,↓wp_eqv,↓wp_mx,↓wp_mn,↓wp_nilq,↓wp_nils,↓wp_b2s,↓wp_look,↓wp_mlen,↓wp_cpy,↓wp_clr,↓wp_s2b,↓wp_mkm,↓wp_upd,↓eqT_nil,↓eqT_int,↓eqT_bool,↓eqT_str,↓b2sT_U8,↓b2sT_nil,↓lookT_nil,↓lookT_cons,cv_agg,cv_nilFunc,mapOK_nil,mapOK_cons,updA_nil,iteP,Bool.not_eq_true,Bool.not_eq_false,Classical.not_not, g, w4, c']
    exact hC _ _ _ h2

/-- A list that was made: none, or one of the call's own behind J. -/
def Got (J : List VObj) (m : AV) (ws : List Int) (H : List VObj) : Prop :=
  ((m = nilv ∧ ws = []) ∨ ∃ j sm, m = .ref j sm 0 ws.length ∧ H[j]? = some ⟨sm, 34, 1, ws.map U32⟩ ∧ J.length ≤ j) ∧ ∀ (i : Nat) (ob : VObj), J[i]? = some ob → H[i]? = some ob

theorem appendSeq_v (s : ByteArray) (hs : s.size ≤ 1000000000) (J : List VObj) (pi ps nx : Nat) (hp : J[pi]? = some ⟨ps, 9, 1, [strv s]⟩) (C : AV → List VObj → Nat → Prop)
    (hC : ∀ m H nx', Got J m (wl s (s.size / 4)) H → C m H nx') : VCall Try.prog 60 [nilv, .fn 61 [.ptr pi ps 0]] J nx C := by
  refine VCall.of_bodyB hmix f_slices_AppendSeq__uint32uint32 (by simp) ?_
  have hpl := (List.getElem?_eq_some_iff.1 hp).1
  simp only [go_sem,Nat.reduceEqDiff,Nat.reduceAdd,Nat.reduceMul,↓reduceIte,↓dreduceIte,reduceCtorEq,Nat.reduceLeDiff,Nat.reduceLT,Nat.reduceSub,Int.reduceToNat,Int.reduceLE,Int.reduceLT, c_slices_AppendSeq__uint32uint32, onx]
  have hn : (J ++ [(⟨nx, 22, 1, [nilv]⟩ : VObj)]).length = J.length + 1 := by simp
  intro R Bo E hz hY
  simp only [hn] at hY ⊢
  have hg0 : ((J ++ [⟨nx, 22, 1, [nilv]⟩]) ++ [R])[J.length + 1]? = some R := by
    rw [List.getElem?_append_right (by simp)]; simp
  refine words_v s hs _ _ pi ps _ _ (fun k H nx' => AppI 22 [] ((J ++ [⟨nx, 22, 1, [nilv]⟩]) ++ [R]) J.length nx J.length (wl s k) H) _ ?_ (fun k H nx' h => h.keep pi _ (by omega) (by omega) ?_) (fun k H nx' C' hk h hC' => ?_) fun r H nx' h => ?_
  · refine ⟨⟨nilv, ?_, .inl ⟨rfl, rfl⟩⟩, fun _ _ _ _ h => h, Nat.le_refl _, by simp⟩
    rw [List.getElem?_append_left (by simp), List.getElem?_append_right (by omega)]; simp
  · rw [List.getElem?_append_left (by simp; omega), List.getElem?_append_left hpl]; exact hp
  · have hr : H[J.length + 1]? = some R := h.keep _ _ (by omega) (by omega) hg0
    refine hY _ _ _ _ hr rfl ?_
    have h' := h.set (r := J.length + 1) (by omega) (by omega) (by simp) Bo
    have hlt := (List.getElem?_eq_some_iff.1 hr).1
    have hb : (H.set (J.length + 1) Bo)[J.length + 1]? = some Bo := by rw [List.getElem?_set, if_pos rfl, if_pos hlt]
    have hc0 : ((J ++ [⟨nx, 22, 1, [nilv]⟩]) ++ [R])[J.length + 1]? = some R := hg0
    have fin : ∀ H2, AppI 22 [] (((J ++ [(⟨nx, 22, 1, [nilv]⟩ : VObj)]) ++ [R]).set (J.length + 1) Bo) J.length nx J.length (wl s (k + 1)) H2 → H2[J.length + 1]? = some Bo ∧ AppI 22 [] ((J ++ [⟨nx, 22, 1, [nilv]⟩]) ++ [R]) J.length nx J.length (wl s (k + 1)) (H2.set (J.length + 1) R) := fun H2 h2 => by
      refine ⟨h2.keep _ _ (by omega) (by omega) (by rw [List.getElem?_set, if_pos rfl, if_pos (by simp)]), ?_⟩
      have := h2.set (r := J.length + 1) (by omega) (by omega) (by simp) R
      rw [List.set_set, set_of_get hg0] at this
      exact this
    clear hY
    generalize H.set (J.length + 1) Bo = H1 at *
    obtain ⟨m, hm, hj⟩ := h'.cell
    have hl := h'.len
    have hlk := wl_length s k
    simp only [List.length_append, List.length_set, List.length_cons, List.length_nil] at hl
    have hmx : (2000000000 : Nat) ≤ maxLen := by decide
    have glast : ∀ (L : List VObj) (x : VObj), (L ++ [x])[L.length]? = some x := fun L x => by simp
    have hpl2 : J.length < H1.length := by omega
    have hm1 : ∀ x, (H1 ++ [x])[J.length]? = some ⟨nx, 22, 1, [m]⟩ := fun x => by rw [List.getElem?_append_left hpl2]; exact hm
    rcases hj with ⟨rfl, hw⟩ | ⟨j, sm, rfl, hj, n1, n2⟩
    · have hm2 : ∀ x y, ((H1 ++ [x]) ++ [y])[J.length]? = some ⟨nx, 22, 1, [nilv]⟩ := fun x y => by rw [List.getElem?_append_left (by simp; omega)]; exact hm1 x
      simp only [go_sem,Nat.reduceEqDiff,Nat.reduceAdd,Nat.reduceMul,↓reduceIte,↓dreduceIte,reduceCtorEq,Nat.reduceLeDiff,Nat.reduceLT,Nat.reduceSub,Int.reduceToNat,Int.reduceLE,Int.reduceLT, hm, hm1, hm2, glast, onx, List.zip_cons_cons, List.zip_nil_right]
      rw [hw] at h'
      have hf := h'.first (sm := nx' + 1) (wordA s (4 * k)) ⟨nx', 34, 1, [U32 (wordA s (4 * k))]⟩
      have ew : [wordA s (4 * k)] = wl s (k + 1) := by rw [wl_succ, hw]; rfl
      rw [ew] at hf
      obtain ⟨f1, f2⟩ := fin _ hf
      exact ⟨by omega, f1, hC' _ _ f2⟩
    · have hjl := (List.getElem?_eq_some_iff.1 hj).1
      have hj1 : ∀ x, (H1 ++ [x])[j]? = some ⟨sm, 34, 1, (wl s k).map U32⟩ := fun x => by rw [List.getElem?_append_left hjl]; exact hj
      have hm3 : ∀ x y, ((H1 ++ [x]).set j y)[J.length]? = some ⟨nx, 22, 1, [.ref j sm 0 (wl s k).length]⟩ := fun x y => by rw [List.getElem?_set, if_neg n1]; exact hm1 x
      have htk : ((wl s k).map U32).take (wl s k).length = (wl s k).map U32 := List.take_of_length_le (by simp)
      simp only [go_sem,Nat.reduceEqDiff,Nat.reduceAdd,Nat.reduceMul,↓reduceIte,↓dreduceIte,reduceCtorEq,Nat.reduceLeDiff,Nat.reduceLT,Nat.reduceSub,Int.reduceToNat,Int.reduceLE,Int.reduceLT, hm, hm1, hm3, hj1, glast, onx, List.zip_cons_cons, List.zip_nil_right, htk]
      have hf := h'.more (sn := nx' + 1) hj n1 n2 (wordA s (4 * k)) ⟨nx', 34, 1, [U32 (wordA s (4 * k))]⟩
      rw [List.map_append, ← wl_succ] at hf
      obtain ⟨f1, f2⟩ := fin _ hf
      exact ⟨by omega, by omega, f1, hC' _ _ f2⟩
  · have hr : H[J.length + 1]? = some R := h.keep _ _ (by omega) (by omega) hg0
    refine ⟨hr, ?_⟩
    have h' := h.set (r := J.length + 1) (by omega) (by omega) (by simp) E
    obtain ⟨m, hm, hj⟩ := h'.cell
    have h2 := h'.keep
    have h3 := h'.len
    clear hY
    simp only [List.length_append, List.length_set, List.length_cons, List.length_nil] at h3
    generalize H.set (J.length + 1) E = H1 at *
    simp only [go_sem,Nat.reduceEqDiff,Nat.reduceAdd,Nat.reduceMul,↓reduceIte,↓dreduceIte,reduceCtorEq,Nat.reduceLeDiff,Nat.reduceLT,Nat.reduceSub,Int.reduceToNat,Int.reduceLE,Int.reduceLT, hm]
    have hlw := wl_length s (s.size / 4)
    have keep : ∀ (i : Nat) (ob : VObj), J[i]? = some ob → H1[i]? = some ob := fun i ob hi => by
      have hil := (List.getElem?_eq_some_iff.1 hi).1
      refine h2 i ob (by omega) (by omega) ?_
      rw [List.getElem?_set, if_neg (by omega), List.getElem?_append_left (by simp; omega), List.getElem?_append_left hil]; exact hi
    rcases hj with ⟨rfl, hw⟩ | ⟨j, sm, rfl, hj, n1, n2⟩
    · exact ⟨rfl, hC _ _ _ ⟨.inl ⟨rfl, hw⟩, keep⟩⟩
    · simp only [List.length_append, List.length_set, List.length_cons, List.length_nil] at n2
      exact ⟨rfl, hC _ _ _ ⟨.inr ⟨j, sm, rfl, hj, by omega⟩, keep⟩⟩

theorem collect_v (s : ByteArray) (hs : s.size ≤ 1000000000) (J : List VObj) (pi ps nx : Nat) (hp : J[pi]? = some ⟨ps, 9, 1, [strv s]⟩) (C : AV → List VObj → Nat → Prop)
    (hC : ∀ m H nx', Got J m (wl s (s.size / 4)) H → C m H nx') : VCall Try.prog 49 [.fn 61 [.ptr pi ps 0]] J nx C := by
  refine VCall.of_body hmix f_slices_Collect_uint32 (by simp) ?_
  simp only [go_sem,Nat.reduceEqDiff,Nat.reduceAdd,Nat.reduceMul,↓reduceIte,↓dreduceIte,reduceCtorEq,Nat.reduceLeDiff,Nat.reduceLT,Nat.reduceSub,Int.reduceToNat,Int.reduceLE,Int.reduceLT, c_slices_Collect_uint32]
  refine appendSeq_v s hs J pi ps nx hp _ fun m H nx' h => ?_
  have h1 : m.one = true := by rcases h.1 with ⟨rfl, _⟩ | ⟨j, sm, rfl, _⟩ <;> rfl
  simp only [go_sem,Nat.reduceEqDiff,Nat.reduceAdd,Nat.reduceMul,↓reduceIte,↓dreduceIte,reduceCtorEq,Nat.reduceLeDiff,Nat.reduceLT,Nat.reduceSub,Int.reduceToNat,Int.reduceLE,Int.reduceLT]
  exact hC _ _ _ h

theorem imgwords_v (s : ByteArray) (J : List VObj) (nx : Nat) (C : AV → List VObj → Nat → Prop)
    (hC : C (.fn 61 [.ptr J.length nx 0]) (J ++ [⟨nx, 9, 1, [strv s]⟩]) (nx + 1)) : VCall Try.prog 50 [strv s] J nx C := by
  refine VCall.of_body hmix f_image_words (by simp) ?_
  simp only [go_sem,Nat.reduceEqDiff,Nat.reduceAdd,Nat.reduceMul,↓reduceIte,↓dreduceIte,reduceCtorEq,Nat.reduceLeDiff,Nat.reduceLT,Nat.reduceSub,Int.reduceToNat,Int.reduceLE,Int.reduceLT, c_image_words]
  exact hC

/-- Are these an image's bytes? -/
def okR (s : ByteArray) : Bool := decide (12 ≤ s.size) && (byteAt s 0 == 83) && (byteAt s 1 == 69) && (byteAt s 2 == 69) && (byteAt s 3 == 68) && decide (wordA s 4 ≤ 16384) && decide (wordA s 8 ≤ 32768) && decide ((s.size : Int) = 12 + 4 * wordA s 4)
/-- The first k words of code. -/
def rl (s : ByteArray) (k : Nat) : List Int := (List.range k).map fun i => wordA s (12 + 4 * i)
theorem rl_length (s : ByteArray) (k : Nat) : (rl s k).length = k := by simp [rl]
theorem rl_succ (s : ByteArray) (k : Nat) : rl s (k + 1) = rl s k ++ [wordA s (12 + 4 * k)] := by simp [rl, List.range_succ]
def readA (s : ByteArray) : AV := if okR s = true then .tup [imgA (rl s (wordA s 4).toNat) (wordA s 8), I 0] else .tup [imgA [] 0, I 7]
theorem okR_iff {s : ByteArray} : okR s = true ↔ 12 ≤ s.size ∧ byteAt s 0 = 83 ∧ byteAt s 1 = 69 ∧ byteAt s 2 = 69 ∧ byteAt s 3 = 68 ∧ wordA s 4 ≤ 16384 ∧ wordA s 8 ≤ 32768 ∧ (s.size : Int) = 12 + 4 * wordA s 4 := by
  simp [okR, and_assoc]
theorem readA_no {s : ByteArray} (h : ¬ (12 ≤ s.size ∧ byteAt s 0 = 83 ∧ byteAt s 1 = 69 ∧ byteAt s 2 = 69 ∧ byteAt s 3 = 68 ∧ wordA s 4 ≤ 16384 ∧ wordA s 8 ≤ 32768 ∧ (s.size : Int) = 12 + 4 * wordA s 4)) : readA s = .tup [imgA [] 0, I 7] := by
  unfold readA
  rw [if_neg fun e => h (okR_iff.1 e)]
theorem frz_no {n : Nat} {H : List VObj} {nx : Nat} : Frz n H nx (.tup [.agg [nilv, I 0], I 7]) (.tup [imgA [] 0, I 7]) :=
  Frz.tup ⟨_, _, rfl, Frz.agg ⟨_, _, rfl, Frz.nil 1, _, _, rfl, Frz.pure rfl, rfl⟩, _, _, rfl, Frz.pure rfl, rfl⟩

theorem refread_c (s : ByteArray) (hs : s.size ≤ 1000000) : Contract Try.prog 25 [strv s] (fun r => r = readA s) := by
  refine Contract.of_call (VCall.of_body hmix f_scref08_Read (by simp) ?_)
  by_cases c0 : 12 ≤ s.size
  case neg =>
    have c0' := eq_true (show (s.size : Int) < 12 by omega)
    simp only [go_sem,Nat.reduceEqDiff,Nat.reduceAdd,Nat.reduceMul,↓reduceIte,↓dreduceIte,reduceCtorEq,Nat.reduceLeDiff,Nat.reduceLT,Nat.reduceSub,Int.reduceToNat,Int.reduceLE,Int.reduceLT, c_scref08_Read, c0']
    exact ⟨_, frz_no, (readA_no fun h => c0 h.1).symm⟩
  have c0' := eq_false (show ¬ (s.size : Int) < 12 by omega)
  by_cases c1 : byteAt s 0 = 83
  case neg =>
    have c1' := eq_false c1
    simp only [go_sem,Nat.reduceEqDiff,Nat.reduceAdd,Nat.reduceMul,↓reduceIte,↓dreduceIte,reduceCtorEq,Nat.reduceLeDiff,Nat.reduceLT,Nat.reduceSub,Int.reduceToNat,Int.reduceLE,Int.reduceLT, c_scref08_Read, c0', c1']
    repeat (refine And.intro (by omega) ?_)
    exact ⟨_, frz_no, (readA_no fun h => c1 h.2.1).symm⟩
  have c1' := eq_true c1
  by_cases c2 : byteAt s 1 = 69
  case neg =>
    have c2' := eq_false c2
    simp only [go_sem,Nat.reduceEqDiff,Nat.reduceAdd,Nat.reduceMul,↓reduceIte,↓dreduceIte,reduceCtorEq,Nat.reduceLeDiff,Nat.reduceLT,Nat.reduceSub,Int.reduceToNat,Int.reduceLE,Int.reduceLT, c_scref08_Read, c0', c1', c2']
    repeat (refine And.intro (by omega) ?_)
    exact ⟨_, frz_no, (readA_no fun h => c2 h.2.2.1).symm⟩
  have c2' := eq_true c2
  by_cases c3 : byteAt s 2 = 69
  case neg =>
    have c3' := eq_false c3
    simp only [go_sem,Nat.reduceEqDiff,Nat.reduceAdd,Nat.reduceMul,↓reduceIte,↓dreduceIte,reduceCtorEq,Nat.reduceLeDiff,Nat.reduceLT,Nat.reduceSub,Int.reduceToNat,Int.reduceLE,Int.reduceLT, c_scref08_Read, c0', c1', c2', c3']
    repeat (refine And.intro (by omega) ?_)
    exact ⟨_, frz_no, (readA_no fun h => c3 h.2.2.2.1).symm⟩
  have c3' := eq_true c3
  by_cases c4 : byteAt s 3 = 68
  case neg =>
    have c4' := eq_false c4
    simp only [go_sem,Nat.reduceEqDiff,Nat.reduceAdd,Nat.reduceMul,↓reduceIte,↓dreduceIte,reduceCtorEq,Nat.reduceLeDiff,Nat.reduceLT,Nat.reduceSub,Int.reduceToNat,Int.reduceLE,Int.reduceLT, c_scref08_Read, c0', c1', c2', c3', c4']
    repeat (refine And.intro (by omega) ?_)
    exact ⟨_, frz_no, (readA_no fun h => c4 h.2.2.2.2.1).symm⟩
  have c4' := eq_true c4
  obtain ⟨n, hn⟩ : ∃ n, wordA s 4 = n := ⟨_, rfl⟩
  obtain ⟨d, hd⟩ : ∃ d, wordA s 8 = d := ⟨_, rfl⟩
  have hn32 := hn ▸ wordA_in s 4
  have hd32 := hd ▸ wordA_in s 8
  obtain ⟨hn0, hn1⟩ := hn32
  obtain ⟨hd0, hd1⟩ := hd32
  have hc4 := word_c s 4 (by omega) (by omega)
  have hc8 := word_c s 8 (by omega) (by omega)
  rw [hn] at hc4
  rw [hd] at hc8
  simp only [go_sem,Nat.reduceEqDiff,Nat.reduceAdd,Nat.reduceMul,↓reduceIte,↓dreduceIte,reduceCtorEq,Nat.reduceLeDiff,Nat.reduceLT,Nat.reduceSub,Int.reduceToNat,Int.reduceLE,Int.reduceLT, c_scref08_Read, c0', c1', c2', c3', c4']
  repeat (refine And.intro (by omega) ?_)
  refine VCall.of_contract hc4 (SleL.pure rfl) fun x hx => ?_
  subst hx
  simp only [go_sem,Nat.reduceEqDiff,Nat.reduceAdd,Nat.reduceMul,↓reduceIte,↓dreduceIte,reduceCtorEq,Nat.reduceLeDiff,Nat.reduceLT,Nat.reduceSub,Int.reduceToNat,Int.reduceLE,Int.reduceLT]
  refine VCall.of_contract hc8 (SleL.pure rfl) fun x hx => ?_
  subst hx
  have e1 : IntKind.i64.wrap n = n := i64_in (by omega) (by omega)
  have e2 : IntKind.i64.wrap (4 * n) = 4 * n := i64_in (by omega) (by omega)
  have e3 : IntKind.i64.wrap (12 + 4 * n) = 12 + 4 * n := i64_in (by omega) (by omega)
  have e4 : IntKind.i64.wrap d = d := i64_in (by omega) (by omega)
  by_cases c5 : n ≤ 16384
  case neg =>
    have c5' := eq_true (show 16384 < n by omega)
    simp only [go_sem,Nat.reduceEqDiff,Nat.reduceAdd,Nat.reduceMul,↓reduceIte,↓dreduceIte,reduceCtorEq,Nat.reduceLeDiff,Nat.reduceLT,Nat.reduceSub,Int.reduceToNat,Int.reduceLE,Int.reduceLT, c5']
    exact ⟨_, frz_no, (readA_no fun h => c5 (hn ▸ h.2.2.2.2.2.1)).symm⟩
  have c5' := eq_false (show ¬ 16384 < n by omega)
  by_cases c6 : d ≤ 32768
  case neg =>
    have c6' := eq_true (show 32768 < d by omega)
    simp only [go_sem,Nat.reduceEqDiff,Nat.reduceAdd,Nat.reduceMul,↓reduceIte,↓dreduceIte,reduceCtorEq,Nat.reduceLeDiff,Nat.reduceLT,Nat.reduceSub,Int.reduceToNat,Int.reduceLE,Int.reduceLT, c5', c6']
    exact ⟨_, frz_no, (readA_no fun h => c6 (hd ▸ h.2.2.2.2.2.2.1)).symm⟩
  have c6' := eq_false (show ¬ 32768 < d by omega)
  by_cases c7 : (s.size : Int) = 12 + 4 * n
  case neg =>
    have c7' := eq_false c7
    simp only [go_sem,Nat.reduceEqDiff,Nat.reduceAdd,Nat.reduceMul,↓reduceIte,↓dreduceIte,reduceCtorEq,Nat.reduceLeDiff,Nat.reduceLT,Nat.reduceSub,Int.reduceToNat,Int.reduceLE,Int.reduceLT, c5', c6', e1, e2, e3, c7']
    exact ⟨_, frz_no, (readA_no fun h => c7 (hn ▸ h.2.2.2.2.2.2.2)).symm⟩
  have c7' := eq_true c7
  have hyes : readA s = .tup [imgA (rl s n.toNat) d, I 0] := by
    unfold readA
    rw [if_pos (okR_iff.2 ⟨c0, c1, c2, c3, c4, hn ▸ c5, hd ▸ c6, hn ▸ c7⟩), hn, hd]
  simp only [go_sem,Nat.reduceEqDiff,Nat.reduceAdd,Nat.reduceMul,↓reduceIte,↓dreduceIte,reduceCtorEq,Nat.reduceLeDiff,Nat.reduceLT,Nat.reduceSub,Int.reduceToNat,Int.reduceLE,Int.reduceLT, c5', c6', e1, e2, e3, e4, c7']
  refine VW_loop (fun q : XB => ⟨[(0, strv s), (2, .ptr 0 0 0), (4, U32 n), (6, .ptr 1 1 0), (7, I (q.k : Nat))], q.H, q.nx⟩)
    (fun q => q.k ≤ n.toNat ∧ AppI 24 [I d] [⟨0, 24, 1, [nilv, I 0]⟩, ⟨1, 24, 1, [nilv, I d]⟩] 1 1 1 (rl s q.k) q.H) (fun q => n.toNat - q.k)
    ⟨0, [⟨0, 24, 1, [nilv, I 0]⟩, ⟨1, 24, 1, [nilv, I d]⟩], 2⟩ (Wk.mk (by simp [get_cons]) ⟨[], (List.append_nil _).symm⟩ (Nat.le_refl _))
    ⟨Nat.zero_le _, ⟨⟨nilv, rfl, .inl ⟨rfl, rfl⟩⟩, fun _ _ _ _ h => h, Nat.le_refl _, by simp⟩⟩ ?_
  rintro ⟨k, H, nx⟩ ⟨h1, h⟩
  simp only at h1 h
  obtain ⟨m, hm, hj⟩ := h.cell
  have hl := h.len
  have hlk := rl_length s k
  simp only [List.length_cons, List.length_nil] at hl
  have hmx : (2000000000 : Nat) ≤ maxLen := by decide
  have hm1 : ∀ x, (H ++ [x])[1]? = some ⟨1, 24, 1, [m, I d]⟩ := fun x => by rw [List.getElem?_append_left (by omega)]; exact hm
  have glast : ∀ (L : List VObj) (x : VObj), (L ++ [x])[L.length]? = some x := fun L x => by simp
  by_cases c : (k : Int) < n
  · have c' := eq_true c
    have w1 : IntKind.i64.wrap (4 * (k : Int)) = 4 * (k : Int) := i64_in (by omega) (by omega)
    have w2 : IntKind.i64.wrap (12 + 4 * (k : Int)) = ((12 + 4 * k : Nat) : Int) := by rw [i64_in (by omega) (by omega)]; omega
    have w3 : IntKind.i64.wrap ((k : Int) + 1) = ((k + 1 : Nat) : Int) := by rw [i64_in (by omega) (by omega)]; omega
    have hwc := word_c s (12 + 4 * k) (by omega) (by omega)
    rcases hj with ⟨rfl, hw⟩ | ⟨j, sm, rfl, hj, n1, n2⟩
    · have hm2 : ∀ x y, ((H ++ [x]) ++ [y])[1]? = some ⟨1, 24, 1, [nilv, I d]⟩ := fun x y => by rw [List.getElem?_append_left (by simp; omega)]; exact hm1 x
      simp only [go_sem,Nat.reduceEqDiff,Nat.reduceAdd,Nat.reduceMul,↓reduceIte,↓dreduceIte,reduceCtorEq,Nat.reduceLeDiff,Nat.reduceLT,Nat.reduceSub,Int.reduceToNat,Int.reduceLE,Int.reduceLT, hm, e1, c', w1, w2, w3]
      refine ECall.of hwc (SleL.pure rfl) ⟨_, fun _ => Iff.rfl⟩ fun x hx => ?_
      subst hx
      simp only [go_sem,Nat.reduceEqDiff,Nat.reduceAdd,Nat.reduceMul,↓reduceIte,↓dreduceIte,reduceCtorEq,Nat.reduceLeDiff,Nat.reduceLT,Nat.reduceSub,Int.reduceToNat,Int.reduceLE,Int.reduceLT, hm, hm1, hm2, glast, onx, w3]
      rw [hw] at h
      have hf := h.first (sm := nx + 1) (wordA s (12 + 4 * k)) ⟨nx, 34, 1, [U32 (wordA s (12 + 4 * k))]⟩
      rw [show [wordA s (12 + 4 * k)] = rl s (k + 1) by rw [rl_succ, hw]; rfl] at hf
      refine ⟨by omega, ?_⟩
      exact ⟨⟨k + 1, _, nx + 1 + 1⟩, ⟨by simp only; omega, hf⟩, by simp only; omega, Wk.mk (by simp [get_cons]) ⟨[], (List.append_nil _).symm⟩ (Nat.le_refl _)⟩
    · have hjl := (List.getElem?_eq_some_iff.1 hj).1
      have hj1 : ∀ x, (H ++ [x])[j]? = some ⟨sm, 34, 1, (rl s k).map U32⟩ := fun x => by rw [List.getElem?_append_left hjl]; exact hj
      have hm3 : ∀ x y, ((H ++ [x]).set j y)[1]? = some ⟨1, 24, 1, [.ref j sm 0 (rl s k).length, I d]⟩ := fun x y => by rw [List.getElem?_set, if_neg n1]; exact hm1 x
      have htk : ((rl s k).map U32).take (rl s k).length = (rl s k).map U32 := List.take_of_length_le (by simp)
      simp only [go_sem,Nat.reduceEqDiff,Nat.reduceAdd,Nat.reduceMul,↓reduceIte,↓dreduceIte,reduceCtorEq,Nat.reduceLeDiff,Nat.reduceLT,Nat.reduceSub,Int.reduceToNat,Int.reduceLE,Int.reduceLT, hm, e1, c', w1, w2, w3]
      refine ECall.of hwc (SleL.pure rfl) ⟨_, fun _ => Iff.rfl⟩ fun x hx => ?_
      subst hx
      simp only [go_sem,Nat.reduceEqDiff,Nat.reduceAdd,Nat.reduceMul,↓reduceIte,↓dreduceIte,reduceCtorEq,Nat.reduceLeDiff,Nat.reduceLT,Nat.reduceSub,Int.reduceToNat,Int.reduceLE,Int.reduceLT, hm, hm1, hm3, hj1, glast, onx, htk, w3]
      have hf := h.more (sn := nx + 1) hj n1 n2 (wordA s (12 + 4 * k)) ⟨nx, 34, 1, [U32 (wordA s (12 + 4 * k))]⟩
      rw [List.map_append, ← rl_succ] at hf
      refine ⟨by omega, by omega, ?_⟩
      exact ⟨⟨k + 1, _, nx + 1 + 1⟩, ⟨by simp only; omega, hf⟩, by simp only; omega, Wk.mk (by simp [get_cons]) ⟨[], (List.append_nil _).symm⟩ (Nat.le_refl _)⟩
  · have c' := eq_false c
    have e : k = n.toNat := by omega
    have h0 : H[0]? = some ⟨0, 24, 1, [nilv, I 0]⟩ := h.keep 0 _ (by omega) (by omega) rfl
    have hg0 : ∀ x, (H.set 0 x)[0]? = some x := fun x => by rw [List.getElem?_set, if_pos rfl, if_pos (by omega)]
    rcases hj with ⟨rfl, hw⟩ | ⟨j, sm, rfl, hj, n1, n2⟩
    · simp only [go_sem,Nat.reduceEqDiff,Nat.reduceAdd,Nat.reduceMul,↓reduceIte,↓dreduceIte,reduceCtorEq,Nat.reduceLeDiff,Nat.reduceLT,Nat.reduceSub,Int.reduceToNat,Int.reduceLE,Int.reduceLT, hm, e1, c', h0, hg0]
      refine ⟨_, Frz.tup ⟨_, _, rfl, Frz.agg ⟨_, _, rfl, Frz.nil 1, _, _, rfl, Frz.pure rfl, rfl⟩, _, _, rfl, Frz.pure rfl, rfl⟩, ?_⟩
      rw [hyes, ← e, hw]; rfl
    · simp only [go_sem,Nat.reduceEqDiff,Nat.reduceAdd,Nat.reduceMul,↓reduceIte,↓dreduceIte,reduceCtorEq,Nat.reduceLeDiff,Nat.reduceLT,Nat.reduceSub,Int.reduceToNat,Int.reduceLE,Int.reduceLT, hm, e1, c', h0, hg0]
      simp only [List.length_cons, List.length_nil] at n2
      refine ⟨_, Frz.tup ⟨_, _, rfl, Frz.agg ⟨_, _, rfl, frz_map (f := U32) (g := U32) (l := rl s k) (Nat.zero_le _) (by rw [List.getElem?_set, if_neg (by omega)]; exact hj) rfl (fun _ => rfl) (fun _ _ => Frz.pure rfl), _, _, rfl, Frz.pure rfl, rfl⟩, _, _, rfl, Frz.pure rfl, rfl⟩, ?_⟩
      rw [hyes, ← e]

theorem byteAt_cut (s : ByteArray) (a b i : Nat) (h : a + i < b) (hb : b ≤ s.size) : byteAt (s.extract a b) i = byteAt s (a + i) := by
  unfold byteAt
  have e : (s.extract a b).data.toList = (s.data.toList.drop a).take (b - a) := by
    rw [ByteArray.data_extract, Array.toList_extract]
  rw [e]
  simp only [List.getD]
  rw [List.getElem?_take, if_pos (by omega), List.getElem?_drop]
theorem cut_size (s : ByteArray) (a b : Nat) (hb : b ≤ s.size) : (s.extract a b).size = b - a := by
  rw [ByteArray.size_extract]; omega
theorem wordA_cut (s : ByteArray) (a b i : Nat) (h : a + i + 3 < b) (hb : b ≤ s.size) : wordA (s.extract a b) i = wordA s (a + i) := by
  unfold wordA
  rw [byteAt_cut s a b i (by omega) hb, byteAt_cut s a b (i + 1) (by omega) hb, byteAt_cut s a b (i + 2) (by omega) hb, byteAt_cut s a b (i + 3) (by omega) hb]
  rfl
theorem mark_iff (s : ByteArray) (h : 12 ≤ s.size) : s.extract 0 4 = ⟨#[83, 69, 69, 68]⟩ ↔ byteAt s 0 = 83 ∧ byteAt s 1 = 69 ∧ byteAt s 2 = 69 ∧ byteAt s 3 = 68 := by
  have hb : ∀ i, i < 4 → byteAt (s.extract 0 4) i = byteAt s i := fun i hi => by
    rw [byteAt_cut s 0 4 i (by omega) (by omega), Nat.zero_add]
  rw [← hb 0 (by omega), ← hb 1 (by omega), ← hb 2 (by omega), ← hb 3 (by omega)]
  have hsz : (s.extract 0 4).data.toList.length = 4 := by
    have := cut_size s 0 4 (by omega)
    simpa using this
  generalize s.extract 0 4 = t at *
  constructor
  · intro e; subst e; exact ⟨rfl, rfl, rfl, rfl⟩
  · rintro ⟨e0, e1, e2, e3⟩
    refine bytes_ext ?_
    unfold byteAt at e0 e1 e2 e3
    match hq : t.data.toList, hsz with
    | [a, b, c, d], _ =>
      rw [hq] at e0 e1 e2 e3
      simp only [List.getD_cons_zero, List.getD_cons_succ] at e0 e1 e2 e3
      have g : ∀ (x : UInt8) (n : Nat), ((x.toNat : Nat) : Int) = (n : Int) → n < 256 → x = UInt8.ofNat n := fun x n h hn => by
        apply UInt8.toNat_inj.1
        rw [UInt8.toNat_ofNat', Nat.mod_eq_of_lt (by omega)]
        omega
      rw [g a 83 e0 (by omega), g b 69 e1 (by omega), g c 69 e2 (by omega), g d 68 e3 (by omega)]
      rfl
theorem wl_cut (s : ByteArray) (h : 12 ≤ s.size) : ∀ k, 12 + 4 * k ≤ s.size → wl (s.extract 12 s.size) k = rl s k := fun k hk => by
  unfold wl rl
  refine List.map_congr_left fun i hi => ?_
  have := List.mem_range.1 hi
  rw [wordA_cut s 12 s.size (4 * i) (by omega) (Nat.le_refl _)]
theorem wl_two (s : ByteArray) (h : 12 ≤ s.size) : wl (s.extract 4 12) 2 = [wordA s 4, wordA s 8] := by
  show [wordA _ (4 * 0), wordA _ (4 * 1)] = _
  rw [wordA_cut s 4 12 _ (by omega) h, wordA_cut s 4 12 _ (by omega) h]

theorem imgread_c (s : ByteArray) (hs : s.size ≤ 1000000) : Contract Try.prog 38 [strv s] (fun r => r = readA s) := by
  refine Contract.of_call (VCall.of_bodyB hmix f_image_Read (by simp) ?_)
  by_cases c0 : 12 ≤ s.size
  case neg =>
    have c0' := eq_true (show (s.size : Int) < 12 by omega)
    simp only [go_sem,Nat.reduceEqDiff,Nat.reduceAdd,Nat.reduceMul,↓reduceIte,↓dreduceIte,reduceCtorEq,Nat.reduceLeDiff,Nat.reduceLT,Nat.reduceSub,Int.reduceToNat,Int.reduceLE,Int.reduceLT, c_image_Read, c0']
    exact ⟨_, frz_no, (readA_no fun h => c0 h.1).symm⟩
  have c0' := eq_false (show ¬ (s.size : Int) < 12 by omega)
  have w0 : IntKind.i64.wrap (12 + 65536) = 65548 := i64_in (by omega) (by omega)
  have hmk : (s.extract 0 4).toList = (⟨#[83, 69, 69, 68]⟩ : ByteArray).toList ↔ byteAt s 0 = 83 ∧ byteAt s 1 = 69 ∧ byteAt s 2 = 69 ∧ byteAt s 3 = 68 := by
    rw [← mark_iff s c0, Go.ByteArray.toList_eq, Go.ByteArray.toList_eq]
    exact ⟨fun h => bytes_ext h, fun h => by rw [h]⟩
  by_cases c1 : (s.extract 0 4).toList = (⟨#[83, 69, 69, 68]⟩ : ByteArray).toList
  case neg =>
    have c1' := eq_false c1
    simp only [go_sem,Nat.reduceEqDiff,Nat.reduceAdd,Nat.reduceMul,↓reduceIte,↓dreduceIte,reduceCtorEq,Nat.reduceLeDiff,Nat.reduceLT,Nat.reduceSub,Int.reduceToNat,Int.reduceLE,Int.reduceLT, c_image_Read, c0', c1']
    refine ⟨by omega, ?_⟩
    exact ⟨_, frz_no, (readA_no fun h => c1 (hmk.2 ⟨h.2.1, h.2.2.1, h.2.2.2.1, h.2.2.2.2.1⟩)).symm⟩
  have c1' := eq_true c1
  obtain ⟨m0, m1, m2, m3⟩ := hmk.1 c1
  by_cases c2 : (s.size : Int) ≤ 65548
  case neg =>
    have c2' := eq_true (show 65548 < (s.size : Int) by omega)
    simp only [go_sem,Nat.reduceEqDiff,Nat.reduceAdd,Nat.reduceMul,↓reduceIte,↓dreduceIte,reduceCtorEq,Nat.reduceLeDiff,Nat.reduceLT,Nat.reduceSub,Int.reduceToNat,Int.reduceLE,Int.reduceLT, c_image_Read, c0', c1', w0, c2']
    refine ⟨by omega, ?_⟩
    exact ⟨_, frz_no, (readA_no fun h => by
      obtain ⟨_, _, _, _, _, h1, _, h2⟩ := h
      omega).symm⟩
  have c2' := eq_false (show ¬ 65548 < (s.size : Int) by omega)
  simp only [go_sem,Nat.reduceEqDiff,Nat.reduceAdd,Nat.reduceMul,↓reduceIte,↓dreduceIte,reduceCtorEq,Nat.reduceLeDiff,Nat.reduceLT,Nat.reduceSub,Int.reduceToNat,Int.reduceLE,Int.reduceLT, c_image_Read, c0', c1', w0, c2']
  refine ⟨by omega, by omega, ?_⟩
  refine imgwords_v (s.extract 4 12) _ _ _ ?_
  simp only [go_sem,Nat.reduceEqDiff,Nat.reduceAdd,Nat.reduceMul,↓reduceIte,↓dreduceIte,reduceCtorEq,Nat.reduceLeDiff,Nat.reduceLT,Nat.reduceSub,Int.reduceToNat,Int.reduceLE,Int.reduceLT]
  have hsz := cut_size s 4 12 c0
  refine collect_v (s.extract 4 12) (by omega) _ 1 1 _ rfl _ fun m H nx hg => ?_
  rw [hsz] at hg
  obtain ⟨hg, hk⟩ := hg
  rw [show (12 - 4) / 4 = 2 from rfl, wl_two s c0] at hg
  obtain ⟨n, hn⟩ : ∃ n, wordA s 4 = n := ⟨_, rfl⟩
  obtain ⟨d, hd⟩ : ∃ d, wordA s 8 = d := ⟨_, rfl⟩
  have hn32 := hn ▸ wordA_in s 4
  have hd32 := hd ▸ wordA_in s 8
  obtain ⟨hn0, hn1⟩ := hn32
  obtain ⟨hd0, hd1⟩ := hd32
  rw [hn, hd] at hg
  rcases hg with ⟨_, hf⟩ | ⟨j, sm, rfl, hj, hjl⟩
  · cases hf
  have h0 := hk 0 _ rfl
  simp only [List.map_cons, List.map_nil, List.length_cons, List.length_nil] at hj hjl
  have e1 : IntKind.u64.wrap (s.size : Int) = s.size := by rw [IntKind.wrap_u64]; omega
  have e2 : IntKind.u64.wrap 12 = 12 := rfl
  have e3 : IntKind.u64.wrap n = n := by rw [IntKind.wrap_u64]; omega
  have e4 : IntKind.u64.wrap (4 * n) = 4 * n := by rw [IntKind.wrap_u64]; omega
  have e5 : IntKind.u64.wrap (12 + 4 * n) = 12 + 4 * n := by rw [IntKind.wrap_u64]; omega
  have e6 : IntKind.i64.wrap d = d := i64_in (by omega) (by omega)
  have h0l := (List.getElem?_eq_some_iff.1 h0).1
  have hget0 : ∀ x, (H.set 0 x)[0]? = some x := fun x => by rw [List.getElem?_set, if_pos rfl, if_pos h0l]
  by_cases c6 : d ≤ 32768
  case neg =>
    have c6' := eq_true (show 32768 < d by omega)
    simp only [go_sem,Nat.reduceEqDiff,Nat.reduceAdd,Nat.reduceMul,↓reduceIte,↓dreduceIte,reduceCtorEq,Nat.reduceLeDiff,Nat.reduceLT,Nat.reduceSub,Int.reduceToNat,Int.reduceLE,Int.reduceLT, hj, h0, c6', hget0]
    exact ⟨_, frz_no, (readA_no fun h => c6 (hd ▸ h.2.2.2.2.2.2.1)).symm⟩
  have c6' := eq_false (show ¬ 32768 < d by omega)
  by_cases c7 : (s.size : Int) = 12 + 4 * n
  case neg =>
    have c7' := eq_false c7
    simp only [go_sem,Nat.reduceEqDiff,Nat.reduceAdd,Nat.reduceMul,↓reduceIte,↓dreduceIte,reduceCtorEq,Nat.reduceLeDiff,Nat.reduceLT,Nat.reduceSub,Int.reduceToNat,Int.reduceLE,Int.reduceLT, hj, h0, c6', e1, e2, e3, e4, e5, c7', hget0]
    exact ⟨_, frz_no, (readA_no fun h => c7 (hn ▸ h.2.2.2.2.2.2.2)).symm⟩
  have c7' := eq_true c7
  have g2 : ∀ a b : VObj, ((H ++ [a]) ++ [b])[H.length + 1]? = some b := fun a b => by rw [List.getElem?_append_right (by simp)]; simp
  have s2 : ∀ a b c : VObj, ((H ++ [a]) ++ [b]).set (H.length + 1) c = (H ++ [a]) ++ [c] := fun a b c => by
    rw [List.set_append_right _ _ (by simp)]; simp
  simp only [go_sem,Nat.reduceEqDiff,Nat.reduceAdd,Nat.reduceMul,↓reduceIte,↓dreduceIte,reduceCtorEq,Nat.reduceLeDiff,Nat.reduceLT,Nat.reduceSub,Int.reduceToNat,Int.reduceLE,Int.reduceLT, hj, h0, c6', e1, e2, e3, e4, e5, c7', onx, g2, s2]
  refine ⟨by omega, by omega, by omega, by omega, by omega, ?_⟩
  refine imgwords_v (s.extract 12 s.size) _ _ _ ?_
  simp only [go_sem,Nat.reduceEqDiff,Nat.reduceAdd,Nat.reduceMul,↓reduceIte,↓dreduceIte,reduceCtorEq,Nat.reduceLeDiff,Nat.reduceLT,Nat.reduceSub,Int.reduceToNat,Int.reduceLE,Int.reduceLT]
  simp only [List.replicate_zero, List.flatten_nil, onx]
  have hjH := (List.getElem?_eq_some_iff.1 hj).1
  obtain ⟨J, hJ⟩ : ∃ J : List VObj, H ++ [⟨nx, 34, 1, []⟩] ++ [⟨nx + 1, 22, 1, [.ref H.length nx 0 0]⟩] ++ [⟨nx + 1 + 1, 9, 1, [strv (s.extract 12 s.size)]⟩] = J := ⟨_, rfl⟩
  have hJl : J.length = H.length + 3 := by rw [← hJ]; simp
  have hJH : ∀ (i : Nat) (ob : VObj), H[i]? = some ob → J[i]? = some ob := fun i ob hi => by
    have := (List.getElem?_eq_some_iff.1 hi).1
    rw [← hJ, List.getElem?_append_left (by simp; omega), List.getElem?_append_left (by simp; omega), List.getElem?_append_left (by omega)]; exact hi
  have hJ0 : J[H.length]? = some ⟨nx, 34, 1, []⟩ := by
    rw [← hJ, List.getElem?_append_left (by simp), List.getElem?_append_left (by simp), List.getElem?_append_right (by omega)]; simp
  have hJ1 : J[H.length + 1]? = some ⟨nx + 1, 22, 1, [.ref H.length nx 0 0]⟩ := by
    rw [← hJ, List.getElem?_append_left (by simp), List.getElem?_append_right (by simp)]; simp
  have hJ2 : J[H.length + 1 + 1]? = some ⟨nx + 1 + 1, 9, 1, [strv (s.extract 12 s.size)]⟩ := by
    rw [← hJ, List.getElem?_append_right (by simp)]; simp
  simp only [hJ]
  intro R Bo E hz hY
  simp only [hJl] at hY ⊢
  have hJR : ∀ (i : Nat) (ob : VObj), J[i]? = some ob → (J ++ [R])[i]? = some ob := fun i ob hi => by
    rw [List.getElem?_append_left (List.getElem?_eq_some_iff.1 hi).1]; exact hi
  have hg0 : (J ++ [R])[H.length + 3]? = some R := by
    rw [← hJl, List.getElem?_append_right (by omega)]; simp
  have hlJR : (J ++ [R]).length = H.length + 4 := by simp; omega
  have hyes : readA s = .tup [imgA (rl s n.toNat) d, I 0] := by
    unfold readA
    rw [if_pos (okR_iff.2 ⟨c0, m0, m1, m2, m3, by omega, hd ▸ c6, hn ▸ c7⟩), hn, hd]
  have hcs := cut_size s 12 s.size (Nat.le_refl _)
  have hq : (s.extract 12 s.size).size / 4 = n.toNat := by rw [hcs]; omega
  refine words_v (s.extract 12 s.size) (by omega) _ _ (H.length + 1 + 1) _ _ _ (fun k H' nx' => AppI 22 [] (J ++ [R]) (H.length + 1) (nx + 1) H.length (rl s k) H') _ ?_ (fun k H' nx' h => h.keep _ _ (by omega) (by omega) (hJR _ _ hJ2)) (fun k H' nx' C' hk' h hC' => ?_) fun r H' nx' h => ?_
  · refine ⟨⟨.ref H.length nx 0 0, hJR _ _ hJ1, .inr ⟨H.length, nx, rfl, hJR _ _ hJ0, by omega, .inl rfl⟩⟩, fun _ _ _ _ h => h, Nat.le_refl _, by omega⟩
  · rw [hq] at hk'
    rw [wordA_cut s 12 s.size (4 * k) (by omega) (Nat.le_refl _)]
    have hr : H'[H.length + 3]? = some R := h.keep _ _ (by omega) (by omega) hg0
    refine hY _ _ _ _ hr rfl ?_
    have h' := h.set (r := H.length + 3) (by omega) (by omega) (by omega) Bo
    have hlt := (List.getElem?_eq_some_iff.1 hr).1
    have fin : ∀ H2, AppI 22 [] ((J ++ [R]).set (H.length + 3) Bo) (H.length + 1) (nx + 1) H.length (rl s (k + 1)) H2 → H2[H.length + 3]? = some Bo ∧ AppI 22 [] (J ++ [R]) (H.length + 1) (nx + 1) H.length (rl s (k + 1)) (H2.set (H.length + 3) R) := fun H2 h2 => by
      refine ⟨h2.keep _ _ (by omega) (by omega) (by rw [List.getElem?_set, if_pos rfl, if_pos (by omega)]), ?_⟩
      have := h2.set (r := H.length + 3) (by omega) (by omega) (by simp; omega) R
      rw [List.set_set, set_of_get hg0] at this
      exact this
    clear hY
    generalize H'.set (H.length + 3) Bo = H1 at *
    obtain ⟨m, hm, hj⟩ := h'.cell
    have hl := h'.len
    have hlk := rl_length s k
    simp only [List.length_set, hlJR] at hl
    have hmx : (2000000000 : Nat) ≤ maxLen := by decide
    have glast : ∀ (L : List VObj) (x : VObj), (L ++ [x])[L.length]? = some x := fun L x => by simp
    have hm1 : ∀ x, (H1 ++ [x])[H.length + 1]? = some ⟨nx + 1, 22, 1, [m]⟩ := fun x => by rw [List.getElem?_append_left (by omega)]; exact hm
    rcases hj with ⟨rfl, hw⟩ | ⟨j, sm, rfl, hj, n1, n2⟩
    · have hm2 : ∀ x y, ((H1 ++ [x]) ++ [y])[H.length + 1]? = some ⟨nx + 1, 22, 1, [nilv]⟩ := fun x y => by rw [List.getElem?_append_left (by simp; omega)]; exact hm1 x
      simp only [go_sem,Nat.reduceEqDiff,Nat.reduceAdd,Nat.reduceMul,↓reduceIte,↓dreduceIte,reduceCtorEq,Nat.reduceLeDiff,Nat.reduceLT,Nat.reduceSub,Int.reduceToNat,Int.reduceLE,Int.reduceLT, hm, hm1, hm2, glast, onx, List.zip_cons_cons, List.zip_nil_right]
      rw [hw] at h'
      have hf := h'.first (sm := nx' + 1) (wordA s (12 + 4 * k)) ⟨nx', 34, 1, [U32 (wordA s (12 + 4 * k))]⟩
      rw [show [wordA s (12 + 4 * k)] = rl s (k + 1) by rw [rl_succ, hw]; rfl] at hf
      obtain ⟨f1, f2⟩ := fin _ hf
      exact ⟨by omega, f1, hC' _ _ f2⟩
    · have hjl := (List.getElem?_eq_some_iff.1 hj).1
      have hj1 : ∀ x, (H1 ++ [x])[j]? = some ⟨sm, 34, 1, (rl s k).map U32⟩ := fun x => by rw [List.getElem?_append_left hjl]; exact hj
      have hm3 : ∀ x y, ((H1 ++ [x]).set j y)[H.length + 1]? = some ⟨nx + 1, 22, 1, [.ref j sm 0 (rl s k).length]⟩ := fun x y => by rw [List.getElem?_set, if_neg n1]; exact hm1 x
      have htk : ((rl s k).map U32).take (rl s k).length = (rl s k).map U32 := List.take_of_length_le (by simp)
      simp only [go_sem,Nat.reduceEqDiff,Nat.reduceAdd,Nat.reduceMul,↓reduceIte,↓dreduceIte,reduceCtorEq,Nat.reduceLeDiff,Nat.reduceLT,Nat.reduceSub,Int.reduceToNat,Int.reduceLE,Int.reduceLT, hm, hm1, hm3, hj1, glast, onx, List.zip_cons_cons, List.zip_nil_right, htk]
      have hf := h'.more (sn := nx' + 1) hj n1 n2 (wordA s (12 + 4 * k)) ⟨nx', 34, 1, [U32 (wordA s (12 + 4 * k))]⟩
      rw [List.map_append, ← rl_succ] at hf
      obtain ⟨f1, f2⟩ := fin _ hf
      exact ⟨by omega, by omega, f1, hC' _ _ f2⟩
  · rw [hq] at h
    have hr : H'[H.length + 3]? = some R := h.keep _ _ (by omega) (by omega) hg0
    refine ⟨hr, ?_⟩
    have h' := h.set (r := H.length + 3) (by omega) (by omega) (by omega) E
    have hkp : ∀ (i : Nat) (ob : VObj), H[i]? = some ob → (H'.set (H.length + 3) E)[i]? = some ob := fun i ob hi => by
      have := (List.getElem?_eq_some_iff.1 hi).1
      refine h'.keep i ob (by omega) (by omega) ?_
      rw [List.getElem?_set, if_neg (by omega)]
      exact hJR _ _ (hJH _ _ hi)
    have hl := h'.len
    clear hY
    obtain ⟨m, hm, hj'⟩ := h'.cell
    simp only [List.length_set, hlJR] at hl
    have k0 := hkp _ _ h0
    have kj := hkp _ _ hj
    generalize H'.set (H.length + 3) E = H1 at *
    have hl1 : 0 < H1.length := (List.getElem?_eq_some_iff.1 k0).1
    have hget1 : ∀ x, (H1.set 0 x)[0]? = some x := fun x => by rw [List.getElem?_set, if_pos rfl, if_pos hl1]
    rcases hj' with ⟨rfl, hw⟩ | ⟨i, sm', rfl, hi, n1, n2⟩
    · simp only [go_sem,Nat.reduceEqDiff,Nat.reduceAdd,Nat.reduceMul,↓reduceIte,↓dreduceIte,reduceCtorEq,Nat.reduceLeDiff,Nat.reduceLT,Nat.reduceSub,Int.reduceToNat,Int.reduceLE,Int.reduceLT, hm, k0, kj, e6, hget1]
      refine ⟨_, Frz.tup ⟨_, _, rfl, Frz.agg ⟨_, _, rfl, Frz.nil 1, _, _, rfl, Frz.pure rfl, rfl⟩, _, _, rfl, Frz.pure rfl, rfl⟩, ?_⟩
      rw [hyes, hw]; rfl
    · simp only [go_sem,Nat.reduceEqDiff,Nat.reduceAdd,Nat.reduceMul,↓reduceIte,↓dreduceIte,reduceCtorEq,Nat.reduceLeDiff,Nat.reduceLT,Nat.reduceSub,Int.reduceToNat,Int.reduceLE,Int.reduceLT, hm, k0, kj, e6, hget1]
      simp only [List.length_set, hlJR] at n2
      have hi0 : i ≠ 0 := by omega
      refine ⟨_, Frz.tup ⟨_, _, rfl, Frz.agg ⟨_, _, rfl, frz_map (f := U32) (g := U32) (l := rl s n.toNat) (Nat.zero_le _) (by rw [List.getElem?_set, if_neg (by omega)]; exact hi) rfl (fun _ => rfl) (fun _ _ => Frz.pure rfl), _, _, rfl, Frz.pure rfl, rfl⟩, _, _, rfl, Frz.pure rfl, rfl⟩, ?_⟩
      rw [hyes]

def bytesA (s inp : ByteArray) (fuel : Int) : AV := if okR s = true then .tup [runA (rl s (wordA s 4).toNat) (wordA s 8) inp fuel, I 0] else .tup [resA 0 ⟨#[]⟩ 0, I 7]
theorem rl_in (s : ByteArray) (k : Nat) : ∀ x ∈ rl s k, In32 x := fun x hx => by
  obtain ⟨i, _, rfl⟩ := List.mem_map.1 hx
  exact wordA_in _ _

theorem bytes_c (s inp : ByteArray) (fuel : Int) (hs : s.size ≤ 1000000) (hi : inp.size ≤ 1000000000) (hf : fuel ≤ 900000) : Contract Try.prog 26 [strv s, strv inp, I fuel] (fun r => r = bytesA s inp fuel) := by
  refine Contract.of_call (VCall.of_body hmix f_exec_Bytes (by simp) ?_)
  simp only [go_sem,Nat.reduceEqDiff,Nat.reduceAdd,Nat.reduceMul,↓reduceIte,↓dreduceIte,reduceCtorEq,Nat.reduceLeDiff,Nat.reduceLT,Nat.reduceSub,Int.reduceToNat,Int.reduceLE,Int.reduceLT, c_exec_Bytes, one_imm]
  refine VCall.of_contract (imgread_c s hs) (SleL.pure rfl) fun x hx => ?_
  subst hx
  unfold readA bytesA
  cases h : okR s
  · simp only [go_sem,Nat.reduceEqDiff,Nat.reduceAdd,Nat.reduceMul,↓reduceIte,↓dreduceIte,reduceCtorEq,Nat.reduceLeDiff,Nat.reduceLT,Nat.reduceSub,Int.reduceToNat,Int.reduceLE,Int.reduceLT, one_imm, Bool.false_eq_true, if_false, Int.reduceEq, Int.reduceBEq]
    exact ⟨_, Frz.pure rfl, rfl⟩
  · obtain ⟨_, _, _, _, _, h1, _, h2⟩ := okR_iff.1 h
    have hl := rl_length s (wordA s 4).toNat
    have hn := (wordA_in s 4).1
    simp only [go_sem,Nat.reduceEqDiff,Nat.reduceAdd,Nat.reduceMul,↓reduceIte,↓dreduceIte,reduceCtorEq,Nat.reduceLeDiff,Nat.reduceLT,Nat.reduceSub,Int.reduceToNat,Int.reduceLE,Int.reduceLT, one_imm, if_true]
    refine VCall.of_contract (run_c (rl s (wordA s 4).toNat) (wordA s 8) inp fuel (rl_in s _) (by omega) hi hf) (SleL.pure rfl) fun x hx => ?_
    subst hx
    simp only [go_sem,Nat.reduceEqDiff,Nat.reduceAdd,Nat.reduceMul,↓reduceIte,↓dreduceIte,reduceCtorEq,Nat.reduceLeDiff,Nat.reduceLT,Nat.reduceSub,Int.reduceToNat,Int.reduceLE,Int.reduceLT, one_imm]
    exact ⟨_, Frz.pure rfl, rfl⟩
end Go.Proofs.Ytjoldjcfabbekaa
