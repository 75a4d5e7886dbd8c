/-
  The search in memory: 'grow': contract. No condition.
-/
import Derived.Test.YtjdeediehmhdoaaBG
namespace Go.Proofs.Ytjdeediehmhdoaa
set_option linter.unusedSimpArgs false
set_option linter.unusedVariables false
set_option maxRecDepth 10000
open Go.V

theorem set_of_get {α : Type} {l : List α} {i : Nat} {x : α} (h : l[i]? = some x) : l.set i x = l := by
  obtain ⟨hlt, rfl⟩ := List.getElem?_eq_some_iff.1 h
  exact List.set_getElem_self hlt
theorem set_get {H : List VObj} {k : Nat} {a x : VObj} (h : H[k]? = some a) : (H.set k x)[k]? = some x := by
  rw [List.getElem?_set_self (List.getElem?_eq_some_iff.1 h).1]
theorem set_ne {H : List VObj} {k j : Nat} {x : VObj} (h : k ≠ j) : (H.set k x)[j]? = H[j]? := by rw [List.getElem?_set_ne h]
theorem range_get {n b : Nat} (h : b < n) : (List.range n).getD b default = b := by simp [List.getD, h]

theorem cellT_rows {n r b : Nat} {g : Nat → Nat × Nat} {C : AV → Prop} : cellT (rowsL n r g) b false 1 C .mk = (b < n ∧ C (.ref (g b).1 (g b).2 0 (rl r))) := by
  rw [cellT_map (fun _ => rfl)]
  apply propext
  rw [List.length_range]
  refine ⟨fun ⟨h1, h2⟩ => ⟨h1, ?_⟩, fun ⟨h1, h2⟩ => ⟨h1, ?_⟩⟩
  · rw [range_get h1] at h2; exact h2
  · rw [range_get h1]; exact h2
theorem cellT_imm {l : List Bk} {g : Bk → List AV} {b : Nat} {C : AV → Prop} : cellT (l.map fun k => AV.imm 1 (g k)) b false 1 C .mk = (b < l.length ∧ C (.imm 1 (g (l.getD b default)))) := cellT_map fun _ => rfl
section
variable {f : BF} {H : List VObj} {q : Ids} {wv : AV} {σ : SV}
theorem WtV.keep {n : Nat} {pi : Nat → Nat × Nat} {H H' : List VObj} {wv : AV} {wt : List Nat} {ts : List Nat} (h : WtV n pi H wv wt) (k : KeepT ts H H') (ht : 3 ∉ ts) : WtV n pi H' wv wt := by
  rcases h with h | ⟨i, s, rest, h1, h2, h3⟩
  · exact .inl h
  · exact .inr ⟨i, s, rest, h1, k _ _ h2 ht, h3⟩
theorem HS.setO (h : HS f H q wv σ) (hs : SizedP f σ.L) {b : Nat} (hb : b < f.n) (l : List Bool) : HS f (H.set (q.ro b).1 ⟨(q.ro b).2, 88, 1, rowC64 l⟩) q wv ⟨σ.I, σ.O.set b l, σ.wt⟩ := by
  have k : KeepT [88] H (H.set (q.ro b).1 ⟨(q.ro b).2, 88, 1, rowC64 l⟩) := KeepT.set (h.ro b hb) (by simp)
  have hO : b < σ.O.length := by rw [show σ.O.length = f.n from hs.o]; exact hb
  refine ⟨k _ _ h.so (by simp), k _ _ h.li (by simp), k _ _ h.lo (by simp), fun c hc => ?_, fun c hc => ?_, k _ _ h.w (by simp), h.wt.keep k (by simp), k _ _ h.la (by simp), k _ _ h.lr (by simp), k _ _ h.lt (by simp), fun c hc => k _ _ (h.pr c hc) (by simp), h.dI, h.dO, h.dIO⟩
  · rw [set_ne (fun e => h.dIO c hc b hb e.symm)]; exact h.ri c hc
  · show _ = some (VObj.mk _ _ _ (rowC64 ((σ.O.set b l).getD c [])))
    rw [row_set hO]
    by_cases e : b = c
    · subst e; rw [if_pos rfl]; exact set_get (h.ro b hb)
    · rw [if_neg e, set_ne (fun g => e (h.dO b hb c hc g))]; exact h.ro c hc
theorem HS.setI (h : HS f H q wv σ) (hs : SizedP f σ.L) {b : Nat} (hb : b < f.n) (l : List Bool) : HS f (H.set (q.ri b).1 ⟨(q.ri b).2, 88, 1, rowC64 l⟩) q wv ⟨σ.I.set b l, σ.O, σ.wt⟩ := by
  have k : KeepT [88] H (H.set (q.ri b).1 ⟨(q.ri b).2, 88, 1, rowC64 l⟩) := KeepT.set (h.ri b hb) (by simp)
  have hI : b < σ.I.length := by rw [show σ.I.length = f.n from hs.i]; exact hb
  refine ⟨k _ _ h.so (by simp), k _ _ h.li (by simp), k _ _ h.lo (by simp), fun c hc => ?_, fun c hc => ?_, k _ _ h.w (by simp), h.wt.keep k (by simp), k _ _ h.la (by simp), k _ _ h.lr (by simp), k _ _ h.lt (by simp), fun c hc => k _ _ (h.pr c hc) (by simp), h.dI, h.dO, h.dIO⟩
  · show _ = some (VObj.mk _ _ _ (rowC64 ((σ.I.set b l).getD c [])))
    rw [row_set hI]
    by_cases e : b = c
    · subst e; rw [if_pos rfl]; exact set_get (h.ri b hb)
    · rw [if_neg e, set_ne (fun g => e (h.dI b hb c hc g))]; exact h.ri c hc
  · rw [set_ne (fun e => h.dIO b hb c hc e)]; exact h.ro c hc

theorem gath_take (I : List (List Bool)) (o : List Bool) (ks : List Int) {j : Nat} (hj : j < ks.length) : gath I o (ks.take (j + 1)) = orL (gath I o (ks.take j)) (I.getD (ks.getD j default).toNat default) := by
  have e : ks.take (j + 1) = ks.take j ++ [ks.getD j default] := by rw [List.take_add_one]; simp [List.getD, List.getElem?_eq_getElem hj]
  rw [e]; simp [gath]
theorem orw64 {a b : List Bool} (hl : a.length = b.length) (ha : a.length ≤ 64) : IntKind.u64.wrap ((BitVec.ofInt IntKind.u64.bits (wd a : Int) ||| BitVec.ofInt IntKind.u64.bits (wd b : Int)).toNat : Nat) = ((wd (orL a b) : Nat) : Int) := by
  rw [← wd_or hl]; exact or64 (wd_lt64 ha) (wd_lt64 (by omega))
theorem subw64 {a b : List Bool} (ha : a.length ≤ 64) (hb : b.length ≤ 64) : IntKind.u64.wrap ((BitVec.ofInt IntKind.u64.bits (wd a : Int) &&& ~~~BitVec.ofInt IntKind.u64.bits (wd b : Int)).toNat : Nat) = ((wd (subL a b) : Nat) : Int) := andNot64 ha hb
theorem or_sub (rd out st : List Bool) (hl : rd.length = out.length) : orL rd (subL out st) = wayL rd out st := gB_ext (by simp [orL, wayL, hl]) fun v hv => by
  rw [orL_len] at hv
  rw [gB_or _ _ hv, gB_way _ _ _ (by omega), gB_sub _ _ (by omega)]

theorem grow_v (hf : Fine f) (h : HS f H q wv σ) (hs : SizedP f σ.L) (hr : f.r ≤ 64) (nx b : Nat) (hb : b < f.n) (C : AV → List VObj → Nat → Prop)
    (hC : ∀ H', HS f H' q wv (growS f σ b) → KeepT [88] H H' → C (B (moreS f σ b)) H' nx) : VCall Try.prog 31 [.ptr q.kS q.sS 0, I b] H nx C := by
  refine VCall.of_body hmix f_live_solver_grow (by simp) ?_
  have hso := h.so
  have hlo := h.lo
  have hli := h.li
  have hob := h.ro b hb
  have hib := h.ri b hb
  have hbn : b < f.bks.length := hb
  have hbk : f.bks.getD b default = f.bk b := rfl
  have hrg := range_get hb
  have e1 := ty_ne hob hso (by simp)
  have e2 := ty_ne hob hlo (by simp)
  have e3 := ty_ne hob hli (by simp)
  have e4 : ((q.ro b).1 = (q.ri b).1) = False := eq_false fun e => h.dIO b hb b hb e.symm
  have l1 := lt_of hob
  have l2 := lt_of hib
  have hol : (σ.O.getD b []).length = f.r := hs.ol hb
  have hil : (σ.I.getD b []).length = f.r := hs.il hb
  have hto := hf.to _ (BF.mem hb)
  have hnl := nxt_len (f.bk b)
  have hlen : (f.bks.map fun b => ints (nxt b)).length = f.n := by simp [BF.n]
  simp only [go_sem,Nat.reduceEqDiff,Nat.reduceAdd,Nat.reduceMul,↓reduceIte,↓dreduceIte,reduceCtorEq,Nat.reduceLeDiff,Nat.reduceLT,Nat.reduceSub,Int.reduceToNat,Int.reduceLE,Int.reduceLT, c_live_solver_grow, hso, hlo, one_imm, one_ref, cellT_rows, hrg, List.length_map, List.length_range, hbk]
  repeat ((with_reducible refine And.intro ?_ ?_); · omega)
  refine VW_loop (fun j : Nat => ⟨[(0, .ptr q.kS q.sS 0), (1, I b), (5, .ref (q.ro b).1 (q.ro b).2 0 (rl f.r)), (6, B false), (26, ints (nxt (f.bk b))), (27, I (nxt (f.bk b)).length), (28, I j)],
      H.set (q.ro b).1 ⟨(q.ro b).2, 88, 1, rowC64 (gath σ.I (σ.O.getD b []) ((nxt (f.bk b)).take j))⟩, nx⟩) (fun j => j ≤ (nxt (f.bk b)).length) (fun j => (nxt (f.bk b)).length - j) 0
    (Wk.mk (by simp [get_cons]) ⟨[], by rw [List.append_nil]; exact (set_of_get hob).symm⟩ (Nat.le_refl _)) (by omega) ?_
  intro j hj
  by_cases hlt : j < (nxt (f.bk b)).length
  · have hk := hto _ (mem_getD hlt)
    have hgt := gath_take σ.I (σ.O.getD b []) _ hlt
    have hgl := gath_len σ.I ((nxt (f.bk b)).take j) (σ.O.getD b [])
    generalize hkk : (nxt (f.bk b)).getD j default = k at hk hgt ⊢
    have hkn : k.toNat < f.n := by unfold BF.n; omega
    have hik := h.ri k.toNat hkn
    have hkl : (σ.I.getD k.toNat []).length = f.r := hs.il hkn
    have hrk := range_get hkn
    have e5 : ((q.ro b).1 = (q.ri k.toNat).1) = False := eq_false fun e => h.dIO _ hkn b hb e.symm
    generalize hx : gath σ.I (σ.O.getD b []) ((nxt (f.bk b)).take j) = x at hgt hgl ⊢
    rw [hol] at hgl
    simp only [go_sem,Nat.reduceEqDiff,Nat.reduceAdd,Nat.reduceMul,↓reduceIte,↓dreduceIte,reduceCtorEq,Nat.reduceLeDiff,Nat.reduceLT,Nat.reduceSub,Int.reduceToNat,Int.reduceLE,Int.reduceLT, hso, hlo, hli, hik, one_imm, one_ref, cellT_rows, hrk, List.length_map, List.length_range, hbk, hkk, eq_true (show (j : Int) < (nxt (f.bk b)).length by omega), List.getElem?_set, e1, e2, e3, e4, e5, l1]
    repeat ((with_reducible refine And.intro ?_ ?_); · omega)
    have hyl := hkl
    generalize hy : σ.I.getD k.toNat [] = y at hik hyl hkl
    have hgt' : gath σ.I (σ.O.getD b []) ((nxt (f.bk b)).take (j + 1)) = orL x y := by rw [hgt]; exact congrArg _ hy
    have hr1 : rl f.r ≤ 1 := by unfold rl; split <;> omega
    refine VW_loop (fun i : Nat => ⟨[(0, .ptr q.kS q.sS 0), (1, I b), (5, .ref (q.ro b).1 (q.ro b).2 0 (rl f.r)), (6, B false), (26, ints (nxt (f.bk b))), (27, I (nxt (f.bk b)).length), (28, I j), (38, .ref (q.ri k.toNat).1 (q.ri k.toNat).2 0 (rl f.r)), (39, I (rl f.r)), (40, I i)],
        H.set (q.ro b).1 ⟨(q.ro b).2, 88, 1, rowC64 (if i = 0 then x else orL x y)⟩, nx⟩) (fun i => i ≤ rl f.r) (fun i => rl f.r - i) 0
      (Wk.mk (by simp [get_cons]) ⟨[], by simp⟩ (Nat.le_refl _)) (by omega) ?_
    intro i hi
    by_cases h1 : i < rl f.r
    · have h0 : f.r ≠ 0 := fun e => by unfold rl at h1; rw [if_pos e] at h1; omega
      have hi0 : i = 0 := by omega
      subst hi0
      have e6 := orw64 (a := x) (b := y) (by omega) (by omega)
      have e7 : rowC64 x = [U64 (wd x)] := rowC64_pos (by omega)
      have e8 : rowC64 y = [U64 (wd y)] := rowC64_pos (by omega)
      have e9 : rowC64 (orL x y) = [U64 (wd (orL x y))] := rowC64_pos (by rw [orL_len]; omega)
      rw [if_pos rfl, e7]
      rw [e8] at hik
      simp only [↓VW_skip,↓VW_ops,↓VW_par,↓VW_park,↓VW_seq,↓VW_block,↓VW_exit,↓VW_ret,↓VW_cond,↓litE_tmp,↓litE_const,↓seq_normal,↓seq_exit,↓seq_ret,↓blk_normal,↓blk_exit,↓blk_ret,↓get_nil,↓get_cons,↓put_some,↓put_none,↓put_some',↓put_none',↓VTrL_done,↓VTrL_one,↓VTrL_if,↓VTrL_both,↓wpD_eq,↓wpE_call,↓wpE_callA,↓wpE_mv,↓wpE_pick,↓wpE_ld,↓wpE_sto,↓wpE_idx,↓wpE_aidx,↓wpE_fad,↓wpE_fld,↓wpE_len,↓wpE_lens,↓wpE_bin,↓wpE_beq,↓wpE_un,↓wpE_conv,↓wpE_sl,↓wpE_sls,↓wpE_mk,↓wpE_app,↓wpE_bsl,↓wpE_bld,↓wpE_box,↓wpE_alc,↓wpE_mkf,↓wpE_nck,↓wpE_ext,↓wpE_pur,↓wpE_see,↓wpE_eff,↓wpE_ycal,undef,K.xtra,EOp.adds,argEnv,↓retQ,↓retW,↓VR.wp,↓VRs,binOK,binR,unOK,unR,ldOK,stoOK,putA,partA,partOK,fillA,fillOK,partsOf,evs,boundOf,AV.cells,AV.one,AV.laid,Value.oneCell',Nat.reduceEqDiff,Nat.reduceAdd,Nat.reduceMul,↓reduceIte,↓dreduceIte,true_and,and_true,List.cons_append,List.nil_append,List.length_map,List.length_cons,List.length_nil,List.getElem?_cons_zero,List.getElem?_cons_succ,List.map_cons,List.map_nil,Bool.not_true,Bool.not_false,forall_const,reduceCtorEq,false_implies,List.all_cons,List.all_nil,Bool.and_true,Bool.and_self,↓idxT_map,↓idxT_cons,↓cellT_I,↓cellT_B,↓cellT_map,↓cellT_cons,decide_eq_true_eq,decide_eq_false_iff_not,Int.toNat_natCast,bne_iff_ne,ne_eq,Bool.not_eq_true',Bool.not_eq_false',bne_eq_false_iff_eq,beq_iff_eq,beq_eq_false_iff_ne,implies_true,List.getD_cons_zero,List.getD_cons_succ,Bool.false_eq_true,false_or,or_false,true_or,or_true,Int.natCast_nonneg,Int.toNat_zero,Int.toNat_one,List.set_cons_zero,List.set_cons_succ,List.take_zero,List.take_succ_cons,List.take_nil,List.drop_zero,List.drop_succ_cons,List.drop_nil,List.append_nil,Nat.zero_add,Nat.add_zero,Nat.mul_one,Nat.zero_mul,↓wp_mv,↓wp_pick,↓wp_ld,↓wp_sto,↓wp_idx,↓wp_aidx,↓wp_fad,↓wp_fld,↓wp_len,↓wp_lens,↓wp_bin,↓wp_beq,↓wp_un,↓wp_conv,↓wp_sl,↓wp_sls,↓wp_mk,↓wp_app,↓wp_bsl,↓wp_bld,↓wp_box,↓wp_alc,↓wp_mkf,↓wp_nck,↓wp_ext,↓wp_call,↓wp_callA,↓VOps_nil,↓VOps_go,↓VOps_if,↓evF_tmp,↓evF_const,↓evF_func,cv_int,cv_bool,cv_slice,cv_string,cv,Nat.reduceLeDiff,Nat.reduceLT,Nat.le_refl,Nat.reduceSub,Int.reduceToNat,Int.reduceLE,Int.reduceLT,not_true_eq_false,not_false_eq_true,decide_true,decide_false,Bool.true_eq_false,↓imp_tt,↓imp_ft,↓imp_tf,↓imp_ff,↓imp_tnt,↓imp_fnt,↓imp_tnf,↓imp_fnf,addedOK,addedN,addedCells,oldA,Old,oldL,↓VW_range,↓wp_ycal,↓wp_six,↓wp_ixv,↓wp_eqv,↓wp_mx,↓wp_mn,↓wp_nilq,↓wp_nils,↓wp_b2s,↓wp_look,↓wp_mlen,↓wp_cpy,↓wp_clr,↓wp_s2b,↓wp_mkm,↓wp_upd,↓eqT_nil,↓eqT_int,↓eqT_bool,↓eqT_str,↓b2sT_U8,↓b2sT_nil,↓lookT_nil,↓lookT_cons,cv_agg,cv_nilFunc,mapOK_nil,mapOK_cons,updA_nil,iteP,Bool.not_eq_true,Bool.not_eq_false,Classical.not_not, hik, one_imm, one_ref, rl_pos h0, Int.natCast_zero, Nat.cast_one', List.getElem?_set, e1, e2, e3, e4, e5, l1, e6]
      repeat ((with_reducible refine And.intro ?_ ?_); · first | omega | decide)
      refine ⟨1, by omega, by omega, Wk.mk (by simp [get_cons, rl_pos h0]; decide) ⟨[], by simp [List.set_set, e9]⟩ (Nat.le_refl _)⟩
    · obtain rfl : i = rl f.r := by omega
      simp only [go_sem,Nat.reduceEqDiff,Nat.reduceAdd,Nat.reduceMul,↓reduceIte,↓dreduceIte,reduceCtorEq,Nat.reduceLeDiff,Nat.reduceLT,Nat.reduceSub,Int.reduceToNat,Int.reduceLE,Int.reduceLT, one_imm, one_ref, eq_false (show ¬ (rl f.r : Int) < rl f.r by omega)]
      rw [i64_in (by omega) (by omega)]
      refine ⟨j + 1, by omega, by omega, Wk.mk (by simp [get_cons]) ⟨[], ?_⟩ (Nat.le_refl _)⟩
      rw [hgt', List.append_nil]
      by_cases h0 : f.r = 0
      · have e7 : rowC64 x = [] := if_pos (by omega)
        have e9 : rowC64 (orL x y) = [] := if_pos (by rw [orL_len]; omega)
        split
        · rw [e7, e9]
        · rfl
      · rw [if_neg (by rw [rl_pos h0]; decide)]
  · obtain rfl : j = (nxt (f.bk b)).length := by omega
    rw [List.take_of_length_le (Nat.le_refl _)]
    have hS1 := h.setO hs hb (newO f σ.I σ.O b)
    have hnl' := newO_len hf hs hb
    have hwl := way_ahead hf hb _ hnl'
    have hro : readL (f.bk b) f.r = readL (f.bk b) f.r := rfl
    have hgr : gath σ.I (σ.O.getD b []) (nxt (f.bk b)) = newO f σ.I σ.O b := rfl
    rw [hgr]
    have hob1 := set_get (x := ⟨(q.ro b).2, 88, 1, rowC64 (newO f σ.I σ.O b)⟩) hob
    have kp1 : KeepT [88] H (H.set (q.ro b).1 ⟨(q.ro b).2, 88, 1, rowC64 (newO f σ.I σ.O b)⟩) := KeepT.set hob (by simp)
    generalize H.set (q.ro b).1 ⟨(q.ro b).2, 88, 1, rowC64 (newO f σ.I σ.O b)⟩ = H1 at hS1 hob1 kp1 ⊢
    have hsz1 : SizedP f (SV.L ⟨σ.I, σ.O.set b (newO f σ.I σ.O b), σ.wt⟩) := hs.setO hnl'
    have hS2 := hS1.setI hsz1 hb (grown f σ b)
    have hso1 := hS1.so
    have hlr1 := hS1.lr
    have hlt1 := hS1.lt
    have hli1 := hS1.li
    have hib1 : H1[(q.ri b).1]? = some ⟨(q.ri b).2, 88, 1, rowC64 (σ.I.getD b [])⟩ := hS1.ri b hb
    have kp2 : KeepT [88] H1 (H1.set (q.ri b).1 ⟨(q.ri b).2, 88, 1, rowC64 (grown f σ b)⟩) := KeepT.set hib1 (by simp)
    have hgl := grown_len hf hs hb
    have hr1 : rl f.r ≤ 1 := by unfold rl; split <;> omega
    have hgrow : wayL (readL (f.bk b) f.r) (newO f σ.I σ.O b) (setL (f.bk b) f.r) = grown f σ b := hwl
    have hrdl : (readL (f.bk b) f.r).length = f.r := by unfold readL; rw [aheadL_len]; simp
    have hstl : (setL (f.bk b) f.r).length = f.r := by unfold setL; rw [doneL_len]; simp
    have hosub := or_sub (readL (f.bk b) f.r) (newO f σ.I σ.O b) (setL (f.bk b) f.r) (by omega)
    rw [hgrow] at hosub
    have hnomore : moreS f σ b = false → σ.I.set b (grown f σ b) = σ.I := fun e => by
      have e' : σ.I.getD b [] = grown f σ b := Classical.byContradiction fun g => by rw [moreS, decide_eq_true g] at e; cases e
      have hbI : b < σ.I.length := by rw [show σ.I.length = f.n from hs.i]; exact hb
      refine set_of_get ?_
      rw [← e', List.getElem?_eq_getElem hbI]; simp [List.getD, List.getElem?_eq_getElem hbI]
    simp only [go_sem,Nat.reduceEqDiff,Nat.reduceAdd,Nat.reduceMul,↓reduceIte,↓dreduceIte,reduceCtorEq,Nat.reduceLeDiff,Nat.reduceLT,Nat.reduceSub,Int.reduceToNat,Int.reduceLE,Int.reduceLT, hso1, hob1, one_imm, one_ref, List.length_map, eq_false (show ¬ ((nxt (f.bk b)).length : Int) < (nxt (f.bk b)).length by omega)]
    refine VW_loop (fun i : Nat => ⟨[(0, .ptr q.kS q.sS 0), (1, I b), (5, .ref (q.ro b).1 (q.ro b).2 0 (rl f.r)), (6, B (if i = 0 then false else moreS f σ b)), (54, .ref (q.ro b).1 (q.ro b).2 0 (rl f.r)), (55, I (rl f.r)), (56, I i)],
        if i = 0 ∨ moreS f σ b = false then H1 else H1.set (q.ri b).1 ⟨(q.ri b).2, 88, 1, rowC64 (grown f σ b)⟩, nx⟩) (fun i => i ≤ rl f.r) (fun i => rl f.r - i) 0
      (Wk.mk (by simp [get_cons]) ⟨[], by simp⟩ (Nat.le_refl _)) (by omega) ?_
    intro i hi
    by_cases h1 : i < rl f.r
    · have h0 : f.r ≠ 0 := fun e => by unfold rl at h1; rw [if_pos e] at h1; omega
      have hi0 : i = 0 := by omega
      subst hi0
      have e6 := subw64 (a := newO f σ.I σ.O b) (b := setL (f.bk b) f.r) (by omega) (by omega)
      have e6' := orw64 (a := readL (f.bk b) f.r) (b := subL (newO f σ.I σ.O b) (setL (f.bk b) f.r)) (by rw [subL_len]; omega) (by omega)
      rw [hosub] at e6'
      have e7 : rowC64 (newO f σ.I σ.O b) = [U64 (wd (newO f σ.I σ.O b))] := rowC64_pos (by omega)
      have e8 : rowC64 (σ.I.getD b []) = [U64 (wd (σ.I.getD b []))] := rowC64_pos (by omega)
      have e9 : rowC64 (grown f σ b) = [U64 (wd (grown f σ b))] := rowC64_pos (by omega)
      have e10 : rowC64 (readL (f.bk b) f.r) = [U64 (wd (readL (f.bk b) f.r))] := rowC64_pos (by omega)
      have e11 : rowC64 (setL (f.bk b) f.r) = [U64 (wd (setL (f.bk b) f.r))] := rowC64_pos (by omega)
      rw [e7] at hob1
      rw [e8] at hib1
      rw [if_pos (show (0 : Nat) = 0 from rfl), if_pos (show (0 : Nat) = 0 ∨ moreS f σ b = false from .inl rfl)]
      cases hm : moreS f σ b
      · have e' : σ.I.getD b [] = grown f σ b := Classical.byContradiction fun g => by rw [moreS, decide_eq_true g] at hm; cases hm
        have ew : (wd (grown f σ b) : Int) = wd (σ.I.getD b []) := by rw [e']
        simp only [↓VW_skip,↓VW_ops,↓VW_par,↓VW_park,↓VW_seq,↓VW_block,↓VW_exit,↓VW_ret,↓VW_cond,↓litE_tmp,↓litE_const,↓seq_normal,↓seq_exit,↓seq_ret,↓blk_normal,↓blk_exit,↓blk_ret,↓get_nil,↓get_cons,↓put_some,↓put_none,↓put_some',↓put_none',↓VTrL_done,↓VTrL_one,↓VTrL_if,↓VTrL_both,↓wpD_eq,↓wpE_call,↓wpE_callA,↓wpE_mv,↓wpE_pick,↓wpE_ld,↓wpE_sto,↓wpE_idx,↓wpE_aidx,↓wpE_fad,↓wpE_fld,↓wpE_len,↓wpE_lens,↓wpE_bin,↓wpE_beq,↓wpE_un,↓wpE_conv,↓wpE_sl,↓wpE_sls,↓wpE_mk,↓wpE_app,↓wpE_bsl,↓wpE_bld,↓wpE_box,↓wpE_alc,↓wpE_mkf,↓wpE_nck,↓wpE_ext,↓wpE_pur,↓wpE_see,↓wpE_eff,↓wpE_ycal,undef,K.xtra,EOp.adds,argEnv,↓retQ,↓retW,↓VR.wp,↓VRs,binOK,binR,unOK,unR,ldOK,stoOK,putA,partA,partOK,fillA,fillOK,partsOf,evs,boundOf,AV.cells,AV.one,AV.laid,Value.oneCell',Nat.reduceEqDiff,Nat.reduceAdd,Nat.reduceMul,↓reduceIte,↓dreduceIte,true_and,and_true,List.cons_append,List.nil_append,List.length_map,List.length_cons,List.length_nil,List.getElem?_cons_zero,List.getElem?_cons_succ,List.map_cons,List.map_nil,Bool.not_true,Bool.not_false,forall_const,reduceCtorEq,false_implies,List.all_cons,List.all_nil,Bool.and_true,Bool.and_self,↓idxT_map,↓idxT_cons,↓cellT_I,↓cellT_B,↓cellT_map,↓cellT_cons,decide_eq_true_eq,decide_eq_false_iff_not,Int.toNat_natCast,bne_iff_ne,ne_eq,Bool.not_eq_true',Bool.not_eq_false',bne_eq_false_iff_eq,beq_iff_eq,beq_eq_false_iff_ne,implies_true,List.getD_cons_zero,List.getD_cons_succ,Bool.false_eq_true,false_or,or_false,true_or,or_true,Int.natCast_nonneg,Int.toNat_zero,Int.toNat_one,List.set_cons_zero,List.set_cons_succ,List.take_zero,List.take_succ_cons,List.take_nil,List.drop_zero,List.drop_succ_cons,List.drop_nil,List.append_nil,Nat.zero_add,Nat.add_zero,Nat.mul_one,Nat.zero_mul,↓wp_mv,↓wp_pick,↓wp_ld,↓wp_sto,↓wp_idx,↓wp_aidx,↓wp_fad,↓wp_fld,↓wp_len,↓wp_lens,↓wp_bin,↓wp_beq,↓wp_un,↓wp_conv,↓wp_sl,↓wp_sls,↓wp_mk,↓wp_app,↓wp_bsl,↓wp_bld,↓wp_box,↓wp_alc,↓wp_mkf,↓wp_nck,↓wp_ext,↓wp_call,↓wp_callA,↓VOps_nil,↓VOps_go,↓VOps_if,↓evF_tmp,↓evF_const,↓evF_func,cv_int,cv_bool,cv_slice,cv_string,cv,Nat.reduceLeDiff,Nat.reduceLT,Nat.le_refl,Nat.reduceSub,Int.reduceToNat,Int.reduceLE,Int.reduceLT,not_true_eq_false,not_false_eq_true,decide_true,decide_false,Bool.true_eq_false,↓imp_tt,↓imp_ft,↓imp_tf,↓imp_ff,↓imp_tnt,↓imp_fnt,↓imp_tnf,↓imp_fnf,addedOK,addedN,addedCells,oldA,Old,oldL,↓VW_range,↓wp_ycal,↓wp_six,↓wp_ixv,↓wp_eqv,↓wp_mx,↓wp_mn,↓wp_nilq,↓wp_nils,↓wp_b2s,↓wp_look,↓wp_mlen,↓wp_cpy,↓wp_clr,↓wp_s2b,↓wp_mkm,↓wp_upd,↓eqT_nil,↓eqT_int,↓eqT_bool,↓eqT_str,↓b2sT_U8,↓b2sT_nil,↓lookT_nil,↓lookT_cons,cv_agg,cv_nilFunc,mapOK_nil,mapOK_cons,updA_nil,iteP,Bool.not_eq_true,Bool.not_eq_false,Classical.not_not, hso1, hob1, hlr1, hlt1, cellT_imm, hli1, hib1, one_imm, one_ref, cellT_rows, hrg, hbk, e10, e11, rl_pos h0, Nat.cast_zero', Int.natCast_zero, Nat.cast_one', e6, e6', ew, ne_eq, bne_self_eq_false, List.length_map]
        repeat ((with_reducible refine And.intro ?_ ?_); · first | omega | decide)
        refine ⟨1, by omega, by omega, Wk.mk (by simp [get_cons, rl_pos h0, hm]; decide) ⟨[], by simp [hm]⟩ (Nat.le_refl _)⟩
      · have ew : ¬ (wd (grown f σ b) : Int) = wd (σ.I.getD b []) := fun e => by
          have := wd_inj (by omega) (show wd (grown f σ b) = wd (σ.I.getD b []) by omega)
          rw [moreS, decide_eq_false (by rw [this]; simp)] at hm; cases hm
        simp only [↓VW_skip,↓VW_ops,↓VW_par,↓VW_park,↓VW_seq,↓VW_block,↓VW_exit,↓VW_ret,↓VW_cond,↓litE_tmp,↓litE_const,↓seq_normal,↓seq_exit,↓seq_ret,↓blk_normal,↓blk_exit,↓blk_ret,↓get_nil,↓get_cons,↓put_some,↓put_none,↓put_some',↓put_none',↓VTrL_done,↓VTrL_one,↓VTrL_if,↓VTrL_both,↓wpD_eq,↓wpE_call,↓wpE_callA,↓wpE_mv,↓wpE_pick,↓wpE_ld,↓wpE_sto,↓wpE_idx,↓wpE_aidx,↓wpE_fad,↓wpE_fld,↓wpE_len,↓wpE_lens,↓wpE_bin,↓wpE_beq,↓wpE_un,↓wpE_conv,↓wpE_sl,↓wpE_sls,↓wpE_mk,↓wpE_app,↓wpE_bsl,↓wpE_bld,↓wpE_box,↓wpE_alc,↓wpE_mkf,↓wpE_nck,↓wpE_ext,↓wpE_pur,↓wpE_see,↓wpE_eff,↓wpE_ycal,undef,K.xtra,EOp.adds,argEnv,↓retQ,↓retW,↓VR.wp,↓VRs,binOK,binR,unOK,unR,ldOK,stoOK,putA,partA,partOK,fillA,fillOK,partsOf,evs,boundOf,AV.cells,AV.one,AV.laid,Value.oneCell',Nat.reduceEqDiff,Nat.reduceAdd,Nat.reduceMul,↓reduceIte,↓dreduceIte,true_and,and_true,List.cons_append,List.nil_append,List.length_map,List.length_cons,List.length_nil,List.getElem?_cons_zero,List.getElem?_cons_succ,List.map_cons,List.map_nil,Bool.not_true,Bool.not_false,forall_const,reduceCtorEq,false_implies,List.all_cons,List.all_nil,Bool.and_true,Bool.and_self,↓idxT_map,↓idxT_cons,↓cellT_I,↓cellT_B,↓cellT_map,↓cellT_cons,decide_eq_true_eq,decide_eq_false_iff_not,Int.toNat_natCast,bne_iff_ne,ne_eq,Bool.not_eq_true',Bool.not_eq_false',bne_eq_false_iff_eq,beq_iff_eq,beq_eq_false_iff_ne,implies_true,List.getD_cons_zero,List.getD_cons_succ,Bool.false_eq_true,false_or,or_false,true_or,or_true,Int.natCast_nonneg,Int.toNat_zero,Int.toNat_one,List.set_cons_zero,List.set_cons_succ,List.take_zero,List.take_succ_cons,List.take_nil,List.drop_zero,List.drop_succ_cons,List.drop_nil,List.append_nil,Nat.zero_add,Nat.add_zero,Nat.mul_one,Nat.zero_mul,↓wp_mv,↓wp_pick,↓wp_ld,↓wp_sto,↓wp_idx,↓wp_aidx,↓wp_fad,↓wp_fld,↓wp_len,↓wp_lens,↓wp_bin,↓wp_beq,↓wp_un,↓wp_conv,↓wp_sl,↓wp_sls,↓wp_mk,↓wp_app,↓wp_bsl,↓wp_bld,↓wp_box,↓wp_alc,↓wp_mkf,↓wp_nck,↓wp_ext,↓wp_call,↓wp_callA,↓VOps_nil,↓VOps_go,↓VOps_if,↓evF_tmp,↓evF_const,↓evF_func,cv_int,cv_bool,cv_slice,cv_string,cv,Nat.reduceLeDiff,Nat.reduceLT,Nat.le_refl,Nat.reduceSub,Int.reduceToNat,Int.reduceLE,Int.reduceLT,not_true_eq_false,not_false_eq_true,decide_true,decide_false,Bool.true_eq_false,↓imp_tt,↓imp_ft,↓imp_tf,↓imp_ff,↓imp_tnt,↓imp_fnt,↓imp_tnf,↓imp_fnf,addedOK,addedN,addedCells,oldA,Old,oldL,↓VW_range,↓wp_ycal,↓wp_six,↓wp_ixv,↓wp_eqv,↓wp_mx,↓wp_mn,↓wp_nilq,↓wp_nils,↓wp_b2s,↓wp_look,↓wp_mlen,↓wp_cpy,↓wp_clr,↓wp_s2b,↓wp_mkm,↓wp_upd,↓eqT_nil,↓eqT_int,↓eqT_bool,↓eqT_str,↓b2sT_U8,↓b2sT_nil,↓lookT_nil,↓lookT_cons,cv_agg,cv_nilFunc,mapOK_nil,mapOK_cons,updA_nil,iteP,Bool.not_eq_true,Bool.not_eq_false,Classical.not_not, hso1, hob1, hlr1, hlt1, cellT_imm, hli1, hib1, one_imm, one_ref, cellT_rows, hrg, hbk, e10, e11, rl_pos h0, Nat.cast_zero', Int.natCast_zero, Nat.cast_one', e6, e6', eq_false ew, ne_eq, List.length_map]
        repeat ((with_reducible refine And.intro ?_ ?_); · first | omega | decide)
        refine ⟨1, by omega, by omega, Wk.mk (by simp [get_cons, rl_pos h0, hm]; decide) ⟨[], by simp [hm, e9]⟩ (Nat.le_refl _)⟩
    · obtain rfl : i = rl f.r := by omega
      simp only [go_sem,Nat.reduceEqDiff,Nat.reduceAdd,Nat.reduceMul,↓reduceIte,↓dreduceIte,reduceCtorEq,Nat.reduceLeDiff,Nat.reduceLT,Nat.reduceSub,Int.reduceToNat,Int.reduceLE,Int.reduceLT, one_imm, one_ref, eq_false (show ¬ (rl f.r : Int) < rl f.r by omega)]
      cases hm : moreS f σ b
      · rw [show (if rl f.r = 0 then false else false) = false by split <;> rfl, if_pos (show rl f.r = 0 ∨ false = false from .inr rfl)]
        rw [hm] at hC
        refine hC H1 ?_ kp1
        unfold growS
        rw [hnomore hm]
        exact hS1
      · have h0 : rl f.r ≠ 0 := fun e => by
          have e0 : f.r = 0 := by unfold rl at e; split at e <;> omega
          have := gB_ext (a := σ.I.getD b []) (b := grown f σ b) (by omega) fun v hv => by omega
          rw [moreS, decide_eq_false (by rw [this]; simp)] at hm; cases hm
        rw [if_neg h0, if_neg (show ¬ (rl f.r = 0 ∨ true = false) by simp [h0])]
        rw [hm] at hC
        exact hC _ hS2 (kp1.trans kp2)
end
end Go.Proofs.Ytjdeediehmhdoaa
