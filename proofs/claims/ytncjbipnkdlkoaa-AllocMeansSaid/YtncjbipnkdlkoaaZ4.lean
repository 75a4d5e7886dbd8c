/-
  AllocMeans: the row. No condition.
-/
import Derived.Test.YtncjbipnkdlkoaaZ3
set_option linter.unusedVariables false
set_option linter.unusedSimpArgs false
namespace Go.Proofs.Ytncjbipnkdlkoaa
set_option linter.unusedSimpArgs false
set_option linter.unusedVariables false
set_option maxRecDepth 10000
open Go.V Go.ChangeShapes Go.WideShapes Go.ChangeAt Go.RowKit
abbrev bpSh : Sh := .agg [.int .i64, .sl 2 32 bfSh]
theorem bp_of {x : AV} (h : Sh.fit bpSh x) : ∃ b : BP, x = bpA b ∧ Int64 b.words ∧ b.funcs.length ≤ 140737488355328 ∧ ∀ f ∈ b.funcs, BfOk f := by
  simp only [bpSh, Sh.fit.eq_5, Sh.fitL] at h
  obtain ⟨ys, rfl, a, _, rfl, ha, e, _, rfl, he, rfl⟩ := h
  obtain ⟨r, rfl, k1⟩ := fit_int ha
  simp only [Sh.fit.eq_4] at he
  obtain ⟨xs, rfl, _, h1, h2⟩ := he
  obtain ⟨l, rfl, h3⟩ := maps_of (f := bfA) (p := BfOk) (fun y hy => bf_of hy) xs h2
  exact ⟨⟨r, l⟩, rfl, k1, by simp [reachBytes] at h1 ⊢; omega, h3⟩
def OthP (n : Int) (f g : BF) : Prop := Fine f ∧ ∃ (L : LD) (pl : List Int), AllocP f L pl n ∧ g = otherF f pl n ∧ wdsI pl ≤ 3000
structure MQ28 where
  i : Nat
  gs : List BF
  s : Nat
  nx : Nat
abbrev meansH (b : BP) (x y : Int) (q : MQ28) : List VObj := [⟨0, 44, 1, [I b.words, .imm 2 (b.funcs.map bfA)]⟩, ⟨1, 45, 1, [Y8 x, Y8 y]⟩, ⟨2, 44, 1, [I b.words, .ref 3 q.s 0 q.i]⟩, ⟨q.s, 24, 2, (q.gs.map bfL).flatten⟩]
theorem frz_fns {n : Nat} {H : List VObj} {nx id s ty len : Nat} {gs : List BF} (hid : n ≤ id) (ho : H[id]? = some ⟨s, ty, 2, (gs.map bfL).flatten⟩) (hl : len = gs.length) : Frz n H nx (.ref id s 0 len) (.imm 2 (gs.map bfA)) := by
  have h := Frz.refT (n := n) (nx := nx) (len := len) hid ho rfl rfl (yss := gs.map bfL) (zss := gs.map bfL) rfl (by intro q hq; obtain ⟨t, _, rfl⟩ := List.mem_map.1 hq; rfl) (by rw [List.length_map]; exact hl) (FrzLL.pure (by intro q hq; obtain ⟨t, _, rfl⟩ := List.mem_map.1 hq; rfl))
  rw [List.map_map] at h
  exact h
theorem fns_snoc {gs : List BF} {g : BF} {i : Nat} (hi : gs.length = i) : List.take (i * 2) ((gs.map bfL).flatten) ++ bfL g = ((gs ++ [g]).map bfL).flatten := by
  rw [List.take_of_length_le (by rw [flatz_len (z := 2) (by intro q hq; obtain ⟨t, _, rfl⟩ := List.mem_map.1 hq; rfl), List.length_map, hi]; exact Nat.le_refl _)]
  rw [List.map_append, List.flatten_append]; simp
theorem means_ok {b : BP} {n : Int} {gs : List BF} (hn : 0 ≤ n ∧ n ≤ 8) (hF : ∀ f ∈ b.funcs, BfOk f) (hR : rightB b = true) (hl : gs.length = b.funcs.length) (hg : ∀ j < b.funcs.length, OthP n (b.funcs.getD j default) (gs.getD j default)) :
    (0 ≤ b.words ∧ b.words ≤ 1048576) ∧ b.funcs ≠ [] ∧ FnsOk b.funcs b.words.toNat ∧ FnsOk gs b.words.toNat ∧ rightB ⟨b.words, gs⟩ = true ∧ (∀ g ∈ gs, g.bks.length ≤ 140737488355328) ∧ (∀ g ∈ gs, ∀ k ∈ g.bks, k.ins.length ≤ 140737488355328) ∧ ∀ (inp : ByteArray) (fuel : Nat), resB ⟨b.words, gs⟩ inp fuel = resB b inp fuel := by
  unfold rightB at hR
  simp only [Bool.and_eq_true, decide_eq_true_eq, List.all_eq_true, List.mem_range] at hR
  obtain ⟨⟨h1, h2, h3⟩, h4⟩ := hR
  have hw : ((b.words.toNat : Nat) : Int) = b.words := by omega
  have hw32 : ∀ f ∈ b.funcs, ∀ k ∈ f.bks, ∀ t ∈ k.ins, In32 t.n := fun f hf k hk t ht => (((hF f hf).bk k hk).ins t ht).n
  have hlen : ∀ f ∈ b.funcs, ∀ k ∈ f.bks, k.ins.length ≤ 140737488355328 := fun f hf k hk => ((hF f hf).bk k hk).len
  have one : ∀ i < gs.length, oneB (gs.getD i default) i b.words = true := fun i hi => by
    obtain ⟨hf, L, pl, hP, e, hwl⟩ := hg i (by omega)
    rw [e]
    exact other_one hn.1 hP (by omega) (h4 i (by omega))
  have mem : ∀ g ∈ gs, ∃ f ∈ b.funcs, ∃ pl, g = otherF f pl n := fun g hgm => by
    obtain ⟨i, hi, rfl⟩ := List.getElem_of_mem hgm
    obtain ⟨hf, L, pl, hP, e, hwl⟩ := hg i (by omega)
    rw [List.getD, List.getElem?_eq_getElem hi, Option.getD_some] at e
    exact ⟨_, mem_getD (show i < b.funcs.length by omega), pl, e⟩
  have ok1 : FnsOk b.funcs b.words.toNat := ⟨fun i hi => by rw [hw]; exact h4 i hi, hlen, hw32⟩
  refine ⟨⟨h1, h2⟩, h3, ok1, ⟨fun i hi => by rw [hw]; exact one i hi, fun g hgm => ?_, fun g hgm => ?_⟩, ?_, fun g hgm => ?_, fun g hgm => ?_, fun inp fuel => ?_⟩
  · obtain ⟨f, hf, pl, rfl⟩ := mem g hgm
    exact (other_w (hlen f hf) (hw32 f hf)).1
  · obtain ⟨f, hf, pl, rfl⟩ := mem g hgm
    exact (other_w (hlen f hf) (hw32 f hf)).2
  · unfold rightB
    simp only [Bool.and_eq_true, decide_eq_true_eq, List.all_eq_true, List.mem_range]
    refine ⟨⟨h1, h2, fun e => h3 (List.length_eq_zero_iff.1 (by rw [← hl]; exact List.length_eq_zero_iff.2 e))⟩, one⟩
  · obtain ⟨f, hf, pl, rfl⟩ := mem g hgm
    have := (hF f hf).len
    simpa [otherF] using this
  · obtain ⟨f, hf, pl, rfl⟩ := mem g hgm
    exact (other_w (hlen f hf) (hw32 f hf)).1
  · exact other_res (ws := b.words) (fs := b.funcs) ok1 h3 hl fun i hi => by
      obtain ⟨hf, L, pl, hP, e, _⟩ := hg i hi
      exact ⟨hf, L, pl, n, hn.1, hP, e⟩
set_option maxHeartbeats 4000000 in
theorem allocmeans_c (b : BP) (inp : ByteArray) (x y : Int) (hb : Int64 b.words) (hbl : b.funcs.length ≤ 140737488355328) (hF : ∀ f ∈ b.funcs, BfOk f) (hx : 0 ≤ x ∧ x ≤ 255) (hy : 0 ≤ y ∧ y ≤ 255) : Contract Try.prog 6 [bpA b, strv inp, .agg [Y8 x, Y8 y]] (fun r => r = B true) := by
  have hq := f_sclaw28_AllocMeans
  unfold compF compFp at hq
  refine Contract.of_call (VCall.of_bodyS (pt := false) (pf := false) hmix hq (by simp) ?_)
  simp only [go_sem,Nat.reduceEqDiff,Nat.reduceAdd,Nat.reduceMul,↓reduceIte,↓dreduceIte,reduceCtorEq,Nat.reduceLeDiff,Nat.reduceLT,Nat.reduceSub,Int.reduceToNat,Int.reduceLE,Int.reduceLT, VWs_seq, VWs_ret, VWs_ops, VWs_cond, one_imm, one_ref, c_sclaw28_AllocMeans]
  refine ⟨_, Wk.refl _, ?_⟩
  simp only [go_sem,Nat.reduceEqDiff,Nat.reduceAdd,Nat.reduceMul,↓reduceIte,↓dreduceIte,reduceCtorEq,Nat.reduceLeDiff,Nat.reduceLT,Nat.reduceSub,Int.reduceToNat,Int.reduceLE,Int.reduceLT, VWs_seq, VWs_ret, VWs_ops, VWs_cond, one_imm, one_ref]
  by_cases h6 : 6 < b.funcs.length
  · simp only [go_sem,Nat.reduceEqDiff,Nat.reduceAdd,Nat.reduceMul,↓reduceIte,↓dreduceIte,reduceCtorEq,Nat.reduceLeDiff,Nat.reduceLT,Nat.reduceSub,Int.reduceToNat,Int.reduceLE,Int.reduceLT, one_imm, one_ref, List.length_map, gt_iff_lt, eq_true (show (6 : Int) < b.funcs.length by omega)]
    refine VCall.of_contract awake_c (SleL.pure rfl) fun x hx => ?_
    subst hx
    simp only [go_sem,Nat.reduceEqDiff,Nat.reduceAdd,Nat.reduceMul,↓reduceIte,↓dreduceIte,reduceCtorEq,Nat.reduceLeDiff,Nat.reduceLT,Nat.reduceSub,Int.reduceToNat,Int.reduceLE,Int.reduceLT, one_imm, one_ref]
    exact ⟨_, Frz.pure rfl, rfl⟩
  have f6 : ((6 : Int) < b.funcs.length) = False := eq_false (by omega)
  by_cases h100 : 100 < b.words
  · simp only [go_sem,Nat.reduceEqDiff,Nat.reduceAdd,Nat.reduceMul,↓reduceIte,↓dreduceIte,reduceCtorEq,Nat.reduceLeDiff,Nat.reduceLT,Nat.reduceSub,Int.reduceToNat,Int.reduceLE,Int.reduceLT, one_imm, one_ref, List.length_map, gt_iff_lt, f6, eq_true h100]
    refine VCall.of_contract awake_c (SleL.pure rfl) fun x hx => ?_
    subst hx
    simp only [go_sem,Nat.reduceEqDiff,Nat.reduceAdd,Nat.reduceMul,↓reduceIte,↓dreduceIte,reduceCtorEq,Nat.reduceLeDiff,Nat.reduceLT,Nat.reduceSub,Int.reduceToNat,Int.reduceLE,Int.reduceLT, one_imm, one_ref]
    exact ⟨_, Frz.pure rfl, rfl⟩
  by_cases h60 : (60 : Int) < inp.size
  · simp only [go_sem,Nat.reduceEqDiff,Nat.reduceAdd,Nat.reduceMul,↓reduceIte,↓dreduceIte,reduceCtorEq,Nat.reduceLeDiff,Nat.reduceLT,Nat.reduceSub,Int.reduceToNat,Int.reduceLE,Int.reduceLT, one_imm, one_ref, List.length_map, gt_iff_lt, f6, eq_false h100, eq_true h60]
    refine VCall.of_contract awake_c (SleL.pure rfl) fun x hx => ?_
    subst hx
    simp only [go_sem,Nat.reduceEqDiff,Nat.reduceAdd,Nat.reduceMul,↓reduceIte,↓dreduceIte,reduceCtorEq,Nat.reduceLeDiff,Nat.reduceLT,Nat.reduceSub,Int.reduceToNat,Int.reduceLE,Int.reduceLT, one_imm, one_ref]
    exact ⟨_, Frz.pure rfl, rfl⟩
  simp only [go_sem,Nat.reduceEqDiff,Nat.reduceAdd,Nat.reduceMul,↓reduceIte,↓dreduceIte,reduceCtorEq,Nat.reduceLeDiff,Nat.reduceLT,Nat.reduceSub,Int.reduceToNat,Int.reduceLE,Int.reduceLT, VWs_seq, VWs_ret, VWs_ops, VWs_cond, one_imm, one_ref, List.length_map, gt_iff_lt, f6, eq_false h100, eq_false h60]
  refine VCall.of_contract (rright_c b hbl (fun f hf => (hF f hf).len) (fun f hf k hk => ((hF f hf).bk k hk).len)) (SleL.pure rfl) fun x hx => ?_
  subst hx
  cases hR : rightB b
  · simp only [go_sem,Nat.reduceEqDiff,Nat.reduceAdd,Nat.reduceMul,↓reduceIte,↓dreduceIte,reduceCtorEq,Nat.reduceLeDiff,Nat.reduceLT,Nat.reduceSub,Int.reduceToNat,Int.reduceLE,Int.reduceLT, VWs_seq, VWs_ret, VWs_ops, VWs_cond, one_imm, one_ref]
    refine VCall.of_contract awake_c (SleL.pure rfl) fun x hx => ?_
    subst hx
    simp only [go_sem,Nat.reduceEqDiff,Nat.reduceAdd,Nat.reduceMul,↓reduceIte,↓dreduceIte,reduceCtorEq,Nat.reduceLeDiff,Nat.reduceLT,Nat.reduceSub,Int.reduceToNat,Int.reduceLE,Int.reduceLT, one_imm, one_ref]
    exact ⟨_, Frz.pure rfl, rfl⟩
  have h9 : 0 ≤ x.tmod 9 ∧ x.tmod 9 ≤ 8 := by
    rw [Int.tmod_eq_emod_of_nonneg hx.1]; omega
  obtain ⟨n, hn⟩ : ∃ n, x.tmod 9 = n := ⟨_, rfl⟩
  rw [hn] at h9
  have w1 : IntKind.i64.wrap n = n := i64_in (by omega) (by omega)
  have w2 : IntKind.u8.wrap n = n := by rw [IntKind.wrap_u8]; omega
  have w3 : IntKind.i64.wrap y = y := i64_in (by omega) (by omega)
  simp only [go_sem,Nat.reduceEqDiff,Nat.reduceAdd,Nat.reduceMul,↓reduceIte,↓dreduceIte,reduceCtorEq,Nat.reduceLeDiff,Nat.reduceLT,Nat.reduceSub,Int.reduceToNat,Int.reduceLE,Int.reduceLT, VWs_seq, VWs_ret, VWs_ops, VWs_cond, one_imm, one_ref]
  refine ⟨_, Wk.refl _, ?_⟩
  simp only [go_sem,Nat.reduceEqDiff,Nat.reduceAdd,Nat.reduceMul,↓reduceIte,↓dreduceIte,reduceCtorEq,Nat.reduceLeDiff,Nat.reduceLT,Nat.reduceSub,Int.reduceToNat,Int.reduceLE,Int.reduceLT, VWs_seq, VWs_ret, VWs_ops, VWs_cond, one_imm, one_ref, List.length_map, hn, w1, w2]
  repeat ((with_reducible refine And.intro ?_ ?_); · omega)
  refine ⟨_, Wk.refl _, ?_⟩
  simp only [go_sem,Nat.reduceEqDiff,Nat.reduceAdd,Nat.reduceMul,↓reduceIte,↓dreduceIte,reduceCtorEq,Nat.reduceLeDiff,Nat.reduceLT,Nat.reduceSub,Int.reduceToNat,Int.reduceLE,Int.reduceLT, VWs_seq, VWs_ret, VWs_ops, VWs_cond, one_imm, one_ref]
  refine ⟨_, Wk.refl _, ?_⟩
  simp only [go_sem,Nat.reduceEqDiff,Nat.reduceAdd,Nat.reduceMul,↓reduceIte,↓dreduceIte,reduceCtorEq,Nat.reduceLeDiff,Nat.reduceLT,Nat.reduceSub,Int.reduceToNat,Int.reduceLE,Int.reduceLT, VWs_seq, VWs_ret, VWs_ops, VWs_cond, one_imm, one_ref]
  have hmx : (2000000 : Nat) ≤ maxLen := by decide
  refine VW_loop (fun q : MQ28 => ⟨[(1, strv inp), (3, .ptr 0 0 0), (5, .ptr 1 1 0), (7, I n), (8, .ptr 2 2 0), (9, I q.i)], meansH b x y q, q.nx⟩) (fun q => q.i ≤ b.funcs.length ∧ q.gs.length = q.i ∧ ∀ j < q.i, OthP n (b.funcs.getD j default) (q.gs.getD j default)) (fun q => b.funcs.length - q.i) ⟨0, [], 3, 4⟩ ?_ ⟨Nat.zero_le _, rfl, fun j hj => absurd hj (Nat.not_lt_zero j)⟩ ?_
  · have w := virt_at (env := [(1, strv inp), (3, .ptr 0 0 0), (5, .ptr 1 1 0), (7, I n), (8, .ptr 2 2 0), (9, I ((0 : Nat) : Int))]) (H := [⟨0, 44, 1, [I b.words, .imm 2 (b.funcs.map bfA)]⟩, ⟨1, 45, 1, [Y8 x, Y8 y]⟩, ⟨2, 44, 1, [I b.words, nilv]⟩]) (nx := 3) (i := 2) (ob := ⟨2, 44, 1, [I b.words, nilv]⟩) (cs' := [I b.words, .ref 3 3 0 0]) 24 2 (by decide) (by simp [get_cons]) rfl (by simp) rfl (fun j a b ha hb => by
      match j with
      | 0 => simp at ha hb; subst ha; subst hb; exact .inl rfl
      | 1 => simp at ha hb; subst ha; subst hb; exact .inr ⟨rfl, by simp⟩
      | j + 2 => simp at ha)
    refine Wk.trans ?_ w
    exact Wk.mk (by simp [get_cons]) ⟨[], by simp⟩ (Nat.le_refl _)
  rintro ⟨i, gs, s, nx⟩ ⟨hi, hgl, hgs⟩
  simp only at hi hgl hgs
  by_cases hlt : i < b.funcs.length
  · have hgf : (b.funcs.map bfA).getD i (bfA default) = bfA (b.funcs.getD i default) := by simp [List.getD, List.getElem?_eq_getElem hlt]
    have hFf := hF _ (mem_getD hlt)
    obtain ⟨f, hf0⟩ : ∃ f, b.funcs.getD i default = f := ⟨_, rfl⟩
    rw [hf0] at hFf
    simp only [go_sem,Nat.reduceEqDiff,Nat.reduceAdd,Nat.reduceMul,↓reduceIte,↓dreduceIte,reduceCtorEq,Nat.reduceLeDiff,Nat.reduceLT,Nat.reduceSub,Int.reduceToNat,Int.reduceLE,Int.reduceLT, VWs_seq, VWs_ret, VWs_ops, VWs_cond, one_imm, one_ref, List.length_map, hf0, eq_true (show (i : Int) < b.funcs.length by omega)]
    refine ⟨hlt, ?_⟩
    refine VCall.of_contract (small28_c f hFf) (SleL.pure rfl) fun x hx => ?_
    subst hx
    cases hs : small28B f
    · simp only [go_sem,Nat.reduceEqDiff,Nat.reduceAdd,Nat.reduceMul,↓reduceIte,↓dreduceIte,reduceCtorEq,Nat.reduceLeDiff,Nat.reduceLT,Nat.reduceSub,Int.reduceToNat,Int.reduceLE,Int.reduceLT, VWs_seq, VWs_ret, VWs_ops, VWs_cond, one_imm, one_ref]
      refine VCall.of_contract awake_c (SleL.pure rfl) fun x hx => ?_
      subst hx
      simp only [go_sem,Nat.reduceEqDiff,Nat.reduceAdd,Nat.reduceMul,↓reduceIte,↓dreduceIte,reduceCtorEq,Nat.reduceLeDiff,Nat.reduceLT,Nat.reduceSub,Int.reduceToNat,Int.reduceLE,Int.reduceLT, VWs_seq, VWs_ret, VWs_ops, VWs_cond, one_imm, one_ref]
      exact ⟨_, Frz.pure rfl, rfl⟩
    obtain ⟨hf, h12, h20, ho, hins⟩ := small28_fine hs
    have hr : f.r ≤ 64 := by unfold BF.r; omega
    obtain ⟨L, hL⟩ := least_exists hf
    have hok := hL.cl.sz.ok hf
    simp only [go_sem,Nat.reduceEqDiff,Nat.reduceAdd,Nat.reduceMul,↓reduceIte,↓dreduceIte,reduceCtorEq,Nat.reduceLeDiff,Nat.reduceLT,Nat.reduceSub,Int.reduceToNat,Int.reduceLE,Int.reduceLT, VWs_seq, VWs_ret, VWs_ops, VWs_cond, one_imm, one_ref]
    refine VCall.of_contract (rof_c f hf L hL) (SleL.pure rfl) fun x hx => ?_
    subst hx
    simp only [go_sem,Nat.reduceEqDiff,Nat.reduceAdd,Nat.reduceMul,↓reduceIte,↓dreduceIte,reduceCtorEq,Nat.reduceLeDiff,Nat.reduceLT,Nat.reduceSub,Int.reduceToNat,Int.reduceLE,Int.reduceLT, VWs_seq, VWs_ret, VWs_ops, VWs_cond, one_imm, one_ref]
    refine VCall.of_contract (of28_c f L n hf hL.cl hr (by omega)) (SleL.pure rfl) fun x hx => ?_
    obtain ⟨pl, rfl, hP⟩ := hx
    have hpl : pl.length = f.r := hP.len
    have hplr : (pl.length : Int) = f.regs := by have := hf.r0; rw [hpl]; unfold BF.r; omega
    simp only [go_sem,Nat.reduceEqDiff,Nat.reduceAdd,Nat.reduceMul,↓reduceIte,↓dreduceIte,reduceCtorEq,Nat.reduceLeDiff,Nat.reduceLT,Nat.reduceSub,Int.reduceToNat,Int.reduceLE,Int.reduceLT, VWs_seq, VWs_ret, VWs_ops, VWs_cond, one_imm, one_ref]
    refine VCall.of_contract (acheck_c f L pl n hf hok (by omega)) (SleL.pure rfl) fun x hx => ?_
    rw [(allocB_iff hf L pl n).2 hP] at hx
    subst hx
    simp only [go_sem,Nat.reduceEqDiff,Nat.reduceAdd,Nat.reduceMul,↓reduceIte,↓dreduceIte,reduceCtorEq,Nat.reduceLeDiff,Nat.reduceLT,Nat.reduceSub,Int.reduceToNat,Int.reduceLE,Int.reduceLT, VWs_seq, VWs_ret, VWs_ops, VWs_cond, one_imm, one_ref, List.length_map, hplr, ne_eq, not_true_eq_false]
    refine VCall.of_contract (rwords_c pl (by omega)) (SleL.pure rfl) fun x hx => ?_
    subst hx
    by_cases h3k : 3000 < wdsI pl
    · simp only [go_sem,Nat.reduceEqDiff,Nat.reduceAdd,Nat.reduceMul,↓reduceIte,↓dreduceIte,reduceCtorEq,Nat.reduceLeDiff,Nat.reduceLT,Nat.reduceSub,Int.reduceToNat,Int.reduceLE,Int.reduceLT, VWs_seq, VWs_ret, VWs_ops, VWs_cond, one_imm, one_ref, gt_iff_lt, eq_true h3k]
      refine VCall.of_contract awake_c (SleL.pure rfl) fun x hx => ?_
      subst hx
      simp only [go_sem,Nat.reduceEqDiff,Nat.reduceAdd,Nat.reduceMul,↓reduceIte,↓dreduceIte,reduceCtorEq,Nat.reduceLeDiff,Nat.reduceLT,Nat.reduceSub,Int.reduceToNat,Int.reduceLE,Int.reduceLT, VWs_seq, VWs_ret, VWs_ops, VWs_cond, one_imm, one_ref]
      exact ⟨_, Frz.pure rfl, rfl⟩
    simp only [go_sem,Nat.reduceEqDiff,Nat.reduceAdd,Nat.reduceMul,↓reduceIte,↓dreduceIte,reduceCtorEq,Nat.reduceLeDiff,Nat.reduceLT,Nat.reduceSub,Int.reduceToNat,Int.reduceLE,Int.reduceLT, VWs_seq, VWs_ret, VWs_ops, VWs_cond, one_imm, one_ref, gt_iff_lt, eq_false h3k]
    refine ECall.of (other_c f pl n hf hpl (by omega) hP.ok) (SleL.pure rfl) ⟨_, fun _ => Iff.rfl⟩ fun x hx => ?_
    subst hx
    simp only [go_sem,Nat.reduceEqDiff,Nat.reduceAdd,Nat.reduceMul,↓reduceIte,↓dreduceIte,reduceCtorEq,Nat.reduceLeDiff,Nat.reduceLT,Nat.reduceSub,Int.reduceToNat,Int.reduceLE,Int.reduceLT, VWs_seq, VWs_ret, VWs_ops, VWs_cond, one_imm, one_ref]
    repeat ((with_reducible refine And.intro ?_ ?_); · omega)
    rw [i64_in (n := (i : Int) + 1) (by omega) (by omega)]
    have e : List.take (i * 2) (List.map bfL gs).flatten ++ [I (otherF f pl n).regs, bksA (otherF f pl n).bks] = ((gs ++ [otherF f pl n]).map bfL).flatten := fns_snoc hgl
    rw [e]
    refine ⟨⟨i + 1, gs ++ [otherF f pl n], _, _⟩, ⟨by simp only; omega, by simp only [List.length_append, List.length_singleton]; omega, fun j hj => ?_⟩, by simp only; omega, Wk.mk (by simp [get_cons]) ⟨[_, _, _, _], rfl⟩ (Nat.le_refl _)⟩
    simp only at hj ⊢
    by_cases hj' : j < i
    · have := hgs j hj'
      rw [List.getD, List.getD, List.getElem?_append_left (by omega)]
      exact this
    · obtain rfl : j = i := by omega
      rw [hf0]
      have e2 : (gs ++ [otherF f pl n]).getD j default = otherF f pl n := by rw [List.getD, List.getElem?_append_right (by omega)]; simp [hgl]
      rw [e2]
      exact ⟨hf, L, pl, hP, rfl, by omega⟩
  obtain rfl : i = b.funcs.length := by omega
  obtain ⟨⟨m1, m2⟩, m3, m4, m5, m6, m7, m8, m9⟩ := means_ok h9 hF hR hgl hgs
  obtain ⟨u, rfl⟩ : ∃ u : Nat, y = u := ⟨y.toNat, by omega⟩
  have k1 := run24_c b inp u m3 ⟨m1, m2⟩ m4 hbl (by omega) (by omega)
  have k2 := run24_c ⟨b.words, gs⟩ inp u (fun e => m3 (List.length_eq_zero_iff.1 (by rw [← hgl]; exact List.length_eq_zero_iff.2 e))) ⟨m1, m2⟩ m5 (by show gs.length ≤ _; omega) (by omega) (by omega)
  rw [Int.toNat_natCast] at k1 k2
  rw [m9] at k2
  generalize resB b inp u = X at k1 k2
  simp only [go_sem,Nat.reduceEqDiff,Nat.reduceAdd,Nat.reduceMul,↓reduceIte,↓dreduceIte,reduceCtorEq,Nat.reduceLeDiff,Nat.reduceLT,Nat.reduceSub,Int.reduceToNat,Int.reduceLE,Int.reduceLT, VWs_seq, VWs_ret, VWs_ops, VWs_cond, one_imm, one_ref, List.length_map, w3, eq_false (show ¬ (b.funcs.length : Int) < b.funcs.length by omega)]
  refine ⟨_, Wk.refl _, ?_⟩
  simp only [go_sem,Nat.reduceEqDiff,Nat.reduceAdd,Nat.reduceMul,↓reduceIte,↓dreduceIte,reduceCtorEq,Nat.reduceLeDiff,Nat.reduceLT,Nat.reduceSub,Int.reduceToNat,Int.reduceLE,Int.reduceLT, VWs_seq, VWs_ret, VWs_ops, VWs_cond, one_imm, one_ref, List.length_map, w3]
  repeat ((with_reducible refine And.intro ?_ ?_); · omega)
  refine ⟨⟨[(1, strv inp), (3, .ptr 0 0 0), (8, .ptr 2 2 0), (13, I u)], [⟨0, 44, 1, [I b.words, .imm 2 (b.funcs.map bfA)]⟩, ⟨1, 45, 1, [Y8 x, Y8 u]⟩, ⟨2, 44, 1, [I b.words, .imm 2 (gs.map bfA)]⟩], _⟩, Wk.give (by simp [get_cons]) ⟨rfl, rfl, rfl, fun _ => rfl, CW.refl _, rfl, rfl, rfl, fun _ => rfl, CW.refl _, rfl, rfl, rfl, (fun h => absurd h (Nat.succ_ne_zero 0)), CW.append ⟨_, _, rfl, Frz.pure rfl, _, _, rfl, frz_fns (id := 3) (Nat.le_refl 3) rfl hgl.symm, rfl⟩, trivial⟩ (Nat.le_refl _), ?_⟩
  simp only [go_sem,Nat.reduceEqDiff,Nat.reduceAdd,Nat.reduceMul,↓reduceIte,↓dreduceIte,reduceCtorEq,Nat.reduceLeDiff,Nat.reduceLT,Nat.reduceSub,Int.reduceToNat,Int.reduceLE,Int.reduceLT, VWs_seq, VWs_ret, VWs_ops, VWs_cond, one_imm, one_ref, w3]
  refine awakeE ?_
  simp only [go_sem,Nat.reduceEqDiff,Nat.reduceAdd,Nat.reduceMul,↓reduceIte,↓dreduceIte,reduceCtorEq,Nat.reduceLeDiff,Nat.reduceLT,Nat.reduceSub,Int.reduceToNat,Int.reduceLE,Int.reduceLT, VWs_seq, VWs_ret, VWs_ops, VWs_cond, one_imm, one_ref, w3]
  refine ECall.of (rright_c ⟨b.words, gs⟩ (by show gs.length ≤ _; omega) m7 m8) (SleL.pure rfl) ⟨_, fun _ => Iff.rfl⟩ fun x hx => ?_
  rw [m6] at hx
  subst hx
  simp only [go_sem,Nat.reduceEqDiff,Nat.reduceAdd,Nat.reduceMul,↓reduceIte,↓dreduceIte,reduceCtorEq,Nat.reduceLeDiff,Nat.reduceLT,Nat.reduceSub,Int.reduceToNat,Int.reduceLE,Int.reduceLT, VWs_seq, VWs_ret, VWs_ops, VWs_cond, one_imm, one_ref, w3]
  refine ECall.of k1 (SleL.pure rfl) ⟨_, fun _ => Iff.rfl⟩ fun x hx => ?_
  subst hx
  simp only [go_sem,Nat.reduceEqDiff,Nat.reduceAdd,Nat.reduceMul,↓reduceIte,↓dreduceIte,reduceCtorEq,Nat.reduceLeDiff,Nat.reduceLT,Nat.reduceSub,Int.reduceToNat,Int.reduceLE,Int.reduceLT, VWs_seq, VWs_ret, VWs_ops, VWs_cond, one_imm, one_ref, w3]
  refine ECall.of k2 (SleL.pure rfl) ⟨_, fun _ => Iff.rfl⟩ fun x hx => ?_
  subst hx
  simp only [go_sem,Nat.reduceEqDiff,Nat.reduceAdd,Nat.reduceMul,↓reduceIte,↓dreduceIte,reduceCtorEq,Nat.reduceLeDiff,Nat.reduceLT,Nat.reduceSub,Int.reduceToNat,Int.reduceLE,Int.reduceLT, VWs_seq, VWs_ret, VWs_ops, VWs_cond, one_imm, one_ref, w3, beq_self_eq_true]
  rw [bytes_refl]
  refine ⟨_, Wk.refl _, ?_⟩
  simp only [go_sem,Nat.reduceEqDiff,Nat.reduceAdd,Nat.reduceMul,↓reduceIte,↓dreduceIte,reduceCtorEq,Nat.reduceLeDiff,Nat.reduceLT,Nat.reduceSub,Int.reduceToNat,Int.reduceLE,Int.reduceLT, VWs_seq, VWs_ret, VWs_ops, VWs_cond, one_imm, one_ref]
  exact ⟨_, Frz.pure rfl, rfl⟩
set_option maxRecDepth 100000 in
theorem allocmeans_lifted (os : Os) (started : os.Started) (H : Type) (enc : TypeId × Value → H) :
    ReturnsInHanded {} Try.checked os 6 .any (Rows.allocMeansSpec.pre6 enc Try.prog Try.f6 Rows.allocMeansRow.domain false) (Rows.allocMeansSpec.post enc Try.prog Try.f6 false true false false) := by
  refine returnsInHanded_of_change_sized (C := Try.checked) Try.own started (by kernel_rfl) Try.func6
    (ChangeSpec.witness6 (enc := enc) (C := Try.checked) false ⟨#[], #[.agg #[.int .i64 0, .slice none 0 0], .string ⟨#[]⟩, .agg #[.int .u8 0, .int .u8 0]], []⟩ 8 (by kernel_rfl) (by kernel_rfl) (by kernel_rfl) (by kernel_rfl)) ?_
  intro W base args ds gs before hval hW _ hwt _
  refine law_calls (P := Try.prog) (n := 20) (shs := [bpSh, .str, .agg [.int .u8, .int .u8]]) (tb := 4) Try.laidOut rfl (by kernel_rfl) (by kernel_rfl) (by decide +kernel) (by kernel_rfl) (fun ds h => ?_) (fun xs hx => ?_) hval hW hwt
  · match ds, h with
    | [d1, d2, d3], _ => rfl
  · obtain ⟨x, xs', rfl, hx1, hxs⟩ := fitS_cons hx
    obtain ⟨y, ys', rfl, hy, hys⟩ := fitS_cons hxs
    obtain ⟨z, zs', rfl, hz, hzs⟩ := fitS_cons hys
    simp only [Sh.fitL] at hzs
    subst hzs
    obtain ⟨b, rfl, g1, g2, g3⟩ := bp_of hx1
    simp only [Sh.fit] at hy
    obtain ⟨inp, rfl, hinp⟩ := hy
    simp only [Sh.fit] at hz
    obtain ⟨cs, rfl, hcs⟩ := hz
    obtain ⟨u, us, rfl, hu, hus⟩ := fitS_cons hcs
    obtain ⟨v, vs, rfl, hv, hvs⟩ := fitS_cons hus
    simp only [Sh.fitL] at hvs
    subst hvs
    obtain ⟨p, rfl, hp⟩ := fit_y hu
    obtain ⟨q, rfl, hq⟩ := fit_y hv
    exact allocmeans_c b inp p q g1 g2 g3 hp hq
theorem allocmeans_holds : Rows.AllocMeansSaid :=
  OpenClaim.holds_of_wide 6 Try.f6 rfl rfl rfl rfl rfl rfl rfl ⟨rfl, rfl, rfl, rfl, rfl⟩ rfl rfl rfl rfl rfl (by kernel_rfl) Try.func6 (by kernel_rfl)
    (of_decide_eq_true (by kernel_rfl)) (by unfold Func.isWrapper; first | (rw [if_pos (by decide +kernel)]; kernel_rfl) | (rw [if_neg (by decide +kernel)]; exact ⟨rfl, rfl⟩))
    (fun os started H enc _ => allocmeans_lifted os started H enc)
end Go.Proofs.Ytncjbipnkdlkoaa
