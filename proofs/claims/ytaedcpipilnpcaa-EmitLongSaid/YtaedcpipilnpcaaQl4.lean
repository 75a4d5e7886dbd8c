/-
  EmitLong: contract. No condition. EmitLong: the row. No condition.
-/
import Derived.Test.YtaedcpipilnpcaaQl3
set_option linter.unusedVariables false
set_option linter.unusedSimpArgs false
namespace Go.Proofs.Ytaedcpipilnpcaa
set_option linter.unusedSimpArgs false
set_option linter.unusedVariables false
set_option maxRecDepth 10000
open Go.V Go.ChangeShapes Go.WideShapes Go.ChangeAt Go.RowKit
structure LQ22 where
  f : Nat
  s : Nat
  nx : Nat
abbrev W8 (n : Int) : AV := .val (.int .u8 n)
abbrev W16 (n : Int) : AV := .val (.int .u16 n)
theorem frzLL_app {n : Nat} {H : List VObj} {nx : Nat} : ∀ {A A' C C' : List (List AV)}, FrzLL n H nx A A' → FrzLL n H nx C C' → FrzLL n H nx (A ++ C) (A' ++ C')
  | [], _, _, _, h, k => by simp only [FrzLL] at h; subst h; exact k
  | y :: ys, _, _, _, h, k => by
    simp only [FrzLL] at h
    obtain ⟨z, zs', rfl, h1, h2⟩ := h
    exact ⟨z, zs' ++ _, rfl, h1, frzLL_app h2 k⟩
theorem long_C {W : Int} {m : Nat} {left : Int} {b : Int} {s s2 s3 nx : Nat} (hW2 : 1 ≤ W ∧ W ≤ 8000) (hm : m ≤ 62) (hb : 0 ≤ b ∧ b ≤ 255) (hleft : 4 ≤ left ∧ left ≤ 1993) (hsz : (lgN m : Nat) + 2 * ((preP m).length : Nat) + left ≤ 1993) :
    VWs Try.prog (tailC 8 c_sclaw22_EmitLong) (retQ Try.prog [.tmp 6] fun r H nx => ∃ y, Frz 0 H nx r y ∧ y = B true) ⟨[(2, W8 b), (8, .ptr 0 0 0), (9, I left), (12, .ptr 2 s2 0)], [⟨0, 24, 1, [I W, .ref 1 s 0 m]⟩, ⟨s, 29, 5, fcL W m⟩, ⟨s2, 29, 1, [I 0, I 0, I 0, B false, .ref 3 s3 0 (2 * (preP m).length)]⟩, ⟨s3, 32, 4, ((fl2 (preP m)).map siC).flatten⟩], nx⟩ := by
  have hmx : (2000000 : Nat) ≤ maxLen := by decide
  simp only [tailC, c_sclaw22_EmitLong, go_sem, VWs_seq]
  refine VW_loop (fun q : LQ22 => ⟨[(2, W8 b), (8, .ptr 0 0 0), (9, I (left - 2 * (q.f : Nat))), (12, .ptr 2 s2 0)], [⟨0, 24, 1, [I W, .ref 1 s 0 m]⟩, ⟨s, 29, 5, fcL W m⟩, ⟨s2, 29, 1, [I 0, I 0, I 0, B false, .ref 3 q.s 0 (2 * ((preP m).length + q.f))]⟩, ⟨q.s, 32, 4, ((fl2 (preP m ++ numP (b + left) q.f)).map siC).flatten⟩], q.nx⟩)
    (fun q => 2 ≤ left - 2 * (q.f : Nat)) (fun q => 2000 - q.f) ⟨0, s3, nx⟩ (Wk.mk (by simp [get_cons]) ⟨[], by simp [numP]⟩ (Nat.le_refl _)) (by simp only; omega) ?_
  rintro ⟨p, s4, nx4⟩ hp
  simp only at hp
  by_cases hlt : (3 : Int) < left - 2 * (p : Nat)
  · have u1 : IntKind.u32.wrap b = b := w32_in ⟨by omega, by omega⟩
    have u2 : IntKind.u32.wrap (left - 2 * (p : Nat)) = left - 2 * (p : Nat) := w32_in ⟨by omega, by omega⟩
    have u3 : IntKind.u32.wrap (b + (left - 2 * (p : Nat))) = b + left - 2 * (p : Nat) := by rw [show b + (left - 2 * (p : Nat)) = b + left - 2 * (p : Nat) by omega]; exact w32_in ⟨by omega, by omega⟩
    have u4 : IntKind.i64.wrap (left - 2 * (p : Nat) - 2) = left - 2 * ((p + 1 : Nat) : Int) := by rw [i64_in (by omega) (by omega)]; omega
    simp only [go_sem, Nat.reduceEqDiff, Nat.reduceAdd, ↓reduceIte, ↓dreduceIte, Nat.reduceLT, eq_true hlt, u1, u2, u3, List.cons_append, List.nil_append]
    refine ECall.of (bottom_c _) (SleL.pure rfl) ⟨_, fun _ => Iff.rfl⟩ fun x hx => ?_
    subst hx
    simp only [go_sem, Nat.reduceEqDiff, Nat.reduceAdd, ↓reduceIte, Nat.reduceLeDiff, Nat.reduceLT, u1, u2, u3, u4]
    have hln : ((fl2 (preP m ++ numP (b + left) p)).map siC).flatten.length = 2 * ((preP m).length + p) * 4 := by
      rw [sz_flat siC 4 (fun _ => rfl), fl2_len, List.length_append]; simp [numP]
    have hE : List.take (2 * ((preP m).length + p) * 4) ((fl2 (preP m ++ numP (b + left) p)).map siC).flatten ++ allCells [siA ⟨1, 0, 0, b + left - 2 * (p : Nat)⟩, siA ⟨13, 0, 0, 0⟩] = ((fl2 (preP m ++ numP (b + left) (p + 1))).map siC).flatten := by
      rw [List.take_of_length_le (Nat.le_of_eq hln), numP_succ, ← List.append_assoc, fl2_app (preP m ++ numP (b + left) p), List.map_append, List.flatten_append]; rfl
    refine ⟨fun y hy => ?_, by omega, by omega, ?_⟩
    · simp only [List.mem_cons, List.not_mem_nil, or_false] at hy
      rcases hy with rfl | rfl <;> rfl
    rw [hE]
    refine ⟨⟨p + 1, nx4, nx4 + 1⟩, by simp only; omega, by simp only; omega, ?_⟩
    exact Wk.mk (by simp [get_cons]) ⟨[], by simp; omega⟩ (Nat.le_refl _)
  · simp only [go_sem, Nat.reduceEqDiff, ↓reduceIte, eq_false hlt]
    have hln : ((fl2 (preP m ++ numP (b + left) p)).map siC).flatten.length = 2 * ((preP m).length + p) * 4 := by
      rw [sz_flat siC 4 (fun _ => rfl), fl2_len, List.length_append]; simp [numP]
    have hpl : (preP m).length ≤ 1 := by rw [preP_len]; split <;> omega
    have hE : List.take (2 * ((preP m).length + p) * 4) ((fl2 (preP m ++ numP (b + left) p)).map siC).flatten ++ [I 11, I 0, I 0, U32 0] = ((lgM m (b + left) p).code.map siC).flatten := by
      rw [List.take_of_length_le (Nat.le_of_eq hln)]
      unfold lgM
      simp only
      rw [List.map_append, List.flatten_append]; rfl
    refine ⟨_, Wk.refl _, ?_⟩
    simp only [go_sem, Nat.reduceEqDiff, Nat.reduceAdd, Nat.reduceMul, ↓reduceIte, Nat.reduceLeDiff, VWs_seq, List.cons_append, List.nil_append, hE]
    repeat ((with_reducible refine And.intro ?_ ?_); · first | omega | (simp; omega))
    refine ⟨_, Wk.refl _, ?_⟩
    simp only [go_sem, Nat.reduceEqDiff, Nat.reduceAdd, Nat.reduceMul, ↓reduceIte, VWs_seq, List.cons_append, List.nil_append]
    repeat ((with_reducible refine And.intro ?_ ?_); · first | omega | (simp; omega))
    have hz : SzP (lgP W m (b + left) p) := lg_sz hW2 hm ⟨by omega, by omega⟩ (by omega)
    have hlm : (lgM m (b + left) p).code.length = 2 * ((preP m).length + p) + 1 := by
      unfold lgM
      simp only
      rw [List.length_append, fl2_len, List.length_append]; simp [numP]
    have hcw : ∀ {H : List VObj} {x : Nat}, H[1]? = some ⟨nx4 + 1 + 1 + 1, 29, 5, List.take (m * 5) (fcL W m) ++ [I 0, I 0, I 0, B false, AV.ref 3 (nx4 + 1) 0 (2 * ((preP m).length + p) + 1)]⟩ → H[3]? = some ⟨nx4 + 1, 32, 4, ((lgM m (b + left) p).code.map siC).flatten⟩ → CW 1 H x [I W, AV.ref 1 (nx4 + 1 + 1 + 1) 0 (m + 1)] [I W, fnsA (lgP W m (b + left) p).funcs] := fun {H} {x} h1 h3 => by
      have hf := Frz.refT (n := 1) (nx := x) (z := 5) (len := m + 1) (by omega) h1 rfl rfl (yss := ((List.range m).map fun i => sfL (lgF W i)) ++ [[I 0, I 0, I 0, B false, AV.ref 3 (nx4 + 1) 0 (2 * ((preP m).length + p) + 1)]]) (zss := ((List.range m).map fun i => sfL (lgF W i)) ++ [sfL (lgM m (b + left) p)])
        (by rw [List.flatten_append, List.take_of_length_le (Nat.le_of_eq (fcL_len W m))]; rfl) (fun l hl => by
          rcases List.mem_append.1 hl with hl | hl
          · obtain ⟨i, _, rfl⟩ := List.mem_map.1 hl; rfl
          · rw [List.mem_singleton.1 hl]; rfl) (by simp) (frzLL_app (FrzLL.pure fun l hl => by obtain ⟨i, _, rfl⟩ := List.mem_map.1 hl; rfl) ⟨_, _, rfl, ⟨_, _, rfl, Frz.pure rfl, _, _, rfl, Frz.pure rfl, _, _, rfl, Frz.pure rfl, _, _, rfl, Frz.pure rfl, _, _, rfl, frz_codeN (lgM m (b + left) p).code (by omega) h3 hlm.symm, rfl⟩, rfl⟩)
      have e : AV.imm 5 ((((List.range m).map fun i => sfL (lgF W i)) ++ [sfL (lgM m (b + left) p)]).map .agg) = fnsA (lgP W m (b + left) p).funcs := by
        simp only [lgP, fnsA, List.map_append, List.map_map]; rfl
      rw [e] at hf
      refine ⟨rfl, fun i x y hx hy => ?_⟩
      match i with
      | 0 => simp at hx hy; subst hx; subst hy; exact .inl rfl
      | 1 => simp at hx hy; subst hx; subst hy; exact .inr hf
      | i + 2 => simp at hx
    refine ⟨⟨[(8, .ptr 0 0 0)], [⟨0, 24, 1, [I W, fnsA (lgP W m (b + left) p).funcs]⟩], nx4 + 1 + 1 + 1 + 1⟩, ?_, ?_⟩
    · exact Wk.give (by simp [get_cons]) ⟨rfl, rfl, rfl, (fun h => absurd h (Nat.succ_ne_zero 0)), hcw rfl rfl, trivial⟩ (Nat.le_refl _)
    have hsp : (AV.agg [I W, fnsA (lgP W m (b + left) p).funcs]) = spA (lgP W m (b + left) p) := rfl
    have hR := hz.r
    have hlen := hR.n1
    have hcode : ∀ f, ((lgP W m (b + left) p).fn f).code.length ≤ 1000000 := fun f => by
      by_cases hf : f < (lgP W m (b + left) p).funcs.length
      · have := hz.code hf; omega
      · unfold SP.fn; rw [List.getD, List.getElem?_eq_none (by omega)]; exact Nat.zero_le _
    generalize hsg : lgP W m (b + left) p = sp at *
    have hww : sp.words = W := by rw [← hsg]; rfl
    have hfit : FitP sp := ⟨hz.wf, hR.w0, by have := hR.w1; omega, by omega, fun e => by have := hR.n0; rw [e] at this; simp at this, hcode⟩
    have hin : InP sp := ⟨by omega, hcode, fun f => by have := par_in hR f; exact ⟨by omega, by omega⟩⟩
    have h64 : ∀ f, Int64 (sp.fn f).slots ∧ Int64 (sp.fn f).first := fun f => by
      have hw1 := hR.w1
      by_cases hf : f < sp.funcs.length
      · obtain ⟨k1, k2, k3, k4, k5⟩ := (hR.fn f hf).h
        exact ⟨⟨by omega, by omega⟩, ⟨by omega, by omega⟩⟩
      · unfold SP.fn; rw [List.getD, List.getElem?_eq_none (by omega)]; exact ⟨⟨by decide, by decide⟩, ⟨by decide, by decide⟩⟩
    have j1 := r20right_c sp hin ⟨by omega, by omega⟩ h64
    rw [rightB_iff.2 hR] at j1
    have j2 := of22_c hz.ofH
    unfold ofA at j2
    have j3 := refsize_c sp (by omega) fun g hg => by
      obtain ⟨i, hi, rfl⟩ := List.getElem_of_mem hg
      have := hcode i
      unfold SP.fn at this
      rw [List.getD, List.getElem?_eq_getElem hi] at this
      simp only [Option.getD_some] at this
      omega
    have j4 := does_c sp hz hfit ⟨#[]⟩ (by decide) 3000 (by decide)
    have hsz2 : sizeS sp.funcs ≤ 2000 := hz.n
    generalize codeE sp = code at *
    generalize dataE sp = data at *
    rw [← hww]
    simp only [go_sem, Nat.reduceEqDiff, Nat.reduceAdd, ↓reduceIte, ↓dreduceIte, VWs_seq]
    refine VCall.of_contract j1 (SleL.pure rfl) fun x hx => ?_
    subst hx
    simp only [go_sem, ↓reduceIte]
    refine ⟨_, Wk.refl _, ?_⟩
    simp only [go_sem, Nat.reduceEqDiff, Nat.reduceAdd, ↓reduceIte, ↓dreduceIte, VWs_seq]
    refine VCall.of_contract j2 (SleL.pure rfl) fun x hx => ?_
    subst hx
    simp only [go_sem, Nat.reduceEqDiff, Nat.reduceAdd, ↓reduceIte, Nat.reduceLT]
    refine ⟨_, Wk.refl _, ?_⟩
    simp only [go_sem, Nat.reduceEqDiff, Nat.reduceAdd, ↓reduceIte, ↓dreduceIte, VWs_seq, Int.reduceBEq]
    refine VCall.of_contract j3 (SleL.pure rfl) fun x hx => ?_
    subst hx
    simp only [go_sem, Nat.reduceEqDiff, Nat.reduceAdd, ↓reduceIte, ↓dreduceIte, eq_true (show ((sizeS sp.funcs : Nat) : Int) ≤ 2000 by omega)]
    refine VCall.of_contract j4 (SleL.pure rfl) fun x hx => ?_
    subst hx
    simp only [go_sem, Nat.reduceEqDiff, ↓reduceIte]
    refine ⟨_, Wk.refl _, ?_⟩
    simp only [go_sem, ↓reduceIte, VWs_ret]
    exact ⟨_, Frz.pure rfl, rfl⟩
theorem long_B {W : Int} {m : Nat} {left : Int} {b : Int} {s nx : Nat} (hW2 : 1 ≤ W ∧ W ≤ 8000) (hm : m ≤ 62) (hb : 0 ≤ b ∧ b ≤ 255) (hleft : 4 ≤ left ∧ left ≤ 1993) (hl : 0 < m → 10 ≤ left) (hsz : (lgN m : Nat) + left ≤ 1993) :
    VWs Try.prog (tailC 6 c_sclaw22_EmitLong) (retQ Try.prog [.tmp 6] fun r H nx => ∃ y, Frz 0 H nx r y ∧ y = B true) ⟨[(2, W8 b), (8, .ptr 0 0 0), (9, I left)], [⟨0, 24, 1, [I W, .ref 1 s 0 m]⟩, ⟨s, 29, 5, fcL W m⟩], nx⟩ := by
  have hmx : (2000000 : Nat) ≤ maxLen := by decide
  simp only [tailC, c_sclaw22_EmitLong, go_sem, Nat.reduceAdd, VWs_seq]
  have v1 := virt_at (env := [(2, W8 b), (8, .ptr 0 0 0), (9, I left), (12, .ptr 2 nx 0)]) (H := [⟨0, 24, 1, [I W, .ref 1 s 0 m]⟩, ⟨s, 29, 5, fcL W m⟩, ⟨nx, 29, 1, [I 0, I 0, I 0, B false, nilv]⟩]) (nx := nx + 1) (i := 2) (ob := ⟨nx, 29, 1, [I 0, I 0, I 0, B false, nilv]⟩) (cs' := [I 0, I 0, I 0, B false, .ref 3 (nx + 1) 0 0]) 32 4 (by decide) (by simp [get_cons]) rfl (by simp) rfl (fun j a c ha hc => by
    match j with
    | 0 => simp at ha hc; subst ha; subst hc; exact .inl rfl
    | 1 => simp at ha hc; subst ha; subst hc; exact .inl rfl
    | 2 => simp at ha hc; subst ha; subst hc; exact .inl rfl
    | 3 => simp at ha hc; subst ha; subst hc; exact .inl rfl
    | 4 => simp at ha hc; subst ha; subst hc; exact .inr ⟨rfl, by simp⟩
    | j + 5 => simp at ha)
  refine ⟨⟨[(2, W8 b), (8, .ptr 0 0 0), (9, I left), (12, .ptr 2 nx 0)], [⟨0, 24, 1, [I W, .ref 1 s 0 m]⟩, ⟨s, 29, 5, fcL W m⟩, ⟨nx, 29, 1, [I 0, I 0, I 0, B false, .ref 3 (nx + 1) 0 0]⟩, ⟨nx + 1, 32, 4, []⟩], nx + 1 + 1⟩, ?_, ?_⟩
  · refine Wk.trans ?_ v1
    exact Wk.mk (by simp [get_cons]) ⟨[], by simp⟩ (Nat.le_refl _)
  by_cases h0 : 0 < m
  · have hpl : (preP m).length = 1 := by rw [preP_len, if_pos h0]
    have hpf : ((fl2 (preP m)).map siC).flatten = [I 10, I 0, I 0, U32 0, I 13, I 0, I 0, U32 0] := by unfold preP; rw [if_pos h0]; rfl
    have w1 : IntKind.i64.wrap (left - 2) = left - 2 := i64_in (by omega) (by omega)
    have h10 := hl h0
    simp only [go_sem, Nat.reduceEqDiff, Nat.reduceAdd, Nat.reduceMul, ↓reduceIte, Nat.reduceLeDiff, VWs_seq, eq_true (show (0 : Int) < m by omega), w1, List.cons_append, List.nil_append]
    have hfin := fun s2 s3 nx => long_C (s := s) (s2 := s2) (s3 := s3) (nx := nx) hW2 hm hb (left := left - 2) ⟨by omega, by omega⟩ (by rw [hpl]; omega)
    simp only [tailC, c_sclaw22_EmitLong, hpl, hpf] at hfin
    repeat ((with_reducible refine And.intro ?_ ?_); · first | omega | (simp; omega))
    refine ⟨_, ?_, hfin nx (nx + 1 + 1 + 1) (nx + 1 + 1 + 1 + 1)⟩
    exact Wk.mk (by simp [get_cons]) ⟨[_], rfl⟩ (Nat.le_refl _)
  · have hpl : (preP m).length = 0 := by rw [preP_len, if_neg h0]
    have hpf : ((fl2 (preP m)).map siC).flatten = [] := by unfold preP; rw [if_neg h0]; rfl
    simp only [go_sem, Nat.reduceEqDiff, Nat.reduceAdd, ↓reduceIte, VWs_seq, eq_false (show ¬ (0 : Int) < m by omega)]
    have hfin := fun s2 s3 nx => long_C (s := s) (s2 := s2) (s3 := s3) (nx := nx) hW2 hm hb (left := left) hleft (by rw [hpl]; omega)
    simp only [tailC, c_sclaw22_EmitLong, hpl, hpf] at hfin
    refine ⟨_, ?_, hfin nx (nx + 1) (nx + 1 + 1)⟩
    exact Wk.mk (by simp [get_cons]) ⟨[], rfl⟩ (Nat.le_refl _)
set_option maxHeartbeats 4000000 in
theorem emitlong_c (n w : Int) (b : Int) (hn : 0 ≤ n ∧ n ≤ 65535) (hw : 0 ≤ w ∧ w ≤ 65535) (hb : 0 ≤ b ∧ b ≤ 255) : Contract Try.prog 5 [W16 n, W16 w, W8 b] (fun r => r = B true) := by
  have hq := f_sclaw22_EmitLong
  unfold compF compFp at hq
  have hmx : (2000000 : Nat) ≤ maxLen := by decide
  refine Contract.of_call (VCall.of_bodyS (pt := false) (pf := false) hmix hq (by simp) ?_)
  simp only [go_sem, Nat.reduceAdd, VWs_seq, c_sclaw22_EmitLong]
  refine ⟨_, Wk.refl _, ?_⟩
  simp only [go_sem, VWs_seq]
  refine VCall.of_contract (alive_c) (SleL.pure rfl) fun x hx => ?_
  subst hx
  simp only [go_sem, ↓reduceIte]
  refine ⟨_, Wk.refl _, ?_⟩
  have t1 : n.tmod 1990 = n % 1990 := Int.tmod_eq_emod_of_nonneg hn.1
  have t2 : w.tmod 8000 = w % 8000 := Int.tmod_eq_emod_of_nonneg hw.1
  have w1 : IntKind.i64.wrap n = n := i64_in (by omega) (by omega)
  have w2 : IntKind.i64.wrap w = w := i64_in (by omega) (by omega)
  have w3 : IntKind.i64.wrap (n % 1990) = n % 1990 := i64_in (by omega) (by omega)
  have w4 : IntKind.i64.wrap (w % 8000) = w % 8000 := i64_in (by omega) (by omega)
  obtain ⟨sz, hsz⟩ : ∃ sz : Nat, 4 + n % 1990 = (sz : Int) := ⟨(4 + n % 1990).toNat, by omega⟩
  have hsz2 : 4 ≤ sz ∧ sz ≤ 1993 := by omega
  obtain ⟨W, hW⟩ : ∃ W : Int, 1 + w % 8000 = W := ⟨_, rfl⟩
  have hW2 : 1 ≤ W ∧ W ≤ 8000 := by omega
  have w5 : IntKind.i64.wrap (4 + n % 1990) = (sz : Int) := by rw [hsz]; exact i64_in (by omega) (by omega)
  have w6 : IntKind.i64.wrap (1 + w % 8000) = W := by rw [hW]; exact i64_in (by omega) (by omega)
  simp only [go_sem, ↓reduceIte, reduceCtorEq, VWs_seq, Int.reduceEq, w1, t1, w5]
  refine ⟨_, Wk.refl _, ?_⟩
  simp only [go_sem, Nat.reduceEqDiff, Nat.reduceAdd, ↓reduceIte, reduceCtorEq, Nat.reduceLeDiff, VWs_seq, Int.reduceEq, w2, t2, w6]
  refine ⟨⟨[(2, W8 b), (7, I sz), (8, .ptr 0 0 0)], [⟨0, 24, 1, [I W, nilv]⟩], 1⟩, Wk.mk (by simp [get_cons]) ⟨[], by simp⟩ (Nat.le_refl _), ?_⟩
  simp only [go_sem, Nat.reduceEqDiff, ↓reduceIte, VWs_seq]
  have v1 := virt_at (env := [(2, W8 b), (8, .ptr 0 0 0), (9, I sz)]) (H := [⟨0, 24, 1, [I W, nilv]⟩]) (nx := 1) (i := 0) (ob := ⟨0, 24, 1, [I W, nilv]⟩) (cs' := [I W, .ref 1 1 0 0]) 29 5 (by decide) (by simp [get_cons]) rfl (by simp) rfl (fun j a c ha hc => by
    match j with
    | 0 => simp at ha hc; subst ha; subst hc; exact .inl rfl
    | 1 => simp at ha hc; subst ha; subst hc; exact .inr ⟨rfl, by simp⟩
    | j + 2 => simp at ha)
  have v0 : Wk ⟨[(9, I sz), (26, I sz), (2, W8 b), (7, I sz), (8, .ptr 0 0 0)], [⟨0, 24, 1, [I W, nilv]⟩], 1⟩ ⟨[(2, W8 b), (8, .ptr 0 0 0), (9, I sz)], [⟨0, 24, 1, [I W, nilv]⟩], 1⟩ := Wk.mk (by simp [get_cons]) ⟨[], by simp⟩ (Nat.le_refl _)
  refine ⟨⟨[(2, W8 b), (8, .ptr 0 0 0), (9, I sz)], [⟨0, 24, 1, [I W, .ref 1 1 0 0]⟩, ⟨1, 29, 5, []⟩], 2⟩, v0.trans v1, ?_⟩
  simp only [go_sem, VWs_seq]
  refine VW_loop (fun q : LQ22 => ⟨[(2, W8 b), (8, .ptr 0 0 0), (9, I ((sz : Int) - (lgN q.f : Nat))), (10, I q.f)], [⟨0, 24, 1, [I W, .ref 1 q.s 0 q.f]⟩, ⟨q.s, 29, 5, fcL W q.f⟩], q.nx⟩) (fun q => q.f ≤ 62 ∧ ((0 : Nat) < q.f → (10 : Int) ≤ (sz : Int) - (lgN q.f : Nat))) (fun q => 62 - q.f) ⟨0, 1, 2⟩
    (Wk.mk (by simp [get_cons, lgN]) ⟨[], by simp [fcL]⟩ (Nat.le_refl _)) ⟨by decide, fun h => absurd h (Nat.lt_irrefl 0)⟩ ?_
  rintro ⟨f, s, nx⟩ ⟨hf, hl⟩
  simp only at hf hl
  by_cases hlt : f < 62 ∧ (12 : Int) < (sz : Int) - (lgN f : Nat)
  · have hN : lgN (f + 1) = lgN f + (2 + f % 2) := by unfold lgN; omega
    have t4 : W.tdiv 2 = W / 2 := Int.tdiv_eq_ediv_of_nonneg (by omega)
    have t5 : W.tdiv 4 = W / 4 := Int.tdiv_eq_ediv_of_nonneg (by omega)
    have u1 : IntKind.u32.wrap (f : Int) = f := w32_in ⟨by omega, by omega⟩
    have u2 : IntKind.i64.wrap (W / 2) = W / 2 := i64_in (by omega) (by omega)
    have u3 : IntKind.i64.wrap (W / 4) = W / 4 := i64_in (by omega) (by omega)
    have u4 : IntKind.i64.wrap (W - 1) = W - 1 := i64_in (by omega) (by omega)
    have u5 : IntKind.i64.wrap ((f : Int) + 1) = ((f + 1 : Nat) : Int) := by rw [i64_in (by omega) (by omega)]; omega
    have z0 : IntKind.i64.wrap 0 = 0 := rfl
    have z1 : IntKind.i64.wrap 1 = 1 := rfl
    by_cases he : f % 2 = 0
    · have t3 : (f : Int).tmod 2 = 0 := by rw [Int.tmod_eq_emod_of_nonneg (by omega)]; omega
      have hg : sfL (lgF W f) = [I 0, I (W / 2), I (W / 4), B true, .imm 4 ([⟨1, 0, 0, f⟩, ⟨11, 0, 0, 0⟩].map siA)] := by simp [lgF, he]
      simp only [go_sem, Nat.reduceEqDiff, Nat.reduceAdd, Nat.reduceMul, ↓reduceIte, Nat.reduceLeDiff, Int.reduceEq, Int.reduceBEq, eq_true (show (f : Int) < 62 by omega), eq_true hlt.2, t3, t4, t5, u1, u2, u3, u5, List.cons_append, List.nil_append]
      repeat ((with_reducible refine And.intro ?_ ?_); · first | omega | (simp; omega))
      have u7 : IntKind.i64.wrap ((sz : Int) - (lgN f : Nat) - ((2 : Nat) : Int)) = (sz : Int) - (lgN (f + 1) : Nat) := by rw [i64_in (by omega) (by omega), hN]; omega
      have hcw : ∀ {m : Nat} {H : List VObj} {x s4 : Nat}, m ≤ 4 → H[4]? = some ⟨s4, 32, 4, [I 1, I 0, I 0, U32 f, I 11, I 0, I 0, U32 0]⟩ → CW m H x (List.take (f * 5) (fcL W f) ++ [I 0, I (W / 2), I (W / 4), B true, AV.ref 4 s4 0 2]) (fcL W (f + 1)) := fun h1 h2 => by
        rw [fcL_succ, hg, List.take_of_length_le (Nat.le_of_eq (fcL_len W f))]
        exact cwPre (CW.append ⟨_, _, rfl, Frz.pure rfl, _, _, rfl, Frz.pure rfl, _, _, rfl, Frz.pure rfl, _, _, rfl, Frz.pure rfl, _, _, rfl, frz_codeN [⟨1, 0, 0, f⟩, ⟨11, 0, 0, 0⟩] h1 h2 rfl, rfl⟩)
      rw [u7]
      refine ⟨⟨f + 1, _, _⟩, ⟨by simp only; omega, fun _ => by simp only; omega⟩, by simp only; omega, Wk.give (by simp [get_cons]) ⟨rfl, rfl, rfl, fun _ => rfl, CW.refl _, rfl, rfl, rfl, (fun h => absurd h (Nat.succ_ne_zero 4)), hcw (show 2 ≤ 4 by omega) rfl, trivial⟩ (Nat.le_refl _)⟩
    · have t3 : (f : Int).tmod 2 = 1 := by rw [Int.tmod_eq_emod_of_nonneg (by omega)]; omega
      have hg : sfL (lgF W f) = [I 0, I (W / 2), I (W / 4), B false, .imm 4 ([⟨1, 0, 0, f⟩, ⟨3, W - 1, 0, 0⟩, ⟨11, 0, 0, 0⟩].map siA)] := by simp [lgF, he]
      simp only [go_sem, Nat.reduceEqDiff, Nat.reduceAdd, Nat.reduceMul, ↓reduceIte, Nat.reduceLeDiff, Int.reduceEq, Int.reduceBEq, eq_true (show (f : Int) < 62 by omega), eq_true hlt.2, t3, t4, t5, u1, u2, u3, u4, u5, List.cons_append, List.nil_append]
      repeat ((with_reducible refine And.intro ?_ ?_); · first | omega | (simp; omega))
      have u7 : IntKind.i64.wrap ((sz : Int) - (lgN f : Nat) - ((3 : Nat) : Int)) = (sz : Int) - (lgN (f + 1) : Nat) := by rw [i64_in (by omega) (by omega), hN]; omega
      have hcw : ∀ {m : Nat} {H : List VObj} {x s4 : Nat}, m ≤ 4 → H[4]? = some ⟨s4, 32, 4, [I 1, I 0, I 0, U32 f, I 3, I (W - 1), I 0, U32 0, I 11, I 0, I 0, U32 0]⟩ → CW m H x (List.take (f * 5) (fcL W f) ++ [I 0, I (W / 2), I (W / 4), B false, AV.ref 4 s4 0 3]) (fcL W (f + 1)) := fun h1 h2 => by
        rw [fcL_succ, hg, List.take_of_length_le (Nat.le_of_eq (fcL_len W f))]
        exact cwPre (CW.append ⟨_, _, rfl, Frz.pure rfl, _, _, rfl, Frz.pure rfl, _, _, rfl, Frz.pure rfl, _, _, rfl, Frz.pure rfl, _, _, rfl, frz_codeN [⟨1, 0, 0, f⟩, ⟨3, W - 1, 0, 0⟩, ⟨11, 0, 0, 0⟩] h1 h2 rfl, rfl⟩)
      rw [u7]
      refine ⟨⟨f + 1, _, _⟩, ⟨by simp only; omega, fun _ => by simp only; omega⟩, by simp only; omega, Wk.give (by simp [get_cons]) ⟨rfl, rfl, rfl, fun _ => rfl, CW.refl _, rfl, rfl, rfl, (fun h => absurd h (Nat.succ_ne_zero 4)), hcw (show 2 ≤ 4 by omega) rfl, trivial⟩ (Nat.le_refl _)⟩
  have hle : (4 : Int) ≤ (sz : Int) - (lgN f : Nat) := by
    by_cases h : 0 < f
    · have := hl h; omega
    · obtain rfl : f = 0 := by omega
      simp only [lgN]; omega
  have hfin := long_B (s := s) (nx := nx) hW2 hf hb (left := (sz : Int) - (lgN f : Nat)) ⟨hle, by omega⟩ hl (by omega)
  simp only [tailC, c_sclaw22_EmitLong] at hfin
  by_cases h62 : f < 62
  · simp only [go_sem, Nat.reduceEqDiff, ↓reduceIte, eq_true (show (f : Int) < 62 by omega), eq_false (show ¬ (12 : Int) < (sz : Int) - (lgN f : Nat) from fun h => hlt ⟨h62, h⟩)]
    refine ⟨_, ?_, hfin⟩
    exact Wk.mk (by simp [get_cons]) ⟨[], by simp⟩ (Nat.le_refl _)
  · simp only [go_sem, Nat.reduceEqDiff, ↓reduceIte, eq_false (show ¬ (f : Int) < 62 by omega)]
    refine ⟨_, ?_, hfin⟩
    exact Wk.mk (by simp [get_cons]) ⟨[], by simp⟩ (Nat.le_refl _)
end Go.Proofs.Ytaedcpipilnpcaa
namespace Go.Proofs.Ytaedcpipilnpcaa
set_option linter.unusedSimpArgs false
set_option linter.unusedVariables false
set_option maxRecDepth 10000
open Go.V Go.ChangeShapes Go.WideShapes Go.ChangeAt Go.RowKit
set_option maxRecDepth 100000 in
theorem emitlong_lifted (os : Os) (started : os.Started) (H : Type) (enc : TypeId × Value → H) :
    ReturnsInHanded {} Try.checked os 5 .any (Rows.emitLongSpec.pre6 enc Try.prog Try.f5 Rows.emitLongRow.domain false) (Rows.emitLongSpec.post enc Try.prog Try.f5 false true false false) := by
  refine returnsInHanded_of_change_sized (C := Try.checked) Try.own started (by kernel_rfl) Try.func5
    (ChangeSpec.witness6 (enc := enc) (C := Try.checked) false ⟨#[], #[.int .u16 0, .int .u16 0, .int .u8 0], []⟩ 8 (by kernel_rfl) (by kernel_rfl) (by kernel_rfl) (by kernel_rfl)) ?_
  intro W base args ds gs before hval hW _ hwt _
  refine law_calls (P := Try.prog) (n := 20) (shs := [.int .u16, .int .u16, .int .u8]) (tb := 4) Try.laidOut rfl (by kernel_rfl) (by kernel_rfl) (by decide +kernel) (by kernel_rfl) (fun ds h => ?_) (fun xs hx => ?_) hval hW hwt
  · match ds, h with
    | [d1, d2, d3], _ => rfl
  · obtain ⟨x, xs', rfl, hx1, hxs⟩ := fitS_cons hx
    obtain ⟨y, ys', rfl, hy, hys⟩ := fitS_cons hxs
    obtain ⟨z, zs', rfl, hz, hzs⟩ := fitS_cons hys
    simp only [Sh.fitL] at hzs
    subst hzs
    simp only [Sh.fit] at hx1 hy hz
    obtain ⟨n, rfl, h1⟩ := hx1
    obtain ⟨w, rfl, h2⟩ := hy
    obtain ⟨b, rfl, h3⟩ := hz
    simp [Lit.wf, IntKind.min, IntKind.max, IntKind.bits, IntKind.signed] at h1 h2 h3
    exact emitlong_c n w b (by omega) (by omega) (by omega)
theorem emitlong_holds : Rows.EmitLongSaid :=
  OpenClaim.holds_of_wide 5 Try.f5 rfl rfl rfl rfl rfl rfl rfl ⟨rfl, rfl, rfl, rfl, rfl⟩ rfl rfl rfl rfl rfl (by kernel_rfl) Try.func5 (by kernel_rfl)
    (of_decide_eq_true (by kernel_rfl)) (by unfold Func.isWrapper; first | (rw [if_pos (by decide +kernel)]; kernel_rfl) | (rw [if_neg (by decide +kernel)]; exact ⟨rfl, rfl⟩))
    (fun os started H enc _ => emitlong_lifted os started H enc)
end Go.Proofs.Ytaedcpipilnpcaa
