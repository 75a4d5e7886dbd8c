/-
  The least table by the program's search, from its beginning on: contract. No condition.
-/
import Derived.Test.YtjdeediehmhdoaaBL
namespace Go.Proofs.Ytjdeediehmhdoaa
set_option linter.unusedSimpArgs false
set_option linter.unusedVariables false
set_option maxRecDepth 10000
open Go.V

/-- What the search's beginning is said to be. -/
def SolverOfV (f : BF) : Prop := ∀ (o0 o1 : VObj) (C : AV → List VObj → Nat → Prop), o0.ty = 24 → o1.ty = 29 →
  (∀ q H nx wv, HS f H q wv (beginS f) → H[0]? = some o0 → H[1]? = some o1 → C (.ptr q.kS q.sS 0) H nx) → VCall Try.prog 30 [bfA f] [o0, o1] 2 C

theorem flags_del {n b : Nat} {w0 : List Nat} (h : b < n) (hb : b ∉ w0) : (flags n (w0 ++ [b])).set b false = flags n w0 := gB_ext (by simp [flags]) fun v hv => by
  have hv' : v < n := by simpa [flags] using hv
  rw [gB_set _ _ _ _ (by rw [flags_len]; exact hv'), flags_get hv', flags_get hv']
  by_cases e : b = v
  · subst e; simp [hb]
  · rw [if_neg e]
    have : ¬ v = b := fun h => e h.symm
    simp [this]
theorem cellT_preds {n : Nat} {pi : Nat → Nat × Nat} {pl : Nat → List Nat} {b : Nat} {C : AV → Prop} : cellT ((List.range n).map fun b => AV.ref (pi b).1 (pi b).2 0 (pl b).length) b false 1 C .mk = (b < n ∧ C (.ref (pi b).1 (pi b).2 0 (pl b).length)) := by
  rw [cellT_map (fun _ => rfl)]
  apply propext
  rw [List.length_range]
  refine ⟨fun ⟨h1, h2⟩ => ⟨h1, ?_⟩, fun ⟨h1, h2⟩ => ⟨h1, ?_⟩⟩
  · rw [range_get h1] at h2; exact h2
  · rw [range_get h1]; exact h2
theorem cellT_nats {l : List Nat} {b : Nat} {C : AV → Prop} : cellT (natsL l) b false 1 C .mk = (b < l.length ∧ C (I (l.getD b default : Nat))) := cellT_map fun _ => rfl
theorem waits_take (w0 : List Nat) (ls : List Nat) {j : Nat} (hj : j < ls.length) : waitsS w0 (ls.take (j + 1)) = waitS (waitsS w0 (ls.take j)) (ls.getD j default) := by
  have e : ls.take (j + 1) = ls.take j ++ [ls.getD j default] := by rw [List.take_add_one]; simp [List.getD, List.getElem?_eq_getElem hj]
  rw [e]; simp [waitsS]
theorem last_get (w0 : List Nat) (b : Nat) (rest : List Nat) : (w0 ++ [b] ++ rest).getD w0.length default = b := by
  rw [List.getD, List.append_assoc, List.getElem?_append_right (Nat.le_refl _), Nat.sub_self]; rfl

theorem flat_le {α β : Type} (g : α → List β) (h : ∀ a, (g a).length ≤ 2) : ∀ l : List α, (l.flatMap g).length ≤ 2 * l.length
  | [] => by simp
  | a :: l => by
    have := flat_le g h l
    have := h a
    rw [List.flatMap_cons, List.length_append, List.length_cons]; omega
theorem predL_len (f : BF) (b : Nat) : (predL f b).length ≤ 2 * f.n := by
  have := flat_le (fun a => ((nxt (f.bk a)).filter fun k => decide (k.toNat = b)).map fun _ => a) (fun a => by
    rw [List.length_map]
    exact Nat.le_trans (List.length_filter_le _ _) (nxt_len _)) (List.range f.n)
  rw [List.length_range] at this
  exact this
/-- In an object nil slices are taken for a slice over an object that is not there yet. -/
theorem virt_at {env : List (Nat × AV)} {H : List VObj} {nx i : Nat} {ob : VObj} {cs' : List AV} (ty sz : Nat) (hsz : sz ≠ 0) (he : ∀ p ∈ env, get env p.1 = p.2) (ho : H[i]? = some ob) (hz : ob.sz ≠ 0) (hl : ob.cs.length = cs'.length)
    (hc : ∀ (j : Nat) x y, ob.cs[j]? = some x → cs'[j]? = some y → x = y ∨ (x = .val (.slice none 0 0) ∧ y = .ref H.length nx 0 0)) : Wk ⟨env, H, nx⟩ ⟨env, H.set i ⟨ob.s, ob.ty, ob.sz, cs'⟩ ++ [⟨nx, ty, sz, []⟩], nx + 1⟩ := by
  refine Wk.virt ty sz hsz (fun p hp => .inl (he p hp)) ⟨H.set i ⟨ob.s, ob.ty, ob.sz, cs'⟩, rfl, by simp, fun j ob' h => ?_⟩ rfl
  rw [List.getElem?_set] at h
  by_cases e : i = j
  · subst e
    rw [if_pos rfl, if_pos (List.getElem?_eq_some_iff.1 ho).1] at h
    cases h
    exact ⟨ob, ho, rfl, rfl, rfl, hl, fun h => absurd h hz, hc⟩
  · rw [if_neg e] at h
    exact ⟨ob', h, rfl, rfl, rfl, rfl, fun _ => rfl, fun _ x y hx hy => .inl (by rw [hx] at hy; exact Option.some.inj hy)⟩
structure RQ where
  b : Nat
  s1 : Nat
  s2 : Nat
  nx : Nat
abbrev lvR (L : LD) (K s0 : Nat) (x : RQ) : List VObj := [⟨s0, 29, 1, [.ref (K + 1) x.s1 0 x.b, .ref (K + 2) x.s2 0 x.b]⟩, ⟨x.s1, 39, 1, (L.inn.take x.b).map bools⟩, ⟨x.s2, 39, 1, (L.out.take x.b).map bools⟩]
structure OQ where
  H : List VObj
  wv : AV
  σ : SV
  nx : Nat
structure WQ where
  j : Nat
  H : List VObj
  wv : AV
  nx : Nat
theorem rows_snoc {m : List (List Bool)} {b : Nat} (hb : b < m.length) : List.take b ((m.take b).map bools) ++ [bools (m.getD b [])] = (m.take (b + 1)).map bools := by
  rw [List.take_of_length_le (by simp; omega), List.take_add_one, List.map_append]
  simp [List.getD, List.getElem?_eq_getElem hb]
theorem lv_virt (L : LD) (H : List VObj) (nx : Nat) (env : List (Nat × AV)) (he : ∀ p ∈ env, get env p.1 = p.2) : Wk ⟨env, H ++ [⟨nx, 29, 1, [nilv, nilv]⟩], nx + 1⟩ ⟨env, H ++ lvR L H.length nx ⟨0, nx + 1, nx + 1 + 1, nx + 1 + 1 + 1⟩, nx + 1 + 1 + 1⟩ := by
  have h1 := virt_at (env := env) (H := H ++ [⟨nx, 29, 1, [nilv, nilv]⟩]) (nx := nx + 1) (i := H.length) (ob := ⟨nx, 29, 1, [nilv, nilv]⟩) (cs' := [.ref (H.length + 1) (nx + 1) 0 0, nilv]) 39 1 (by decide) he (by rw [app_get0]; rfl) (by simp) rfl (fun j x y hx hy => by
    match j with
    | 0 => simp at hx hy; subst hx; subst hy; exact .inr ⟨rfl, by simp⟩
    | 1 => simp at hx hy; subst hx; subst hy; exact .inl rfl
    | j + 2 => simp at hx)
  rw [app_set0, List.append_assoc] at h1
  have h2 := virt_at (env := env) (H := H ++ [⟨nx, 29, 1, [.ref (H.length + 1) (nx + 1) 0 0, nilv]⟩, ⟨nx + 1, 39, 1, []⟩]) (nx := nx + 1 + 1) (i := H.length) (ob := ⟨nx, 29, 1, [.ref (H.length + 1) (nx + 1) 0 0, nilv]⟩)
    (cs' := [.ref (H.length + 1) (nx + 1) 0 0, .ref (H.length + 2) (nx + 1 + 1) 0 0]) 39 1 (by decide) he (by rw [app_get0]; rfl) (by simp) rfl (fun j x y hx hy => by
    match j with
    | 0 => simp at hx hy; subst hx; subst hy; exact .inl rfl
    | 1 => simp at hx hy; subst hx; subst hy; exact .inr ⟨rfl, by simp⟩
    | j + 2 => simp at hx)
  rw [app_set0, List.append_assoc] at h2
  exact h1.trans h2
theorem of_c (f : BF) (hf : Fine f) (hr : f.r ≤ 64) (hV : SolverOfV f) (L : LD) (hL : Least f L) : Contract Try.prog 13 [bfA f] (fun x => x = liveA L) := by
  refine Contract.of_call (VCall.of_body hmix f_live_Of (by simp) ?_)
  have hr0 := hf.r0
  have hn5 : f.n ≤ 500 := hf.b1
  have hlen : (f.bks.length : Int) = f.n := rfl
  simp only [go_sem,Nat.reduceEqDiff,Nat.reduceAdd,Nat.reduceMul,↓reduceIte,↓dreduceIte,reduceCtorEq,Nat.reduceLeDiff,Nat.reduceLT,Nat.reduceSub,Int.reduceToNat,Int.reduceLE,Int.reduceLT, c_live_Of, one_imm, one_ref, List.length_map]
  refine hV _ _ _ rfl rfl fun q H nx wv h h0 h1 => ?_
  simp only [go_sem,Nat.reduceEqDiff,Nat.reduceAdd,Nat.reduceMul,↓reduceIte,↓dreduceIte,reduceCtorEq,Nat.reduceLeDiff,Nat.reduceLT,Nat.reduceSub,Int.reduceToNat,Int.reduceLE,Int.reduceLT]
  refine VW_loop (fun x : OQ => ⟨[(1, .ptr 0 0 0), (2, .ptr 1 1 0), (3, .ptr q.kS q.sS 0)], x.H, x.nx⟩) (fun x => HS f x.H q x.wv x.σ ∧ SInv f x.σ ∧ x.H[0]? = some ⟨0, 24, 1, bfL f⟩ ∧ x.H[1]? = some ⟨1, 29, 1, [nilv, nilv]⟩)
    (fun x => muS f x.σ) ⟨H, wv, beginS f, nx⟩ (Wk.mk (by simp [get_cons]) ⟨[], by simp⟩ (Nat.le_refl _)) ⟨h, begin_inv f, h0, h1⟩ ?_
  clear h h0 h1
  rintro ⟨H, wv, σ, nx⟩ ⟨h, hi, h0, h1⟩
  simp only at h hi h0 h1
  have hso := h.so
  have hw := h.w
  have hwl := hi.wlen
  rcases List.eq_nil_or_concat σ.wt with hnil | ⟨w0, b, hcat⟩
  · have hLe := hi.least hf hnil
    have hLL : σ.L = L := hLe.unique hL
    have hIL : σ.I = L.inn := by rw [← hLL]; rfl
    have hOL : σ.O = L.out := by rw [← hLL]; rfl
    have hli : L.inn.length = f.n := hL.cl.sz.i
    have hlo : L.out.length = f.n := hL.cl.sz.o
    have hwv : wv = nilv ∨ ∃ k s, wv = .ref k s 0 0 ∧ ∃ cs, H[k]? = some ⟨s, 3, 1, cs⟩ := by
      rcases h.wt with ⟨e, _⟩ | ⟨k, s, rest, e, hk, _⟩
      · exact .inl e
      · rw [hnil] at e; exact .inr ⟨k, s, e, _, hk⟩
    have hz : 0 < H.length := (List.getElem?_eq_some_iff.1 h0).1
    have hz1 : 1 < H.length := (List.getElem?_eq_some_iff.1 h1).1
    have hwv1 : wv.one = true := by rcases hwv with e | ⟨_, _, e, _⟩ <;> rw [e] <;> rfl
    have hol : (predL f 0).length ≤ 2 * f.n := predL_len f 0
    have hsl := h.li
    have hslo := h.lo
    have hri := h.ri
    have hro := h.ro
    rw [hIL] at hri
    rw [hOL] at hro
    have e0 : (0 < H.length) = True := eq_true hz
    have e1 : (1 < H.length) = True := eq_true hz1
    have hmx : (200000 : Nat) ≤ maxLen := by decide
    have ga0 := app_old h0
    have ga1 := app_old h1
    have gaS := app_old hso
    have gaI := app_old hsl
    have gaO := app_old hslo
    have hregs : f.regs = (f.r : Int) := by unfold BF.r; omega
    rcases hwv with e | ⟨k, s, e, cs, hk⟩
    all_goals
      subst e
      first
      | simp only [go_sem,Nat.reduceEqDiff,Nat.reduceAdd,Nat.reduceMul,↓reduceIte,↓dreduceIte,reduceCtorEq,Nat.reduceLeDiff,Nat.reduceLT,Nat.reduceSub,Int.reduceToNat,Int.reduceLE,Int.reduceLT, hso, hk, ga0, one_imm, one_ref, Nat.cast_zero', Int.lt_irrefl, List.length_map]
      | simp only [go_sem,Nat.reduceEqDiff,Nat.reduceAdd,Nat.reduceMul,↓reduceIte,↓dreduceIte,reduceCtorEq,Nat.reduceLeDiff,Nat.reduceLT,Nat.reduceSub,Int.reduceToNat,Int.reduceLE,Int.reduceLT, hso, ga0, one_imm, one_ref, List.length_map]
      refine VW_loop (fun x : RQ => ⟨[(1, .ptr 0 0 0), (2, .ptr 1 1 0), (3, .ptr q.kS q.sS 0), (8, .ptr H.length nx 0), (67, I f.n), (68, I x.b)], H ++ lvR L H.length nx x, x.nx⟩) (fun x => x.b ≤ f.n) (fun x => f.n - x.b) ⟨0, nx + 1, nx + 1 + 1, nx + 1 + 1 + 1⟩
        ?_ (Nat.zero_le _) ?_
      · refine Wk.trans (b := ⟨[(1, .ptr 0 0 0), (2, .ptr 1 1 0), (3, .ptr q.kS q.sS 0), (8, .ptr H.length nx 0), (67, I f.n), (68, I 0)], H ++ [(⟨nx, 29, 1, [nilv, nilv]⟩ : VObj)], nx + 1⟩) (Wk.mk (by simp [get_cons, BF.n]) ⟨[], by simp⟩ (Nat.le_refl _)) (lv_virt L H nx _ (by simp [get_cons]))
      rintro ⟨b, s1, s2, nx2⟩ hb
      simp only at hb
      by_cases hlt : b < f.n
      · have hib := hri b hlt
        have hobb := hro b hlt
        have gaib := app_old hib
        have gaob := app_old hobb
        have hil : (L.inn.getD b []).length = f.r := hL.cl.sz.il hlt
        have hol' : (L.out.getD b []).length = f.r := hL.cl.sz.ol hlt
        have sp1 : ContractN Try.prog 33 [.imm 1 (rowC64 (L.inn.getD b [])), I f.regs] (fun r => r = bools (L.inn.getD b [])) := by have := spread_c (L.inn.getD b []) (by omega); rw [hil, ← hregs] at this; exact this
        have sp2 : ContractN Try.prog 33 [.imm 1 (rowC64 (L.out.getD b [])), I f.regs] (fun r => r = bools (L.out.getD b [])) := by have := spread_c (L.out.getD b []) (by omega); rw [hol', ← hregs] at this; exact this
        simp only [go_sem,Nat.reduceEqDiff,Nat.reduceAdd,Nat.reduceMul,↓reduceIte,↓dreduceIte,reduceCtorEq,Nat.reduceLeDiff,Nat.reduceLT,Nat.reduceSub,Int.reduceToNat,Int.reduceLE,Int.reduceLT, ga0, gaS, gaI, app_get, app_get0, one_imm, one_ref, cellT_rows, eq_true (show (b : Int) < f.n by omega)]
        repeat' (with_reducible apply And.intro)
        all_goals first | omega | skip
        all_goals
          refine VCall.of_contractN sp1 ?_ fun r hr => ?_
          · exact ⟨_, _, rfl, frz_row (Nat.zero_le _) (gaib _) (by rw [hil]), _, _, rfl, Frz.pure rfl, rfl⟩
          subst hr
          refine ⟨Stab.refl _ _ _, ?_⟩
          simp only [go_sem,Nat.reduceEqDiff,Nat.reduceAdd,Nat.reduceMul,↓reduceIte,↓dreduceIte,reduceCtorEq,Nat.reduceLeDiff,Nat.reduceLT,Nat.reduceSub,Int.reduceToNat,Int.reduceLE,Int.reduceLT, ga0, gaS, gaO, app_get, app_get0, app_set, app_set0, List.append_assoc, List.length_append, one_imm, one_ref, cellT_rows]
          repeat' (with_reducible apply And.intro)
          all_goals first | omega | skip
          all_goals
            refine VCall.of_contractN sp2 ?_ fun r hr => ?_
            · exact ⟨_, _, rfl, frz_row (Nat.zero_le _) (gaob _) (by rw [hol']), _, _, rfl, Frz.pure rfl, rfl⟩
            subst hr
            refine ⟨?_, ?_⟩
            · simp only [go_sem,Nat.reduceEqDiff,Nat.reduceAdd,Nat.reduceMul,↓reduceIte,↓dreduceIte,reduceCtorEq,Nat.reduceLeDiff,Nat.reduceLT,Nat.reduceSub,Int.reduceToNat,Int.reduceLE,Int.reduceLT, app_get, app_get0, app_set, app_set0, List.append_assoc, List.length_append]
              exact Stab.refl _ _ _
            simp only [go_sem,Nat.reduceEqDiff,Nat.reduceAdd,Nat.reduceMul,↓reduceIte,↓dreduceIte,reduceCtorEq,Nat.reduceLeDiff,Nat.reduceLT,Nat.reduceSub,Int.reduceToNat,Int.reduceLE,Int.reduceLT, ga0, gaS, gaO, app_get, app_get0, app_set, app_set0, List.append_assoc, List.length_append, one_imm, one_ref, cellT_rows]
            repeat' (with_reducible apply And.intro)
            all_goals first | omega | skip
            rw [i64_in (by omega) (by omega), rows_snoc (m := L.inn) (by omega), rows_snoc (m := L.out) (by omega)]
            refine ⟨⟨b + 1, nx2 + 1, nx2 + 1 + 1 + 1, nx2 + 1 + 1 + 1 + 1⟩, by simp only; omega, by simp only; omega, Wk.mk (by simp [get_cons]) ⟨[_, _], by rw [List.append_assoc]; rfl⟩ (Nat.le_refl _)⟩
      · obtain rfl : b = f.n := by omega
        have tk1 : L.inn.take f.n = L.inn := List.take_of_length_le (by omega)
        have tk2 : L.out.take f.n = L.out := List.take_of_length_le (by omega)
        have l3 : (1 < H.length + 3) = True := eq_true (by omega)
        have l4 : (1 < H.length + (0 + 1 + 1 + 1)) = True := eq_true (by omega)
        simp only [go_sem,Nat.reduceEqDiff,Nat.reduceAdd,Nat.reduceMul,↓reduceIte,↓dreduceIte,reduceCtorEq,Nat.reduceLeDiff,Nat.reduceLT,Nat.reduceSub,Int.reduceToNat,Int.reduceLE,Int.reduceLT, ga1, app_get, app_get0, List.getElem?_set, List.length_append, l3, l4, eq_false (show ¬ (f.n : Int) < f.n by omega)]
        repeat ((with_reducible refine And.intro ?_ ?_); · omega)
        refine ⟨_, Frz.agg (ys := [rowsA L.inn, rowsA L.out]) ?_, rfl⟩
        exact ⟨_, _, rfl, rows_frz (m := L.inn) (Nat.zero_le _) (by rw [set_ne (by omega), app_get]; show some (VObj.mk s1 39 1 ((L.inn.take f.n).map bools)) = _; rw [tk1]) hli.symm, _, _, rfl, rows_frz (m := L.out) (Nat.zero_le _) (by rw [set_ne (by omega), app_get]; show some (VObj.mk s2 39 1 ((L.out.take f.n).map bools)) = _; rw [tk2]) hlo.symm, rfl⟩
  · rw [List.concat_eq_append] at hcat
    have hwt := h.wt
    rw [hcat] at hwt
    rcases hwt with ⟨_, hwt⟩ | ⟨k, s, rest, rfl, hk, hkp⟩
    · simp at hwt
    have hb : b < f.n := hi.wn b (by rw [hcat]; simp)
    have hnd := hi.nd
    rw [hcat, List.nodup_append] at hnd
    have hb0 : b ∉ w0 := fun e => hnd.2.2 b e b (by simp) rfl
    have e1 := ty_ne hso hk (by simp)
    have e2 := ty_ne hso hw (by simp)
    have e3 := ty_ne hw hk (by simp)
    have e4 := ty_ne hw hso (by simp)
    have l1 := lt_of hso
    have l2 := lt_of hw
    have hwl0 : w0.length + 1 ≤ 500 := by rw [hcat] at hwl; simp at hwl; omega
    have hle : (w0 ++ [b]).length = w0.length + 1 := by simp
    have hlg := last_get w0 b rest
    have hrl : (w0 ++ [b] ++ rest).length = w0.length + 1 + rest.length := by simp only [List.length_append, List.length_cons, List.length_nil]
    have ei : IntKind.i64.wrap ((w0.length + 1 : Nat) - 1 : Int) = w0.length := by rw [i64_in (by omega) (by omega)]; omega
    rw [hcat] at hw
    simp only [go_sem,Nat.reduceEqDiff,Nat.reduceAdd,Nat.reduceMul,↓reduceIte,↓dreduceIte,reduceCtorEq,Nat.reduceLeDiff,Nat.reduceLT,Nat.reduceSub,Int.reduceToNat,Int.reduceLE,Int.reduceLT, hso, hw, hk, one_imm, one_ref, hle, eq_true (show (0 : Int) < ((w0.length + 1 : Nat) : Int) by omega), ei, cellT_nats, hlg, List.getElem?_set, List.length_set, e1, e2, e3, e4, l1, l2, flags_len, set_B, flags_del hb hb0, Nat.sub_zero]
    repeat ((with_reducible refine And.intro ?_ ?_); · omega)
    have kp0 : KeepT [66, 4, 3] H ((H.set q.kS ⟨q.sS, 66, 1, slvL f q (.ref k s 0 w0.length)⟩).set q.kW ⟨q.sW, 4, 1, (flags f.n w0).map B⟩) :=
      (KeepT.set hso (by simp)).trans (KeepT.set (ob := ⟨q.sW, 4, 1, (flags f.n (w0 ++ [b])).map B⟩) (by rw [set_ne (fun e => by rw [e] at hso; rw [hso] at hw; simp at hw)]; exact hw) (by simp))
    have hS2 : HS f ((H.set q.kS ⟨q.sS, 66, 1, slvL f q (.ref k s 0 w0.length)⟩).set q.kW ⟨q.sW, 4, 1, (flags f.n w0).map B⟩) q (.ref k s 0 w0.length) ⟨σ.I, σ.O, w0⟩ := by
      refine h.keep (wt' := w0) kp0 ?_ ?_ (.inr ⟨k, s, b :: rest, rfl, ?_, hkp⟩) fun c hc => ?_
      · simp only [List.getElem?_set, List.length_set, e4, l1, l2, ↓reduceIte]
      · simp only [List.getElem?_set, List.length_set, e4, l1, l2, ↓reduceIte]
      · simp only [List.getElem?_set, List.length_set, e1, e3, l1, l2, ↓reduceIte, hk]
        simp
      · have hp := h.pr c hc
        have p1 := ty_ne hw hp (by simp)
        have p2 := ty_ne hso hp (by simp)
        simp only [List.getElem?_set, p1, p2, ↓reduceIte]
    have hrd := hi.round hf hcat
    have hsz : SizedP f (SV.L ⟨σ.I, σ.O, w0⟩) := hi.sz
    have hg0 := kp0 _ _ h0 (by simp)
    have hg1 := kp0 _ _ h1 (by simp)
    generalize (H.set q.kS ⟨q.sS, 66, 1, slvL f q (.ref k s 0 w0.length)⟩).set q.kW ⟨q.sW, 4, 1, (flags f.n w0).map B⟩ = H2 at hS2 hg0 hg1 ⊢
    clear kp0
    refine grow_v hf hS2 hsz hr nx b hb _ fun H3 hS3 kp3 => ?_
    have hms : moreS f ⟨σ.I, σ.O, w0⟩ b = moreS f σ b := rfl
    have hgs : growS f ⟨σ.I, σ.O, w0⟩ b = ⟨(growS f σ b).I, (growS f σ b).O, w0⟩ := rfl
    rw [hms]
    rw [hgs] at hS3
    have h30 := kp3 _ _ hg0 (by simp)
    have h31 := kp3 _ _ hg1 (by simp)
    have hrdw : (roundS f σ w0 b).wt = if moreS f σ b = true then waitsS w0 (predL f b) else w0 := rfl
    cases hm : moreS f σ b
    · rw [hm] at hrdw
      simp only [go_sem,Nat.reduceEqDiff,Nat.reduceAdd,Nat.reduceMul,↓reduceIte,↓dreduceIte,reduceCtorEq,Nat.reduceLeDiff,Nat.reduceLT,Nat.reduceSub,Int.reduceToNat,Int.reduceLE,Int.reduceLT]
      refine ⟨⟨H3, .ref k s 0 w0.length, roundS f σ w0 b, nx⟩, ⟨?_, hrd.1, h30, h31⟩, hrd.2, Wk.mk (by simp [get_cons]) ⟨[], by simp⟩ (Nat.le_refl _)⟩
      have : roundS f σ w0 b = ⟨(growS f σ b).I, (growS f σ b).O, w0⟩ := by unfold roundS; rw [hm]; rfl
      rw [this]; exact hS3
    · rw [hm, if_pos rfl] at hrdw
      have hso3 := hS3.so
      have hla3 := hS3.la
      have hpr3 := hS3.pr b hb
      have hpl := predL_len f b
      simp only [go_sem,Nat.reduceEqDiff,Nat.reduceAdd,Nat.reduceMul,↓reduceIte,↓dreduceIte,reduceCtorEq,Nat.reduceLeDiff,Nat.reduceLT,Nat.reduceSub,Int.reduceToNat,Int.reduceLE,Int.reduceLT, hso3, hla3, hpr3, one_imm, one_ref, cellT_preds, hlg]
      repeat ((with_reducible refine And.intro ?_ ?_); · omega)
      refine VW_loop (fun x : WQ => ⟨[(1, .ptr 0 0 0), (2, .ptr 1 1 0), (3, .ptr q.kS q.sS 0), (55, .ref (q.pi b).1 (q.pi b).2 0 (predL f b).length), (56, I (predL f b).length), (57, I x.j)], x.H, x.nx⟩)
        (fun x => x.j ≤ (predL f b).length ∧ HS f x.H q x.wv ⟨(growS f σ b).I, (growS f σ b).O, waitsS w0 ((predL f b).take x.j)⟩ ∧ x.H[0]? = some ⟨0, 24, 1, bfL f⟩ ∧ x.H[1]? = some ⟨1, 29, 1, [nilv, nilv]⟩)
        (fun x => (predL f b).length - x.j) ⟨0, H3, .ref k s 0 w0.length, nx⟩ (Wk.mk (by simp [get_cons]) ⟨[], by simp⟩ (Nat.le_refl _)) ⟨Nat.zero_le _, hS3, h30, h31⟩ ?_
      clear hS3 h30 h31 hso3 hla3 hpr3 kp3 hS2 hg0 hg1
      rintro ⟨j, H4, wv4, nx4⟩ ⟨hj, hS4, h40, h41⟩
      simp only at hj hS4 h40 h41
      by_cases hlt : j < (predL f b).length
      · have hp4 := hS4.pr b hb
        have hwt := waits_take w0 (predL f b) hlt
        have hmem := mem_pred.1 (mem_getD hlt)
        have hlw : (waitsS w0 ((predL f b).take j)).length ≤ f.n := nodup_le _ _ (nodup_waits hnd.1) fun c hc => by
          rcases mem_waits.1 hc with g | g
          · exact hi.wn c (by rw [hcat]; simp [g])
          · exact (mem_pred.1 (List.mem_of_mem_take g)).1
        simp only [go_sem,Nat.reduceEqDiff,Nat.reduceAdd,Nat.reduceMul,↓reduceIte,↓dreduceIte,reduceCtorEq,Nat.reduceLeDiff,Nat.reduceLT,Nat.reduceSub,Int.reduceToNat,Int.reduceLE,Int.reduceLT, hp4, one_imm, one_ref, cellT_nats, eq_true (show (j : Int) < (predL f b).length by omega)]
        repeat ((with_reducible refine And.intro ?_ ?_); · omega)
        refine wait_v hS4 nx4 _ hmem.1 hn5 (by show (waitsS w0 ((predL f b).take j)).length ≤ 500; omega) _ fun r H5 nx5 wv5 hS5 kp5 => ?_
        have hS5' : HS f H5 q wv5 ⟨(growS f σ b).I, (growS f σ b).O, waitsS w0 ((predL f b).take (j + 1))⟩ := by rw [hwt]; exact hS5
        simp only [go_sem,Nat.reduceEqDiff,Nat.reduceAdd,Nat.reduceMul,↓reduceIte,↓dreduceIte,reduceCtorEq,Nat.reduceLeDiff,Nat.reduceLT,Nat.reduceSub,Int.reduceToNat,Int.reduceLE,Int.reduceLT]
        rw [i64_in (by omega) (by omega)]
        exact ⟨⟨j + 1, H5, wv5, nx5⟩, ⟨by simp only; omega, hS5', kp5 _ _ h40 (by simp), kp5 _ _ h41 (by simp)⟩, by simp only; omega, Wk.mk (by simp [get_cons]) ⟨[], by simp⟩ (Nat.le_refl _)⟩
      · have hjl : j = (predL f b).length := by omega
        rw [hjl, List.take_length] at hS4
        simp only [go_sem,Nat.reduceEqDiff,Nat.reduceAdd,Nat.reduceMul,↓reduceIte,↓dreduceIte,reduceCtorEq,Nat.reduceLeDiff,Nat.reduceLT,Nat.reduceSub,Int.reduceToNat,Int.reduceLE,Int.reduceLT, eq_false (show ¬ (j : Int) < (predL f b).length by omega)]
        refine ⟨⟨H4, wv4, roundS f σ w0 b, nx4⟩, ⟨?_, hrd.1, h40, h41⟩, hrd.2, Wk.mk (by simp [get_cons]) ⟨[], by simp⟩ (Nat.le_refl _)⟩
        have : roundS f σ w0 b = ⟨(growS f σ b).I, (growS f σ b).O, waitsS w0 (predL f b)⟩ := by unfold roundS; rw [hm]; rfl
        rw [this]; exact hS4
end Go.Proofs.Ytjdeediehmhdoaa
