/-
  The least table by the document: contract. No condition.
-/
import Derived.Test.YtjdeediehmhdoaaBL
namespace Go.Proofs.Ytjdeediehmhdoaa
set_option linter.unusedSimpArgs false
set_option linter.unusedVariables false
set_option maxRecDepth 10000
open Go.V

def orP (x y : List Bool) (k : Nat) : List Bool := (List.range x.length).map fun i => if i < k then gB x i || gB y i else gB x i
theorem orP_len (x y : List Bool) (k : Nat) : (orP x y k).length = x.length := by simp [orP]
theorem gB_orP (x y : List Bool) (k : Nat) {i : Nat} (hi : i < x.length) : gB (orP x y k) i = if i < k then gB x i || gB y i else gB x i := by
  unfold orP; rw [gB, List.getD]; simp [hi]
theorem orP_zero (x y : List Bool) : orP x y 0 = x := gB_ext (orP_len _ _ _) fun v hv => by
  rw [orP_len] at hv; rw [gB_orP _ _ _ hv, if_neg (by omega)]
theorem orP_all (x y : List Bool) {k : Nat} (hk : x.length ≤ k) : orP x y k = orL x y := gB_ext (by rw [orP_len, orL_len]) fun v hv => by
  rw [orP_len] at hv; rw [gB_orP _ _ _ hv, if_pos (by omega), gB_or _ _ hv]
theorem orP_set (x y : List Bool) {k : Nat} (hk : k < x.length) {w : Bool} (hw : w = (gB x k || gB y k)) : (orP x y k).set k w = orP x y (k + 1) := gB_ext (by simp [orP]) fun v hv => by
  have hv' : v < x.length := by simpa [orP] using hv
  rw [gB_set _ _ _ _ (by rw [orP_len]; exact hv'), gB_orP _ _ _ hv', gB_orP _ _ _ hv']
  by_cases e : k = v
  · subst e; rw [if_pos rfl, if_pos (by omega)]; exact hw
  · rw [if_neg e]
    by_cases h : v < k
    · rw [if_pos h, if_pos (by omega)]
    · rw [if_neg h, if_neg (by omega)]
theorem orP_skip (x y : List Bool) {k : Nat} (hk : k < x.length) (hw : gB x k = (gB x k || gB y k)) : orP x y k = orP x y (k + 1) := by
  rw [← orP_set x y hk hw]
  exact gB_ext (by simp) fun v hv => by
    have hv' : v < x.length := by rw [orP_len] at hv; exact hv
    rw [gB_set _ _ _ _ hv]
    by_cases e : k = v
    · subst e; rw [if_pos rfl, gB_orP _ _ _ hv', if_neg (by omega)]
    · rw [if_neg e]

def moreP (x a : List Bool) (k : Nat) : Bool := (List.range k).any fun i => gB a i && !gB x i
theorem moreP_step (x a : List Bool) (k : Nat) : moreP x a (k + 1) = (moreP x a k || (gB a k && !gB x k)) := by
  unfold moreP; rw [List.range_succ, List.any_append]; simp
theorem moreP_all (x a : List Bool) : moreP x a x.length = decide (orL x a ≠ x) := by
  rw [Bool.eq_iff_iff, decide_eq_true_iff]
  unfold moreP
  rw [List.any_eq_true]
  constructor
  · rintro ⟨i, hi, h⟩ e
    have hi := List.mem_range.1 hi
    have h3 := gB_or x a hi
    rw [e] at h3
    rw [Bool.and_eq_true, Bool.not_eq_true'] at h
    rw [h.1, h.2] at h3
    cases h3
  · intro h
    refine Classical.byContradiction fun hn => h (gB_ext (orL_len _ _) fun v hv => ?_)
    rw [orL_len] at hv
    rw [gB_or _ _ hv]
    cases h1 : gB x v
    · cases h2 : gB a v
      · rfl
      · exact absurd ⟨v, List.mem_range.2 hv, by rw [h1, h2]; rfl⟩ hn
    · rfl
structure RK where
  kl : Nat
  sl : Nat
  k1 : Nat
  s1 : Nat
  k2 : Nat
  s2 : Nat
  g1 : Nat → Nat × Nat
  g2 : Nat → Nat × Nat
structure RS (f : BF) (H : List VObj) (q : RK) (I O : List (List Bool)) : Prop where
  fb : H[0]? = some ⟨0, 24, 1, bfL f⟩
  rl : H[1]? = some ⟨1, 29, 1, [nilv, nilv]⟩
  lv : H[q.kl]? = some ⟨q.sl, 29, 1, [.ref q.k1 q.s1 0 f.n, .ref q.k2 q.s2 0 f.n]⟩
  mi : MT f.n f.r H q.k1 q.s1 q.g1 I
  mo : MT f.n f.r H q.k2 q.s2 q.g2 O
  dio : ∀ b < f.n, ∀ c < f.n, (q.g1 b).1 ≠ (q.g2 c).1
section
variable {f : BF} {H : List VObj} {q : RK} {I O : List (List Bool)}
theorem RS.app (h : RS f H q I O) (R : List VObj) : RS f (H ++ R) q I O := ⟨app_old h.fb R, app_old h.rl R, app_old h.lv R, h.mi.app R, h.mo.app R, h.dio⟩
theorem RS.setO (h : RS f H q I O) (hl : O.length = f.n) {b : Nat} (hb : b < f.n) (l : List Bool) : RS f (H.set (q.g2 b).1 ⟨(q.g2 b).2, 4, 1, l.map B⟩) q I (O.set b l) := by
  have k : KeepT [4] H (H.set (q.g2 b).1 ⟨(q.g2 b).2, 4, 1, l.map B⟩) := KeepT.set (h.mo.r b hb) (by simp)
  have hO : b < O.length := by omega
  refine ⟨k _ _ h.fb (by simp), k _ _ h.rl (by simp), k _ _ h.lv (by simp), ⟨k _ _ h.mi.l (by simp), fun c hc => ?_, h.mi.d⟩, ⟨k _ _ h.mo.l (by simp), fun c hc => ?_, h.mo.d⟩, h.dio⟩
  · rw [set_ne (fun e => h.dio c hc b hb e.symm)]; exact h.mi.r c hc
  · rw [row_set hO]
    by_cases e : b = c
    · subst e; rw [if_pos rfl]; exact set_get (h.mo.r b hb)
    · rw [if_neg e, set_ne (fun g => e (h.mo.d b hb c hc g))]; exact h.mo.r c hc
theorem RS.setI (h : RS f H q I O) (hl : I.length = f.n) {b : Nat} (hb : b < f.n) (l : List Bool) : RS f (H.set (q.g1 b).1 ⟨(q.g1 b).2, 4, 1, l.map B⟩) q (I.set b l) O := by
  have k : KeepT [4] H (H.set (q.g1 b).1 ⟨(q.g1 b).2, 4, 1, l.map B⟩) := KeepT.set (h.mi.r b hb) (by simp)
  have hI : b < I.length := by omega
  refine ⟨k _ _ h.fb (by simp), k _ _ h.rl (by simp), k _ _ h.lv (by simp), ⟨k _ _ h.mi.l (by simp), fun c hc => ?_, h.mi.d⟩, ⟨k _ _ h.mo.l (by simp), fun c hc => ?_, h.mo.d⟩, h.dio⟩
  · rw [row_set hI]
    by_cases e : b = c
    · subst e; rw [if_pos rfl]; exact set_get (h.mi.r b hb)
    · rw [if_neg e, set_ne (fun g => e (h.mi.d b hb c hc g))]; exact h.mi.r c hc
  · rw [set_ne (fun e => h.dio b hb c hc e)]; exact h.mo.r c hc
end

theorem MT.keep {n r : Nat} {H H' : List VObj} {k s : Nat} {g : Nat → Nat × Nat} {m : List (List Bool)} {ts : List Nat} (h : MT n r H k s g m) (kp : KeepT ts H H') (h1 : 39 ∉ ts) (h2 : 4 ∉ ts) : MT n r H' k s g m :=
  ⟨kp _ _ h.l h1, fun b hb => kp _ _ (h.r b hb) h2, h.d⟩
theorem MT.frz {n r : Nat} {H : List VObj} {k s nx : Nat} {g : Nat → Nat × Nat} {m : List (List Bool)} (h : MT n r H k s g m) (hm : m.length = n) (hr : ∀ l ∈ m, l.length = r) : Frz 0 H nx (.ref k s 0 n) (rowsA m) := by
  refine frz_whole (Nat.zero_le _) h.l (by simp [hm]) (by simp [hm]) (by simp [AV.one]) fun i x y hx hy => ?_
  have hi : i < n := by have := (List.getElem?_eq_some_iff.1 hx).1; simpa using this
  simp only [List.getElem?_map, List.getElem?_range hi, Option.map_some, Option.some.injEq] at hx
  rw [List.getElem?_map, List.getElem?_eq_getElem (show i < m.length by omega), Option.map_some, Option.some.injEq] at hy
  subst hx; subst hy
  have e : m.getD i [] = m[i] := by simp [List.getD, List.getElem?_eq_getElem (show i < m.length by omega)]
  have ho := h.r i hi
  rw [e] at ho
  exact frz_bools (Nat.zero_le _) ho (hr _ (List.getElem_mem _)).symm
structure MQ where
  H : List VObj
  I : List (List Bool)
  O : List (List Bool)
  m : Bool
  nx : Nat
structure CQ where
  c : Nat
  H : List VObj
  nx : Nat
def _root_.Go.V.VC.tl : VC → VC
  | .seq _ y => y
  | x => x
theorem rof_tail (f : BF) (hf : Fine f) (L : LD) (hL : Least f L) (env : List (Nat × AV)) (H : List VObj) (nx : Nat) (q : RK) (he1 : get env 1 = .ptr 0 0 0) (he2 : get env 2 = .ptr 1 1 0) (he3 : get env 3 = I f.n) (he4 : get env 4 = .ptr q.kl q.sl 0)
    (hRS : RS f H q (beginS f).I (beginS f).O) : VW Try.prog c_scref27_Of.tl.tl.tl (retQ Try.prog [VR.cell 2 true 2] fun r H nx => ∃ y, Frz 0 H nx r y ∧ y = liveA L) ⟨env, H, nx⟩ := by
  have hr0 := hf.r0
  have hr4 : f.r ≤ 4000 := by have := hf.r1; unfold BF.r; omega
  have hregs : f.regs = (f.r : Int) := by unfold BF.r; omega
  have hn5 : f.n ≤ 500 := hf.b1
  have hlen : (f.bks.length : Int) = f.n := rfl
  have hfb := hRS.fb
  simp only [go_sem,Nat.reduceEqDiff,Nat.reduceAdd,Nat.reduceMul,↓reduceIte,↓dreduceIte,reduceCtorEq,Nat.reduceLeDiff,Nat.reduceLT,Nat.reduceSub,Int.reduceToNat,Int.reduceLE,Int.reduceLT, c_scref27_Of, VC.tl, he1, he2, he3, he4, hfb]
  refine VCall.of_contract (refnext_c f hf.b1) (SleL.pure rfl) fun x hx => ?_
  subst hx
  simp only [go_sem,Nat.reduceEqDiff,Nat.reduceAdd,Nat.reduceMul,↓reduceIte,↓dreduceIte,reduceCtorEq,Nat.reduceLeDiff,Nat.reduceLT,Nat.reduceSub,Int.reduceToNat,Int.reduceLE,Int.reduceLT]
  refine VW_loop (fun x : MQ => ⟨[(1, .ptr 0 0 0), (2, .ptr 1 1 0), (3, I f.n), (4, .ptr q.kl q.sl 0), (5, nextA f), (6, B x.m)], x.H, x.nx⟩) (fun x => RS f x.H q x.I x.O ∧ RInv f x.I x.O ∧ (x.m = false → Least f ⟨x.I, x.O⟩)) (fun x => if x.m then unset x.I + 1 else 0)
    ⟨H, (beginS f).I, (beginS f).O, true, nx⟩ (Wk.mk (by simp [get_cons, he1, he2, he3, he4]) ⟨[], by simp⟩ (Nat.le_refl _)) ⟨hRS, begin_r f, fun e => by cases e⟩ ?_
  clear hRS hfb
  rintro ⟨H, I0, O0, m, nx⟩ ⟨hRS, hRI, hm⟩
  simp only at hRS hRI hm
  cases m
  · have hLL : (⟨I0, O0⟩ : LD) = L := (hm rfl).unique hL
    subst hLL
    have hlv := hRS.lv
    have hrl := hRS.rl
    have l1 := lt_of hrl
    have kp : KeepT [29] H (H.set 1 ⟨1, 29, 1, [.ref q.k1 q.s1 0 f.n, .ref q.k2 q.s2 0 f.n]⟩) := KeepT.set hrl (by simp)
    simp only [go_sem,Nat.reduceEqDiff,Nat.reduceAdd,Nat.reduceMul,↓reduceIte,↓dreduceIte,reduceCtorEq,Nat.reduceLeDiff,Nat.reduceLT,Nat.reduceSub,Int.reduceToNat,Int.reduceLE,Int.reduceLT, hlv, hrl, List.getElem?_set, l1]
    repeat ((with_reducible refine And.intro ?_ ?_); · omega)
    refine ⟨_, Frz.agg (ys := [rowsA I0, rowsA O0]) ?_, rfl⟩
    exact ⟨_, _, rfl, (hRS.mi.keep kp (by simp) (by simp)).frz hRI.sz.i hRI.sz.ir, _, _, rfl, (hRS.mo.keep kp (by simp) (by simp)).frz hRI.sz.o hRI.sz.or, rfl⟩
  · simp only [go_sem,Nat.reduceEqDiff,Nat.reduceAdd,Nat.reduceMul,↓reduceIte,↓dreduceIte,reduceCtorEq,Nat.reduceLeDiff,Nat.reduceLT,Nat.reduceSub,Int.reduceToNat,Int.reduceLE,Int.reduceLT]
    rw [i64_in (by omega) (by omega)]
    refine VW_loop (fun x : CQ => ⟨[(1, .ptr 0 0 0), (2, .ptr 1 1 0), (3, I f.n), (4, .ptr q.kl q.sl 0), (5, nextA f), (6, B (passR f I0 O0 x.c).m), (7, I ((f.n : Int) - 1 - x.c))], x.H, x.nx⟩) (fun x => x.c ≤ f.n ∧ RS f x.H q (passR f I0 O0 x.c).I (passR f I0 O0 x.c).O) (fun x => f.n - x.c)
      ⟨0, H, nx⟩ (Wk.mk (by simp [get_cons, passR]) ⟨[], by simp⟩ (Nat.le_refl _)) ⟨by simp, hRS⟩ ?_
    clear hRS
    rintro ⟨c, H, nx⟩ ⟨hc, hRS⟩
    simp only at hc hRS
    by_cases hlt : c < f.n
    · have hP := hRI.pass hf c (by omega)
      have e1 : ((f.n : Int) - 1 - c).toNat = f.n - 1 - c := by omega
      obtain ⟨b, hbe⟩ : ∃ b, b = f.n - 1 - c := ⟨_, rfl⟩
      have hb : b < f.n := by omega
      have hbn : b < f.bks.length := hb
      have hbk : f.bks.getD b default = f.bk b := rfl
      have hbi : (f.n : Int) - 1 - c = b := by omega
      have hnext : passR f I0 O0 (c + 1) = stepR f (passR f I0 O0 c) b := by rw [hbe]; rfl
      rw [hbi]
      generalize passR f I0 O0 c = p at hRS hP hnext ⊢
      have hil : (p.I.getD b []).length = f.r := hP.sz.il hb
      have hol : (p.O.getD b []).length = f.r := hP.sz.ol hb
      have hfb := hRS.fb
      have hlv := hRS.lv
      have hmil := hRS.mi.l
      have hmol := hRS.mo.l
      have hob := hRS.mo.r b hb
      have f1 := ty_ne hob hfb (by simp)
      have f2 := ty_ne hob hlv (by simp)
      have f3 := ty_ne hob hmil (by simp)
      have f4 := ty_ne hob hmol (by simp)
      have l1 := lt_of hob
      have hnl := nxt_len (f.bk b)
      have hto := hf.to _ (BF.mem hb)
      have hlen2 : (f.bks.map fun b => ints (nxt b)).length = f.n := by simp [BF.n]
      simp only [go_sem,Nat.reduceEqDiff,Nat.reduceAdd,Nat.reduceMul,↓reduceIte,↓dreduceIte,reduceCtorEq,Nat.reduceLeDiff,Nat.reduceLT,Nat.reduceSub,Int.reduceToNat,Int.reduceLE,Int.reduceLT, eq_true (show (0 : Int) ≤ (b : Int) by omega)]
      refine VW_loop (fun j : Nat => ⟨[(1, .ptr 0 0 0), (2, .ptr 1 1 0), (3, I f.n), (4, .ptr q.kl q.sl 0), (5, nextA f), (6, B p.m), (7, I b), (8, I j)], H.set (q.g2 b).1 ⟨(q.g2 b).2, 4, 1, (gath p.I (p.O.getD b []) ((nxt (f.bk b)).take j)).map B⟩, nx⟩) (fun j => j ≤ (nxt (f.bk b)).length) (fun j => (nxt (f.bk b)).length - j) 0
        (Wk.mk (by simp [get_cons]) ⟨[], by rw [List.append_nil]; exact (set_of_get hob).symm⟩ (Nat.le_refl _)) (by omega) ?_
      intro j hj
      by_cases hl2 : j < (nxt (f.bk b)).length
      · have hk := hto _ (mem_getD hl2)
        have hgt := gath_take p.I (p.O.getD b []) _ hl2
        have hgl := gath_len p.I ((nxt (f.bk b)).take j) (p.O.getD b [])
        generalize hkk : (nxt (f.bk b)).getD j default = k at hk hgt ⊢
        have hkn : k.toNat < f.n := by unfold BF.n; omega
        have hik := hRS.mi.r k.toNat hkn
        have hkl : (p.I.getD k.toNat []).length = f.r := hP.sz.il hkn
        have f5 : ((q.g2 b).1 = (q.g1 k.toNat).1) = False := eq_false fun e => hRS.dio _ hkn b hb e.symm
        generalize hx : gath p.I (p.O.getD b []) ((nxt (f.bk b)).take j) = x at hgt hgl ⊢
        rw [hol] at hgl
        have hgt' : gath p.I (p.O.getD b []) ((nxt (f.bk b)).take (j + 1)) = orL x (p.I.getD k.toNat []) := hgt
        generalize hy : p.I.getD k.toNat [] = y at hik hkl hgt'
        simp only [go_sem,Nat.reduceEqDiff,Nat.reduceAdd,Nat.reduceMul,↓reduceIte,↓dreduceIte,reduceCtorEq,Nat.reduceLeDiff,Nat.reduceLT,Nat.reduceSub,Int.reduceToNat,Int.reduceLE,Int.reduceLT, one_imm, one_ref, hbk, hkk, List.length_map, eq_true (show (j : Int) < (nxt (f.bk b)).length by omega)]
        repeat ((with_reducible refine And.intro ?_ ?_); · omega)
        refine VW_loop (fun v : Nat => ⟨[(1, .ptr 0 0 0), (2, .ptr 1 1 0), (3, I f.n), (4, .ptr q.kl q.sl 0), (5, nextA f), (6, B p.m), (7, I b), (8, I j), (9, I v)], H.set (q.g2 b).1 ⟨(q.g2 b).2, 4, 1, (orP x y v).map B⟩, nx⟩) (fun v => v ≤ f.r) (fun v => f.r - v) 0
          (Wk.mk (by simp [get_cons]) ⟨[], by rw [orP_zero, List.append_nil]⟩ (Nat.le_refl _)) (by omega) ?_
        intro v hv
        by_cases hl3 : v < f.r
        · have hgx : gB (orP x y v) v = gB x v := by rw [gB_orP _ _ _ (by omega), if_neg (by omega)]
          cases h5 : gB x v
          · have hst : (orP x y v).set v (gB y v) = orP x y (v + 1) := orP_set x y (by omega) (by rw [h5]; rfl)
            simp only [go_sem,Nat.reduceEqDiff,Nat.reduceAdd,Nat.reduceMul,↓reduceIte,↓dreduceIte,reduceCtorEq,Nat.reduceLeDiff,Nat.reduceLT,Nat.reduceSub,Int.reduceToNat,Int.reduceLE,Int.reduceLT, hfb, hlv, hmil, hmol, hik, one_imm, one_ref, cellT_row, hbk, hkk, hregs, List.length_map, eq_true (show (v : Int) < f.r by omega), List.getElem?_set, f1, f2, f3, f4, f5, l1, gB_getD, hgx, h5, set_B, hst, orP_len, List.set_set]
            repeat ((with_reducible refine And.intro ?_ ?_); · omega)
            rw [i64_in (by omega) (by omega)]
            exact ⟨v + 1, by omega, by omega, Wk.mk (by simp [get_cons]) ⟨[], by simp⟩ (Nat.le_refl _)⟩
          · have hst : (orP x y v).set v true = orP x y (v + 1) := orP_set x y (by omega) (by rw [h5]; rfl)
            simp only [go_sem,Nat.reduceEqDiff,Nat.reduceAdd,Nat.reduceMul,↓reduceIte,↓dreduceIte,reduceCtorEq,Nat.reduceLeDiff,Nat.reduceLT,Nat.reduceSub,Int.reduceToNat,Int.reduceLE,Int.reduceLT, hfb, hlv, hmil, hmol, hik, one_imm, one_ref, cellT_row, hbk, hkk, hregs, List.length_map, eq_true (show (v : Int) < f.r by omega), List.getElem?_set, f1, f2, f3, f4, f5, l1, gB_getD, hgx, h5, set_B, hst, orP_len, List.set_set]
            repeat ((with_reducible refine And.intro ?_ ?_); · omega)
            rw [i64_in (by omega) (by omega)]
            exact ⟨v + 1, by omega, by omega, Wk.mk (by simp [get_cons]) ⟨[], by simp⟩ (Nat.le_refl _)⟩
        · obtain rfl : v = f.r := by omega
          simp only [go_sem,Nat.reduceEqDiff,Nat.reduceAdd,Nat.reduceMul,↓reduceIte,↓dreduceIte,reduceCtorEq,Nat.reduceLeDiff,Nat.reduceLT,Nat.reduceSub,Int.reduceToNat,Int.reduceLE,Int.reduceLT, hfb, one_imm, one_ref, hregs, List.getElem?_set, f1, eq_false (show ¬ (f.r : Int) < f.r by omega)]
          rw [i64_in (by omega) (by omega)]
          refine ⟨j + 1, by omega, by omega, Wk.mk (by simp [get_cons]) ⟨[], ?_⟩ (Nat.le_refl _)⟩
          rw [List.append_nil, hgt', orP_all x y (by omega)]
      · obtain rfl : j = (nxt (f.bk b)).length := by omega
        rw [List.take_length, show gath p.I (p.O.getD b []) (nxt (f.bk b)) = newO f p.I p.O b from rfl]
        have hob1 := set_get (x := ⟨(q.g2 b).2, 4, 1, (newO f p.I p.O b).map B⟩) hob
        have hRS1 := hRS.setO hP.sz.o hb (newO f p.I p.O b)
        have holn := hP.olen hf hb
        have haln := hP.alen hf hb
        generalize H.set (q.g2 b).1 ⟨(q.g2 b).2, 4, 1, (newO f p.I p.O b).map B⟩ = H1 at hob1 hRS1 ⊢
        have hfb1 := hRS1.fb
        have hlv1 := hRS1.lv
        have hmol1 := hRS1.mo.l
        have hrg := hf.regs hb (l := newO f p.I p.O b) holn
        have hln := hf.len _ (BF.mem hb)
        simp only [go_sem,Nat.reduceEqDiff,Nat.reduceAdd,Nat.reduceMul,↓reduceIte,↓dreduceIte,reduceCtorEq,Nat.reduceLeDiff,Nat.reduceLT,Nat.reduceSub,Int.reduceToNat,Int.reduceLE,Int.reduceLT, hfb1, hlv1, hmol1, one_imm, one_ref, hbk, cellT_row, List.length_map, eq_false (show ¬ ((nxt (f.bk b)).length : Int) < (nxt (f.bk b)).length by omega)]
        repeat ((with_reducible refine And.intro ?_ ?_); · omega)
        refine rahead_v (f.bk b) (newO f p.I p.O b) _ _ _ (by omega) (by omega) hrg.2 hrg.1 (fun R nx' => frz_bools (Nat.zero_le _) (app_old hob1 R) (by rw [holn])) _ fun R nx2 => ?_
        rw [show aheadL (f.bk b) (newO f p.I p.O b) = inOf f p.I p.O b from rfl]
        have hRS2 := hRS1.app R
        generalize H1 ++ R = H2 at hRS2 ⊢
        clear hob1 hRS1 hfb1 hlv1 hmol1
        have hib2 := hRS2.mi.r b hb
        have hfb2 := hRS2.fb
        have hlv2 := hRS2.lv
        have hmil2 := hRS2.mi.l
        have g1 := ty_ne hib2 hfb2 (by simp)
        have g2 := ty_ne hib2 hlv2 (by simp)
        have g3 := ty_ne hib2 hmil2 (by simp)
        have l2 := lt_of hib2
        have hRS3 := hRS2.setI hP.sz.i hb (orL (p.I.getD b []) (inOf f p.I p.O b))
        have hfin : stepR f p b = ⟨p.I.set b (orL (p.I.getD b []) (inOf f p.I p.O b)), p.O.set b (newO f p.I p.O b), p.m || moreP (p.I.getD b []) (inOf f p.I p.O b) f.r⟩ := by
          unfold stepR; rw [← hil, moreP_all]
        generalize p.I.getD b [] = x at hib2 hil hRS3 hfin
        generalize inOf f p.I p.O b = y at haln hRS3 hfin ⊢
        simp only [go_sem,Nat.reduceEqDiff,Nat.reduceAdd,Nat.reduceMul,↓reduceIte,↓dreduceIte,reduceCtorEq,Nat.reduceLeDiff,Nat.reduceLT,Nat.reduceSub,Int.reduceToNat,Int.reduceLE,Int.reduceLT, one_imm, one_ref]
        refine VW_loop (fun v : Nat => ⟨[(1, .ptr 0 0 0), (2, .ptr 1 1 0), (3, I f.n), (4, .ptr q.kl q.sl 0), (5, nextA f), (6, B (p.m || moreP x y v)), (7, I b), (10, bools y), (11, I v)], H2.set (q.g1 b).1 ⟨(q.g1 b).2, 4, 1, (orP x y v).map B⟩, nx2⟩) (fun v => v ≤ f.r) (fun v => f.r - v) 0
          (Wk.mk (by simp [get_cons, moreP]) ⟨[], by rw [orP_zero, List.append_nil]; exact (set_of_get hib2).symm⟩ (Nat.le_refl _)) (by omega) ?_
        intro v hv
        by_cases hl3 : v < f.r
        · have hgx : gB (orP x y v) v = gB x v := by rw [gB_orP _ _ _ (by omega), if_neg (by omega)]
          have hms := moreP_step x y v
          cases h5 : gB y v
          · have hsk := orP_skip x y (k := v) (by omega) (by rw [h5, Bool.or_false])
            rw [h5] at hms
            simp only [go_sem,Nat.reduceEqDiff,Nat.reduceAdd,Nat.reduceMul,↓reduceIte,↓dreduceIte,reduceCtorEq,Nat.reduceLeDiff,Nat.reduceLT,Nat.reduceSub,Int.reduceToNat,Int.reduceLE,Int.reduceLT, hfb2, one_imm, one_ref, hregs, List.length_map, eq_true (show (v : Int) < f.r by omega), List.getElem?_set, g1, g2, g3, l2, gB_getD, h5]
            repeat ((with_reducible refine And.intro ?_ ?_); · omega)
            rw [i64_in (by omega) (by omega)]
            refine ⟨v + 1, by omega, by omega, Wk.mk (by simp [get_cons, hms]) ⟨[], by simp [hsk]⟩ (Nat.le_refl _)⟩
          · cases h6 : gB x v
            · have hst : (orP x y v).set v true = orP x y (v + 1) := orP_set x y (by omega) (by rw [h5]; simp)
              rw [h5, h6] at hms
              simp only [go_sem,Nat.reduceEqDiff,Nat.reduceAdd,Nat.reduceMul,↓reduceIte,↓dreduceIte,reduceCtorEq,Nat.reduceLeDiff,Nat.reduceLT,Nat.reduceSub,Int.reduceToNat,Int.reduceLE,Int.reduceLT, hfb2, hlv2, hmil2, one_imm, one_ref, cellT_row, hregs, List.length_map, eq_true (show (v : Int) < f.r by omega), List.getElem?_set, g1, g2, g3, l2, gB_getD, h5, hgx, h6, set_B, hst, orP_len, List.set_set]
              repeat ((with_reducible refine And.intro ?_ ?_); · omega)
              rw [i64_in (by omega) (by omega)]
              refine ⟨v + 1, by omega, by omega, Wk.mk (by simp [get_cons, hms]) ⟨[], by simp⟩ (Nat.le_refl _)⟩
            · have hsk := orP_skip x y (k := v) (by omega) (by rw [h6, Bool.true_or])
              rw [h5, h6] at hms
              simp only [go_sem,Nat.reduceEqDiff,Nat.reduceAdd,Nat.reduceMul,↓reduceIte,↓dreduceIte,reduceCtorEq,Nat.reduceLeDiff,Nat.reduceLT,Nat.reduceSub,Int.reduceToNat,Int.reduceLE,Int.reduceLT, hfb2, hlv2, hmil2, one_imm, one_ref, cellT_row, hregs, List.length_map, eq_true (show (v : Int) < f.r by omega), List.getElem?_set, g1, g2, g3, l2, gB_getD, h5, hgx, h6, orP_len]
              repeat ((with_reducible refine And.intro ?_ ?_); · omega)
              rw [i64_in (by omega) (by omega)]
              refine ⟨v + 1, by omega, by omega, Wk.mk (by simp [get_cons, hms]) ⟨[], by simp [hsk]⟩ (Nat.le_refl _)⟩
        · obtain rfl : v = f.r := by omega
          simp only [go_sem,Nat.reduceEqDiff,Nat.reduceAdd,Nat.reduceMul,↓reduceIte,↓dreduceIte,reduceCtorEq,Nat.reduceLeDiff,Nat.reduceLT,Nat.reduceSub,Int.reduceToNat,Int.reduceLE,Int.reduceLT, hfb2, one_imm, one_ref, hregs, List.getElem?_set, g1, eq_false (show ¬ (f.r : Int) < f.r by omega)]
          rw [i64_in (by omega) (by omega), orP_all x y (by omega)]
          refine ⟨⟨c + 1, _, nx2⟩, ⟨by simp only; omega, ?_⟩, by simp only; omega, Wk.mk (by simp [get_cons, hnext, hfin]; omega) ⟨[], by rw [List.append_nil]⟩ (Nat.le_refl _)⟩
          simp only [hnext, hfin]
          exact hRS3
    · obtain rfl : c = f.n := by omega
      simp only [go_sem,Nat.reduceEqDiff,Nat.reduceAdd,Nat.reduceMul,↓reduceIte,↓dreduceIte,reduceCtorEq,Nat.reduceLeDiff,Nat.reduceLT,Nat.reduceSub,Int.reduceToNat,Int.reduceLE,Int.reduceLT, eq_false (show ¬ (0 : Int) ≤ (f.n : Int) - 1 - f.n by omega)]
      have hpm := pass_mono hf hRI f.n (Nat.le_refl _)
      refine ⟨⟨H, (passR f I0 O0 f.n).I, (passR f I0 O0 f.n).O, (passR f I0 O0 f.n).m, nx⟩, ⟨hRS, hRI.pass hf f.n (Nat.le_refl _), fun e => pass_least hf hRI e⟩, ?_, Wk.mk (by simp [get_cons]) ⟨[], by simp⟩ (Nat.le_refl _)⟩
      simp only
      split
      · rename_i e; have := hpm.2 e; omega
      · omega
/-- What was there stays. -/
def Kept (H H' : List VObj) : Prop := ∀ (i : Nat) (ob : VObj), H[i]? = some ob → H'[i]? = some ob
theorem Kept.stab {H H' : List VObj} (h : Kept H H') : Stab (fun _ => True) 1 H H' := fun id ob _ ho => ⟨ob, h id ob ho, rfl, rfl⟩
theorem Kept.app (H R : List VObj) : Kept H (H ++ R) := fun _ _ h => app_old h R
theorem Kept.trans {A B C : List VObj} (h : Kept A B) (k : Kept B C) : Kept A C := fun i ob ho => k i ob (h i ob ho)
theorem MT.kept {n r : Nat} {H H' : List VObj} {k s : Nat} {g : Nat → Nat × Nat} {m : List (List Bool)} (h : MT n r H k s g m) (kp : Kept H H') : MT n r H' k s g m := ⟨kp _ _ h.l, fun b hb => kp _ _ (h.r b hb), h.d⟩
theorem MT.lt {n r : Nat} {H : List VObj} {k s : Nat} {g : Nat → Nat × Nat} {m : List (List Bool)} (h : MT n r H k s g m) {b : Nat} (hb : b < n) : (g b).1 < H.length := (List.getElem?_eq_some_iff.1 (h.r b hb)).1
theorem MT.lv {n r : Nat} {H : List VObj} {k s kl : Nat} {g : Nat → Nat × Nat} {m : List (List Bool)} {o o' : VObj} (h : MT n r H k s g m) (ho : H[kl]? = some o) (ht : o.ty = 29) : MT n r (H.set kl o') k s g m :=
  h.keep (ts := [29]) (KeepT.set ho (by rw [ht]; simp)) (by simp) (by simp)
theorem rof_c (f : BF) (hf : Fine f) (L : LD) (hL : Least f L) : Contract Try.prog 15 [bfA f] (fun x => x = liveA L) := by
  refine Contract.of_call (VCall.of_body hmix f_scref27_Of (by simp) ?_)
  have hr0 := hf.r0
  have hr4 : f.r ≤ 4000 := by have := hf.r1; unfold BF.r; omega
  have hregs : f.regs = (f.r : Int) := by unfold BF.r; omega
  have hn5 : f.n ≤ 500 := hf.b1
  have hlen : (f.bks.length : Int) = f.n := rfl
  have hv1 : ∀ (H : List VObj) (nx : Nat) (C : AV → List VObj → Nat → Prop), (∀ s g H' nx', MT f.n f.r H' H.length s g (beginS f).I → (∀ b < f.n, H.length < (g b).1) → Kept H H' → C (.ref H.length s 0 f.n) H' nx') →
      VCall Try.prog 34 [I f.bks.length, I f.regs] H nx C := fun H nx C hC => by
    rw [hregs, hlen]
    exact none_v f.n f.r hn5 hr4 H nx C fun s g R nx' h1 h2 => hC s g _ nx' h1 h2 (Kept.app _ _)
  have hc : c_scref27_Of = VC.seq _ (VC.seq _ (VC.seq _ c_scref27_Of.tl.tl.tl)) := rfl
  have htail := rof_tail f hf L hL
  obtain ⟨D, hD⟩ : ∃ D, D = c_scref27_Of.tl.tl.tl := ⟨_, rfl⟩
  rw [← hD] at htail
  rw [hc, ← hD]
  simp only [go_sem,Nat.reduceEqDiff,Nat.reduceAdd,Nat.reduceMul,↓reduceIte,↓dreduceIte,reduceCtorEq,Nat.reduceLeDiff,Nat.reduceLT,Nat.reduceSub,Int.reduceToNat,Int.reduceLE,Int.reduceLT, one_imm, one_ref, List.length_map]
  repeat' (with_reducible apply And.intro)
  all_goals
    refine hv1 _ _ _ ?_
    intro s1 g1 H1 nx1 m1 p1 kp1
    refine ⟨kp1.stab, ?_⟩
    have a0 := kp1 0 _ rfl
    have a1 := kp1 1 _ rfl
    have c0 := app_old a0
    have z1 : 2 ≤ H1.length := by have := (List.getElem?_eq_some_iff.1 m1.l).1; (try simp at this); omega
    simp only [go_sem,Nat.reduceEqDiff,Nat.reduceAdd,Nat.reduceMul,↓reduceIte,↓dreduceIte,reduceCtorEq,Nat.reduceLeDiff,Nat.reduceLT,Nat.reduceSub,Int.reduceToNat,Int.reduceLE,Int.reduceLT, one_imm, one_ref, a0, c0]
    repeat' (with_reducible apply And.intro)
    all_goals
      refine hv1 _ _ _ ?_
      intro s2 g2 H2 nx2 m2 p2 kp2
      refine ⟨kp2.stab, ?_⟩
      have kp12 : Kept H1 H2 := by first | exact kp2 | exact (Kept.app _ _).trans kp2
      have hdio : ∀ b < f.n, ∀ c < f.n, (g1 b).1 ≠ (g2 c).1 := fun b hb c hc => by
        have h1 := m1.lt hb
        have h2 := p2 c hc
        try simp only [List.length_append] at h2
        omega
      have z2 : 2 ≤ H2.length := by have := (List.getElem?_eq_some_iff.1 m2.l).1; (try simp at this); omega
      have b0 := kp12 _ _ a0
      have b1 := kp12 _ _ a1
      have mm1 := m1.kept kp12
      first
      | (have b2 := kp12 _ _ (kp1 2 _ rfl)
         simp only [go_sem,Nat.reduceEqDiff,Nat.reduceAdd,Nat.reduceMul,↓reduceIte,↓dreduceIte,reduceCtorEq,Nat.reduceLeDiff,Nat.reduceLT,Nat.reduceSub,Int.reduceToNat,Int.reduceLE,Int.reduceLT, one_imm, one_ref, b2]
         repeat' (with_reducible apply And.intro)
         all_goals first | omega | (refine htail _ _ _ ⟨2, 2, 3, s1, H1.length, s2, g1, g2⟩ ?_ ?_ ?_ ?_ ?_ <;> first | rfl | exact ⟨by rw [set_ne (by omega)]; exact b0, by rw [set_ne (by omega)]; exact b1, set_get b2, mm1.lv b2 rfl, m2.lv b2 rfl, hdio⟩))
      | (simp only [go_sem,Nat.reduceEqDiff,Nat.reduceAdd,Nat.reduceMul,↓reduceIte,↓dreduceIte,reduceCtorEq,Nat.reduceLeDiff,Nat.reduceLT,Nat.reduceSub,Int.reduceToNat,Int.reduceLE,Int.reduceLT, one_imm, one_ref, app_get0, app_set0]
         repeat' (with_reducible apply And.intro)
         all_goals first | omega | (refine htail _ _ _ ⟨H2.length, nx2, 2, s1, H1.length, s2, g1, g2⟩ ?_ ?_ ?_ ?_ ?_ <;> first | rfl | exact ⟨app_old b0 _, app_old b1 _, by rw [app_get0]; rfl, mm1.app _, m2.app _, hdio⟩))
      | (have b2 := kp2 H1.length _ (by rw [app_get0]; rfl)
         have q1 : 1 < H1.length := (List.getElem?_eq_some_iff.1 a1).1
         rw [List.length_append] at m2 ⊢
         simp only [go_sem,Nat.reduceEqDiff,Nat.reduceAdd,Nat.reduceMul,↓reduceIte,↓dreduceIte,reduceCtorEq,Nat.reduceLeDiff,Nat.reduceLT,Nat.reduceSub,Int.reduceToNat,Int.reduceLE,Int.reduceLT, one_imm, one_ref, b2]
         repeat' (with_reducible apply And.intro)
         all_goals first | omega | (refine htail _ _ _ ⟨H1.length, nx1, 2, s1, H1.length + 1, s2, g1, g2⟩ ?_ ?_ ?_ ?_ ?_ <;> first | rfl | exact ⟨by rw [set_ne (by omega)]; exact b0, by rw [set_ne (by omega)]; exact b1, set_get b2, mm1.lv b2 rfl, m2.lv b2 rfl, hdio⟩))
end Go.Proofs.Ytjdeediehmhdoaa
