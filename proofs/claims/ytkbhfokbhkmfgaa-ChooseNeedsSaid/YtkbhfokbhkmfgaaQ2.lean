/-
  The least table by the document: contract. No condition. The search's beginning: contract. No condition. The search's beginning, whole, and the evaluator of the live registers: contracts. No condition. Where registers stand, plainly: what an allocation must be, and how much it needs. No condition. The document's allocations: how many words; may places be; apart; at an instruction: contracts; the same of the program's own words. No condition. The document's allocations: does one hold: contract. No condition. Which programs in blocks are small, and which allocations hold for them: contracts of what the laws of images ask. No condition. Which allocations hold for a small program: contracts. No condition. Images of blocks, plainly: what is written for an instruction, a block's end, a function. No condition. A writer in memory; its parts that write one instruction: contracts. No condition. A writer's small parts: where a register's word is, fetching, keeping, constants, copies: contracts. No condition. Words as numbers, plainly: bits, and what the operations make of them. No condition. A writer's parts that write an instruction, a block's end: contracts. No condition. A writer's part that writes an instruction: contract. No condition. A writer's part that writes a block's end: contract. No condition. A writer's part that writes a function: contract. No condition. A writer's part that writes a function, step by step: contract. No condition. Instructions as words, as the program has it: contracts. No condition. A writer's end: places put in, words made: contract. No condition. Images of blocks, plainly: what is written may be, and jumps go to blocks. No condition. Images of blocks, plainly: all functions, the last one first. No condition. A writer's part that writes a function: contract. No condition. Images of blocks: choose.Of, from its last steps on: contract. No condition. Images of blocks: choose.Of, its first steps: contract. No condition.
-/
import Derived.Test.YtkbhfokbhkmfgaaQ1
import Derived.Test.YtkbhfokbhkmfgaaUY
set_option linter.unusedVariables false
set_option linter.unusedSimpArgs false
namespace Go.Proofs.Ytkbhfokbhkmfgaa
set_option linter.unusedSimpArgs false
set_option linter.unusedVariables false
set_option maxRecDepth 10000
open Go.V
def orP (x y : List Bool) (k : Nat) : List Bool := (List.range x.length).map fun i => if i < k then gB x i || gB y i else gB x i
theorem orP_len (x y : List Bool) (k : Nat) : (orP x y k).length = x.length := by simp [orP]
theorem gB_orP (x y : List Bool) (k : Nat) {i : Nat} (hi : i < x.length) : gB (orP x y k) i = if i < k then gB x i || gB y i else gB x i := by
  unfold orP; rw [gB, List.getD]; simp [hi]
theorem orP_zero (x y : List Bool) : orP x y 0 = x := gB_ext (orP_len _ _ _) fun v hv => by
  rw [orP_len] at hv; rw [gB_orP _ _ _ hv, if_neg (by omega)]
theorem orP_all (x y : List Bool) {k : Nat} (hk : x.length ≤ k) : orP x y k = orL x y := gB_ext (by rw [orP_len, orL_len]) fun v hv => by
  rw [orP_len] at hv; rw [gB_orP _ _ _ hv, if_pos (by omega), gB_or _ _ hv]
theorem orP_set (x y : List Bool) {k : Nat} (hk : k < x.length) {w : Bool} (hw : w = (gB x k || gB y k)) : (orP x y k).set k w = orP x y (k + 1) := gB_ext (by simp [orP]) fun v hv => by
  have hv' : v < x.length := by simpa [orP] using hv
  rw [gB_set _ _ _ _ (by rw [orP_len]; exact hv'), gB_orP _ _ _ hv', gB_orP _ _ _ hv']
  by_cases e : k = v
  · subst e; rw [if_pos rfl, if_pos (by omega)]; exact hw
  · rw [if_neg e]
    by_cases h : v < k
    · rw [if_pos h, if_pos (by omega)]
    · rw [if_neg h, if_neg (by omega)]
theorem orP_skip (x y : List Bool) {k : Nat} (hk : k < x.length) (hw : gB x k = (gB x k || gB y k)) : orP x y k = orP x y (k + 1) := by
  rw [← orP_set x y hk hw]
  exact gB_ext (by simp) fun v hv => by
    have hv' : v < x.length := by rw [orP_len] at hv; exact hv
    rw [gB_set _ _ _ _ hv]
    by_cases e : k = v
    · subst e; rw [if_pos rfl, gB_orP _ _ _ hv', if_neg (by omega)]
    · rw [if_neg e]
def moreP (x a : List Bool) (k : Nat) : Bool := (List.range k).any fun i => gB a i && !gB x i
theorem moreP_step (x a : List Bool) (k : Nat) : moreP x a (k + 1) = (moreP x a k || (gB a k && !gB x k)) := by
  unfold moreP; rw [List.range_succ, List.any_append]; simp
theorem moreP_all (x a : List Bool) : moreP x a x.length = decide (orL x a ≠ x) := by
  rw [Bool.eq_iff_iff, decide_eq_true_iff]
  unfold moreP
  rw [List.any_eq_true]
  constructor
  · rintro ⟨i, hi, h⟩ e
    have hi := List.mem_range.1 hi
    have h3 := gB_or x a hi
    rw [e] at h3
    rw [Bool.and_eq_true, Bool.not_eq_true'] at h
    rw [h.1, h.2] at h3
    cases h3
  · intro h
    refine Classical.byContradiction fun hn => h (gB_ext (orL_len _ _) fun v hv => ?_)
    rw [orL_len] at hv
    rw [gB_or _ _ hv]
    cases h1 : gB x v
    · cases h2 : gB a v
      · rfl
      · exact absurd ⟨v, List.mem_range.2 hv, by rw [h1, h2]; rfl⟩ hn
    · rfl
structure RK where
  kl : Nat
  sl : Nat
  k1 : Nat
  s1 : Nat
  k2 : Nat
  s2 : Nat
  g1 : Nat → Nat × Nat
  g2 : Nat → Nat × Nat
structure RS (f : BF) (H : List VObj) (q : RK) (I O : List (List Bool)) : Prop where
  fb : H[0]? = some ⟨0, 52, 1, bfL f⟩
  rl : H[1]? = some ⟨1, 63, 1, [nilv, nilv]⟩
  lv : H[q.kl]? = some ⟨q.sl, 63, 1, [.ref q.k1 q.s1 0 f.n, .ref q.k2 q.s2 0 f.n]⟩
  mi : MT f.n f.r H q.k1 q.s1 q.g1 I
  mo : MT f.n f.r H q.k2 q.s2 q.g2 O
  dio : ∀ b < f.n, ∀ c < f.n, (q.g1 b).1 ≠ (q.g2 c).1
section
variable {f : BF} {H : List VObj} {q : RK} {I O : List (List Bool)}
theorem RS.app (h : RS f H q I O) (R : List VObj) : RS f (H ++ R) q I O := ⟨app_old h.fb R, app_old h.rl R, app_old h.lv R, h.mi.app R, h.mo.app R, h.dio⟩
theorem RS.setO (h : RS f H q I O) (hl : O.length = f.n) {b : Nat} (hb : b < f.n) (l : List Bool) : RS f (H.set (q.g2 b).1 ⟨(q.g2 b).2, 4, 1, l.map B⟩) q I (O.set b l) := by
  have k : KeepT [4] H (H.set (q.g2 b).1 ⟨(q.g2 b).2, 4, 1, l.map B⟩) := KeepT.set (h.mo.r b hb) (by simp)
  have hO : b < O.length := by omega
  refine ⟨k _ _ h.fb (by simp), k _ _ h.rl (by simp), k _ _ h.lv (by simp), ⟨k _ _ h.mi.l (by simp), fun c hc => ?_, h.mi.d⟩, ⟨k _ _ h.mo.l (by simp), fun c hc => ?_, h.mo.d⟩, h.dio⟩
  · rw [set_ne (fun e => h.dio c hc b hb e.symm)]; exact h.mi.r c hc
  · rw [row_set hO]
    by_cases e : b = c
    · subst e; rw [if_pos rfl]; exact set_get (h.mo.r b hb)
    · rw [if_neg e, set_ne (fun g => e (h.mo.d b hb c hc g))]; exact h.mo.r c hc
theorem RS.setI (h : RS f H q I O) (hl : I.length = f.n) {b : Nat} (hb : b < f.n) (l : List Bool) : RS f (H.set (q.g1 b).1 ⟨(q.g1 b).2, 4, 1, l.map B⟩) q (I.set b l) O := by
  have k : KeepT [4] H (H.set (q.g1 b).1 ⟨(q.g1 b).2, 4, 1, l.map B⟩) := KeepT.set (h.mi.r b hb) (by simp)
  have hI : b < I.length := by omega
  refine ⟨k _ _ h.fb (by simp), k _ _ h.rl (by simp), k _ _ h.lv (by simp), ⟨k _ _ h.mi.l (by simp), fun c hc => ?_, h.mi.d⟩, ⟨k _ _ h.mo.l (by simp), fun c hc => ?_, h.mo.d⟩, h.dio⟩
  · rw [row_set hI]
    by_cases e : b = c
    · subst e; rw [if_pos rfl]; exact set_get (h.mi.r b hb)
    · rw [if_neg e, set_ne (fun g => e (h.mi.d b hb c hc g))]; exact h.mi.r c hc
  · rw [set_ne (fun e => h.dio b hb c hc e)]; exact h.mo.r c hc
end
theorem MT.keep {n r : Nat} {H H' : List VObj} {k s : Nat} {g : Nat → Nat × Nat} {m : List (List Bool)} {ts : List Nat} (h : MT n r H k s g m) (kp : KeepT ts H H') (h1 : 67 ∉ ts) (h2 : 4 ∉ ts) : MT n r H' k s g m :=
  ⟨kp _ _ h.l h1, fun b hb => kp _ _ (h.r b hb) h2, h.d⟩
theorem MT.frz {n r : Nat} {H : List VObj} {k s nx : Nat} {g : Nat → Nat × Nat} {m : List (List Bool)} (h : MT n r H k s g m) (hm : m.length = n) (hr : ∀ l ∈ m, l.length = r) : Frz 0 H nx (.ref k s 0 n) (rowsA m) := by
  refine frz_whole (Nat.zero_le _) h.l (by simp [hm]) (by simp [hm]) (by simp [AV.one]) fun i x y hx hy => ?_
  have hi : i < n := by have := (List.getElem?_eq_some_iff.1 hx).1; simpa using this
  simp only [List.getElem?_map, List.getElem?_range hi, Option.map_some, Option.some.injEq] at hx
  rw [List.getElem?_map, List.getElem?_eq_getElem (show i < m.length by omega), Option.map_some, Option.some.injEq] at hy
  subst hx; subst hy
  have e : m.getD i [] = m[i] := by simp [List.getD, List.getElem?_eq_getElem (show i < m.length by omega)]
  have ho := h.r i hi
  rw [e] at ho
  exact frz_bools (Nat.zero_le _) ho (hr _ (List.getElem_mem _)).symm
structure MQ where
  H : List VObj
  I : List (List Bool)
  O : List (List Bool)
  m : Bool
  nx : Nat
structure CMQ where
  c : Nat
  H : List VObj
  nx : Nat
def _root_.Go.V.VC.tl : VC → VC
  | .seq _ y => y
  | x => x
theorem rof_tail (f : BF) (hf : Fine f) (L : LD) (hL : Least f L) (env : List (Nat × AV)) (H : List VObj) (nx : Nat) (q : RK) (he1 : get env 1 = .ptr 0 0 0) (he2 : get env 2 = .ptr 1 1 0) (he3 : get env 3 = I f.n) (he4 : get env 4 = .ptr q.kl q.sl 0)
    (hRS : RS f H q (beginS f).I (beginS f).O) : VW Try.prog c_scref27_Of.tl.tl.tl (retQ Try.prog [VR.cell 2 true 2] fun r H nx => ∃ y, Frz 0 H nx r y ∧ y = liveA L) ⟨env, H, nx⟩ := by
  have hr0 := hf.r0
  have hr4 : f.r ≤ 4000 := by have := hf.r1; unfold BF.r; omega
  have hregs : f.regs = (f.r : Int) := by unfold BF.r; omega
  have hn5 : f.n ≤ 500 := hf.b1
  have hlen : (f.bks.length : Int) = f.n := rfl
  have hfb := hRS.fb
  simp only [go_sem, Nat.reduceEqDiff, Nat.reduceAdd, ↓reduceIte, ↓dreduceIte, c_scref27_Of, VC.tl, he1, hfb]
  refine VCall.of_contract (refnext_c f hf.b1) (SleL.pure rfl) fun x hx => ?_
  subst hx
  simp only [go_sem, ↓reduceIte]
  refine VW_loop (fun x : MQ => ⟨[(1, .ptr 0 0 0), (2, .ptr 1 1 0), (3, I f.n), (4, .ptr q.kl q.sl 0), (5, nextA f), (6, B x.m)], x.H, x.nx⟩) (fun x => RS f x.H q x.I x.O ∧ RInv f x.I x.O ∧ (x.m = false → Least f ⟨x.I, x.O⟩)) (fun x => if x.m then unset x.I + 1 else 0)
    ⟨H, (beginS f).I, (beginS f).O, true, nx⟩ (Wk.mk (by simp [get_cons, he1, he2, he3, he4]) ⟨[], by simp⟩ (Nat.le_refl _)) ⟨hRS, begin_r f, fun e => by cases e⟩ ?_
  clear hRS hfb
  rintro ⟨H, I0, O0, m, nx⟩ ⟨hRS, hRI, hm⟩
  simp only at hRS hRI hm
  cases m
  · have hLL : (⟨I0, O0⟩ : LD) = L := (hm rfl).unique hL
    subst hLL
    have hlv := hRS.lv
    have hrl := hRS.rl
    have l1 := lt_of hrl
    have kp : KeepT [63] H (H.set 1 ⟨1, 63, 1, [.ref q.k1 q.s1 0 f.n, .ref q.k2 q.s2 0 f.n]⟩) := KeepT.set hrl (by simp)
    simp only [go_sem, Nat.reduceEqDiff, Nat.reduceAdd, ↓reduceIte, hlv, hrl, List.getElem?_set, l1]
    repeat ((with_reducible refine And.intro ?_ ?_); · omega)
    refine ⟨_, Frz.agg (ys := [rowsA I0, rowsA O0]) ?_, rfl⟩
    exact ⟨_, _, rfl, (hRS.mi.keep kp (by simp) (by simp)).frz hRI.sz.i hRI.sz.ir, _, _, rfl, (hRS.mo.keep kp (by simp) (by simp)).frz hRI.sz.o hRI.sz.or, rfl⟩
  · simp only [go_sem, Nat.reduceEqDiff, ↓reduceIte]
    rw [i64_in (by omega) (by omega)]
    refine VW_loop (fun x : CMQ => ⟨[(1, .ptr 0 0 0), (2, .ptr 1 1 0), (3, I f.n), (4, .ptr q.kl q.sl 0), (5, nextA f), (6, B (passR f I0 O0 x.c).m), (7, I ((f.n : Int) - 1 - x.c))], x.H, x.nx⟩) (fun x => x.c ≤ f.n ∧ RS f x.H q (passR f I0 O0 x.c).I (passR f I0 O0 x.c).O) (fun x => f.n - x.c)
      ⟨0, H, nx⟩ (Wk.mk (by simp [get_cons, passR]) ⟨[], by simp⟩ (Nat.le_refl _)) ⟨by simp, hRS⟩ ?_
    clear hRS
    rintro ⟨c, H, nx⟩ ⟨hc, hRS⟩
    simp only at hc hRS
    by_cases hlt : c < f.n
    · have hP := hRI.pass hf c (by omega)
      have e1 : ((f.n : Int) - 1 - c).toNat = f.n - 1 - c := by omega
      obtain ⟨b, hbe⟩ : ∃ b, b = f.n - 1 - c := ⟨_, rfl⟩
      have hb : b < f.n := by omega
      have hbn : b < f.bks.length := hb
      have hbk : f.bks.getD b default = f.bk b := rfl
      have hbi : (f.n : Int) - 1 - c = b := by omega
      have hnext : passR f I0 O0 (c + 1) = stepR f (passR f I0 O0 c) b := by rw [hbe]; rfl
      rw [hbi]
      generalize passR f I0 O0 c = p at hRS hP hnext ⊢
      have hil : (p.I.getD b []).length = f.r := hP.sz.il hb
      have hol : (p.O.getD b []).length = f.r := hP.sz.ol hb
      have hfb := hRS.fb
      have hlv := hRS.lv
      have hmil := hRS.mi.l
      have hmol := hRS.mo.l
      have hob := hRS.mo.r b hb
      have f1 := ty_ne hob hfb (by simp)
      have f2 := ty_ne hob hlv (by simp)
      have f3 := ty_ne hob hmil (by simp)
      have f4 := ty_ne hob hmol (by simp)
      have l1 := lt_of hob
      have hnl := nxt_len (f.bk b)
      have hto := hf.to _ (BF.mem hb)
      have hlen2 : (f.bks.map fun b => ints (nxt b)).length = f.n := by simp [BF.n]
      simp only [go_sem, Nat.reduceEqDiff, ↓reduceIte, eq_true (show (0 : Int) ≤ (b : Int) by omega)]
      refine VW_loop (fun j : Nat => ⟨[(1, .ptr 0 0 0), (2, .ptr 1 1 0), (3, I f.n), (4, .ptr q.kl q.sl 0), (5, nextA f), (6, B p.m), (7, I b), (8, I j)], H.set (q.g2 b).1 ⟨(q.g2 b).2, 4, 1, (gath p.I (p.O.getD b []) ((nxt (f.bk b)).take j)).map B⟩, nx⟩) (fun j => j ≤ (nxt (f.bk b)).length) (fun j => (nxt (f.bk b)).length - j) 0
        (Wk.mk (by simp [get_cons]) ⟨[], by rw [List.append_nil]; exact (set_of_get hob).symm⟩ (Nat.le_refl _)) (by omega) ?_
      intro j hj
      by_cases hl2 : j < (nxt (f.bk b)).length
      · have hk := hto _ (mem_getD hl2)
        have hgt := gath_take p.I (p.O.getD b []) _ hl2
        have hgl := gath_len p.I ((nxt (f.bk b)).take j) (p.O.getD b [])
        generalize hkk : (nxt (f.bk b)).getD j default = k at hk hgt ⊢
        have hkn : k.toNat < f.n := by unfold BF.n; omega
        have hik := hRS.mi.r k.toNat hkn
        have hkl : (p.I.getD k.toNat []).length = f.r := hP.sz.il hkn
        have f5 : ((q.g2 b).1 = (q.g1 k.toNat).1) = False := eq_false fun e => hRS.dio _ hkn b hb e.symm
        generalize hx : gath p.I (p.O.getD b []) ((nxt (f.bk b)).take j) = x at hgt hgl ⊢
        rw [hol] at hgl
        have hgt' : gath p.I (p.O.getD b []) ((nxt (f.bk b)).take (j + 1)) = orL x (p.I.getD k.toNat []) := hgt
        generalize hy : p.I.getD k.toNat [] = y at hik hkl hgt'
        simp only [go_sem, Nat.reduceEqDiff, ↓reduceIte, hbk, List.length_map, eq_true (show (j : Int) < (nxt (f.bk b)).length by omega)]
        repeat ((with_reducible refine And.intro ?_ ?_); · omega)
        refine VW_loop (fun v : Nat => ⟨[(1, .ptr 0 0 0), (2, .ptr 1 1 0), (3, I f.n), (4, .ptr q.kl q.sl 0), (5, nextA f), (6, B p.m), (7, I b), (8, I j), (9, I v)], H.set (q.g2 b).1 ⟨(q.g2 b).2, 4, 1, (orP x y v).map B⟩, nx⟩) (fun v => v ≤ f.r) (fun v => f.r - v) 0
          (Wk.mk (by simp [get_cons]) ⟨[], by rw [orP_zero, List.append_nil]⟩ (Nat.le_refl _)) (by omega) ?_
        intro v hv
        by_cases hl3 : v < f.r
        · have hgx : gB (orP x y v) v = gB x v := by rw [gB_orP _ _ _ (by omega), if_neg (by omega)]
          cases h5 : gB x v
          · have hst : (orP x y v).set v (gB y v) = orP x y (v + 1) := orP_set x y (by omega) (by rw [h5]; rfl)
            simp only [go_sem, Nat.reduceEqDiff, Nat.reduceAdd, ↓reduceIte, ↓dreduceIte, Nat.reduceLeDiff, hfb, hlv, hmil, hmol, hik, cellT_row, hbk, hkk, hregs, List.length_map, eq_true (show (v : Int) < f.r by omega), List.getElem?_set, f1, f2, f3, f4, f5, l1, gB_getD, hgx, h5, set_B, hst, orP_len, List.set_set]
            repeat ((with_reducible refine And.intro ?_ ?_); · omega)
            rw [i64_in (by omega) (by omega)]
            exact ⟨v + 1, by omega, by omega, Wk.mk (by simp [get_cons]) ⟨[], by simp⟩ (Nat.le_refl _)⟩
          · have hst : (orP x y v).set v true = orP x y (v + 1) := orP_set x y (by omega) (by rw [h5]; rfl)
            simp only [go_sem, Nat.reduceEqDiff, Nat.reduceAdd, ↓reduceIte, ↓dreduceIte, Nat.reduceLeDiff, hfb, hlv, hmol, cellT_row, hregs, List.length_map, eq_true (show (v : Int) < f.r by omega), List.getElem?_set, f1, f2, f4, l1, gB_getD, hgx, h5, set_B, hst, orP_len, List.set_set]
            repeat ((with_reducible refine And.intro ?_ ?_); · omega)
            rw [i64_in (by omega) (by omega)]
            exact ⟨v + 1, by omega, by omega, Wk.mk (by simp [get_cons]) ⟨[], by simp⟩ (Nat.le_refl _)⟩
        · obtain rfl : v = f.r := by omega
          simp only [go_sem, Nat.reduceEqDiff, Nat.reduceAdd, ↓reduceIte, Nat.reduceLeDiff, hfb, hregs, List.getElem?_set, f1, eq_false (show ¬ (f.r : Int) < f.r by omega)]
          rw [i64_in (by omega) (by omega)]
          refine ⟨j + 1, by omega, by omega, Wk.mk (by simp [get_cons]) ⟨[], ?_⟩ (Nat.le_refl _)⟩
          rw [List.append_nil, hgt', orP_all x y (by omega)]
      · obtain rfl : j = (nxt (f.bk b)).length := by omega
        rw [List.take_length, show gath p.I (p.O.getD b []) (nxt (f.bk b)) = newO f p.I p.O b from rfl]
        have hob1 := set_get (x := ⟨(q.g2 b).2, 4, 1, (newO f p.I p.O b).map B⟩) hob
        have hRS1 := hRS.setO hP.sz.o hb (newO f p.I p.O b)
        have holn := hP.olen hf hb
        have haln := hP.alen hf hb
        generalize H.set (q.g2 b).1 ⟨(q.g2 b).2, 4, 1, (newO f p.I p.O b).map B⟩ = H1 at hob1 hRS1 ⊢
        have hfb1 := hRS1.fb
        have hlv1 := hRS1.lv
        have hmol1 := hRS1.mo.l
        have hrg := hf.regs hb (l := newO f p.I p.O b) holn
        have hln := hf.len _ (BF.mem hb)
        simp only [go_sem, Nat.reduceEqDiff, Nat.reduceAdd, ↓reduceIte, ↓dreduceIte, hfb1, hlv1, hmol1, hbk, cellT_row, List.length_map, eq_false (show ¬ ((nxt (f.bk b)).length : Int) < (nxt (f.bk b)).length by omega)]
        repeat ((with_reducible refine And.intro ?_ ?_); · omega)
        refine rahead_v (f.bk b) (newO f p.I p.O b) _ _ _ (by omega) (by omega) hrg.2 hrg.1 (fun R nx' => frz_bools (Nat.zero_le _) (app_old hob1 R) (by rw [holn])) _ fun R nx2 => ?_
        rw [show aheadL (f.bk b) (newO f p.I p.O b) = inOf f p.I p.O b from rfl]
        have hRS2 := hRS1.app R
        generalize H1 ++ R = H2 at hRS2 ⊢
        clear hob1 hRS1 hfb1 hlv1 hmol1
        have hib2 := hRS2.mi.r b hb
        have hfb2 := hRS2.fb
        have hlv2 := hRS2.lv
        have hmil2 := hRS2.mi.l
        have g1 := ty_ne hib2 hfb2 (by simp)
        have g2 := ty_ne hib2 hlv2 (by simp)
        have g3 := ty_ne hib2 hmil2 (by simp)
        have l2 := lt_of hib2
        have hRS3 := hRS2.setI hP.sz.i hb (orL (p.I.getD b []) (inOf f p.I p.O b))
        have hfin : stepR f p b = ⟨p.I.set b (orL (p.I.getD b []) (inOf f p.I p.O b)), p.O.set b (newO f p.I p.O b), p.m || moreP (p.I.getD b []) (inOf f p.I p.O b) f.r⟩ := by
          unfold stepR; rw [← hil, moreP_all]
        generalize p.I.getD b [] = x at hib2 hil hRS3 hfin
        generalize inOf f p.I p.O b = y at haln hRS3 hfin ⊢
        simp only [go_sem, ↓reduceIte]
        refine VW_loop (fun v : Nat => ⟨[(1, .ptr 0 0 0), (2, .ptr 1 1 0), (3, I f.n), (4, .ptr q.kl q.sl 0), (5, nextA f), (6, B (p.m || moreP x y v)), (7, I b), (10, bools y), (11, I v)], H2.set (q.g1 b).1 ⟨(q.g1 b).2, 4, 1, (orP x y v).map B⟩, nx2⟩) (fun v => v ≤ f.r) (fun v => f.r - v) 0
          (Wk.mk (by simp [get_cons, moreP]) ⟨[], by rw [orP_zero, List.append_nil]; exact (set_of_get hib2).symm⟩ (Nat.le_refl _)) (by omega) ?_
        intro v hv
        by_cases hl3 : v < f.r
        · have hgx : gB (orP x y v) v = gB x v := by rw [gB_orP _ _ _ (by omega), if_neg (by omega)]
          have hms := moreP_step x y v
          cases h5 : gB y v
          · have hsk := orP_skip x y (k := v) (by omega) (by rw [h5, Bool.or_false])
            rw [h5] at hms
            simp only [go_sem, Nat.reduceEqDiff, Nat.reduceAdd, ↓reduceIte, Nat.reduceLeDiff, hfb2, hregs, eq_true (show (v : Int) < f.r by omega), List.getElem?_set, g1, gB_getD, h5]
            repeat ((with_reducible refine And.intro ?_ ?_); · omega)
            rw [i64_in (by omega) (by omega)]
            refine ⟨v + 1, by omega, by omega, Wk.mk (by simp [get_cons, hms]) ⟨[], by simp [hsk]⟩ (Nat.le_refl _)⟩
          · cases h6 : gB x v
            · have hst : (orP x y v).set v true = orP x y (v + 1) := orP_set x y (by omega) (by rw [h5]; simp)
              rw [h5, h6] at hms
              simp only [go_sem, Nat.reduceEqDiff, Nat.reduceAdd, ↓reduceIte, ↓dreduceIte, Nat.reduceLeDiff, hfb2, hlv2, hmil2, cellT_row, hregs, List.length_map, eq_true (show (v : Int) < f.r by omega), List.getElem?_set, g1, g2, g3, l2, gB_getD, h5, hgx, h6, set_B, hst, orP_len, List.set_set]
              repeat ((with_reducible refine And.intro ?_ ?_); · omega)
              rw [i64_in (by omega) (by omega)]
              refine ⟨v + 1, by omega, by omega, Wk.mk (by simp [get_cons, hms]) ⟨[], by simp⟩ (Nat.le_refl _)⟩
            · have hsk := orP_skip x y (k := v) (by omega) (by rw [h6, Bool.true_or])
              rw [h5, h6] at hms
              simp only [go_sem, Nat.reduceEqDiff, Nat.reduceAdd, ↓reduceIte, ↓dreduceIte, Nat.reduceLeDiff, hfb2, hlv2, hmil2, cellT_row, hregs, eq_true (show (v : Int) < f.r by omega), List.getElem?_set, g1, g2, g3, l2, gB_getD, h5, hgx, h6, orP_len]
              repeat ((with_reducible refine And.intro ?_ ?_); · omega)
              rw [i64_in (by omega) (by omega)]
              refine ⟨v + 1, by omega, by omega, Wk.mk (by simp [get_cons, hms]) ⟨[], by simp [hsk]⟩ (Nat.le_refl _)⟩
        · obtain rfl : v = f.r := by omega
          simp only [go_sem, Nat.reduceEqDiff, Nat.reduceAdd, ↓reduceIte, Nat.reduceLeDiff, hfb2, hregs, List.getElem?_set, g1, eq_false (show ¬ (f.r : Int) < f.r by omega)]
          rw [i64_in (by omega) (by omega), orP_all x y (by omega)]
          refine ⟨⟨c + 1, _, nx2⟩, ⟨by simp only; omega, ?_⟩, by simp only; omega, Wk.mk (by simp [get_cons, hnext, hfin]; omega) ⟨[], by rw [List.append_nil]⟩ (Nat.le_refl _)⟩
          simp only [hnext, hfin]
          exact hRS3
    · obtain rfl : c = f.n := by omega
      simp only [go_sem, Nat.reduceEqDiff, ↓reduceIte, eq_false (show ¬ (0 : Int) ≤ (f.n : Int) - 1 - f.n by omega)]
      have hpm := pass_mono hf hRI f.n (Nat.le_refl _)
      refine ⟨⟨H, (passR f I0 O0 f.n).I, (passR f I0 O0 f.n).O, (passR f I0 O0 f.n).m, nx⟩, ⟨hRS, hRI.pass hf f.n (Nat.le_refl _), fun e => pass_least hf hRI e⟩, ?_, Wk.mk (by simp [get_cons]) ⟨[], by simp⟩ (Nat.le_refl _)⟩
      simp only
      split
      · rename_i e; have := hpm.2 e; omega
      · omega
def Kept (H H' : List VObj) : Prop := ∀ (i : Nat) (ob : VObj), H[i]? = some ob → H'[i]? = some ob
theorem Kept.stab {H H' : List VObj} (h : Kept H H') : Stab (fun _ => True) 1 H H' := fun id ob _ ho => ⟨ob, h id ob ho, rfl, rfl⟩
theorem Kept.app (H R : List VObj) : Kept H (H ++ R) := fun _ _ h => app_old h R
theorem Kept.trans {A B C : List VObj} (h : Kept A B) (k : Kept B C) : Kept A C := fun i ob ho => k i ob (h i ob ho)
theorem MT.kept {n r : Nat} {H H' : List VObj} {k s : Nat} {g : Nat → Nat × Nat} {m : List (List Bool)} (h : MT n r H k s g m) (kp : Kept H H') : MT n r H' k s g m := ⟨kp _ _ h.l, fun b hb => kp _ _ (h.r b hb), h.d⟩
theorem MT.lt {n r : Nat} {H : List VObj} {k s : Nat} {g : Nat → Nat × Nat} {m : List (List Bool)} (h : MT n r H k s g m) {b : Nat} (hb : b < n) : (g b).1 < H.length := (List.getElem?_eq_some_iff.1 (h.r b hb)).1
theorem MT.lv {n r : Nat} {H : List VObj} {k s kl : Nat} {g : Nat → Nat × Nat} {m : List (List Bool)} {o o' : VObj} (h : MT n r H k s g m) (ho : H[kl]? = some o) (ht : o.ty = 63) : MT n r (H.set kl o') k s g m :=
  h.keep (ts := [63]) (KeepT.set ho (by rw [ht]; simp)) (by simp) (by simp)
theorem rof_c (f : BF) (hf : Fine f) (L : LD) (hL : Least f L) : Contract Try.prog 24 [bfA f] (fun x => x = liveA L) := by
  refine Contract.of_call (VCall.of_body hmix f_scref27_Of (by simp) ?_)
  have hr0 := hf.r0
  have hr4 : f.r ≤ 4000 := by have := hf.r1; unfold BF.r; omega
  have hregs : f.regs = (f.r : Int) := by unfold BF.r; omega
  have hn5 : f.n ≤ 500 := hf.b1
  have hlen : (f.bks.length : Int) = f.n := rfl
  have hv1 : ∀ (H : List VObj) (nx : Nat) (C : AV → List VObj → Nat → Prop), (∀ s g H' nx', MT f.n f.r H' H.length s g (beginS f).I → (∀ b < f.n, H.length < (g b).1) → Kept H H' → C (.ref H.length s 0 f.n) H' nx') →
      VCall Try.prog 45 [I f.bks.length, I f.regs] H nx C := fun H nx C hC => by
    rw [hregs, hlen]
    exact none_v f.n f.r hn5 hr4 H nx C fun s g R nx' h1 h2 => hC s g _ nx' h1 h2 (Kept.app _ _)
  have hc : c_scref27_Of = VC.seq _ (VC.seq _ (VC.seq _ c_scref27_Of.tl.tl.tl)) := rfl
  have htail := rof_tail f hf L hL
  obtain ⟨D, hD⟩ : ∃ D, D = c_scref27_Of.tl.tl.tl := ⟨_, rfl⟩
  rw [← hD] at htail
  rw [hc, ← hD]
  simp only [go_sem, Nat.reduceEqDiff, Nat.reduceAdd, ↓reduceIte, ↓dreduceIte, Nat.reduceLeDiff, Nat.reduceLT, List.length_map]
  repeat' (with_reducible apply And.intro)
  all_goals
    refine hv1 _ _ _ ?_
    intro s1 g1 H1 nx1 m1 p1 kp1
    refine ⟨kp1.stab, ?_⟩
    have a0 := kp1 0 _ rfl
    have a1 := kp1 1 _ rfl
    have c0 := app_old a0
    have z1 : 2 ≤ H1.length := by have := (List.getElem?_eq_some_iff.1 m1.l).1; (try simp at this); omega
    simp only [go_sem, Nat.reduceEqDiff, Nat.reduceAdd, ↓reduceIte, ↓dreduceIte, Nat.reduceLeDiff, Nat.reduceLT, a0]
    repeat' (with_reducible apply And.intro)
    all_goals
      refine hv1 _ _ _ ?_
      intro s2 g2 H2 nx2 m2 p2 kp2
      refine ⟨kp2.stab, ?_⟩
      have kp12 : Kept H1 H2 := by first | exact kp2 | exact (Kept.app _ _).trans kp2
      have hdio : ∀ b < f.n, ∀ c < f.n, (g1 b).1 ≠ (g2 c).1 := fun b hb c hc => by
        have h1 := m1.lt hb
        have h2 := p2 c hc
        try simp only [List.length_append] at h2
        omega
      have z2 : 2 ≤ H2.length := by have := (List.getElem?_eq_some_iff.1 m2.l).1; (try simp at this); omega
      have b0 := kp12 _ _ a0
      have b1 := kp12 _ _ a1
      have mm1 := m1.kept kp12
      first
      | (have b2 := kp12 _ _ (kp1 2 _ rfl)
         simp only [go_sem, Nat.reduceEqDiff, Nat.reduceAdd, ↓reduceIte, Nat.reduceLeDiff, b2]
         repeat' (with_reducible apply And.intro)
         all_goals first | omega | (refine htail _ _ _ ⟨2, 2, 3, s1, H1.length, s2, g1, g2⟩ ?_ ?_ ?_ ?_ ?_ <;> first | rfl | exact ⟨by rw [set_ne (by omega)]; exact b0, by rw [set_ne (by omega)]; exact b1, set_get b2, mm1.lv b2 rfl, m2.lv b2 rfl, hdio⟩))
      | (simp only [go_sem, Nat.reduceEqDiff, Nat.reduceAdd, ↓reduceIte, Nat.reduceLeDiff, app_get0, app_set0]
         repeat' (with_reducible apply And.intro)
         all_goals first | omega | (refine htail _ _ _ ⟨H2.length, nx2, 2, s1, H1.length, s2, g1, g2⟩ ?_ ?_ ?_ ?_ ?_ <;> first | rfl | exact ⟨app_old b0 _, app_old b1 _, by rw [app_get0]; rfl, mm1.app _, m2.app _, hdio⟩))
      | (have b2 := kp2 H1.length _ (by rw [app_get0]; rfl)
         have q1 : 1 < H1.length := (List.getElem?_eq_some_iff.1 a1).1
         rw [List.length_append] at m2 ⊢
         simp only [go_sem, Nat.reduceEqDiff, Nat.reduceAdd, ↓reduceIte, Nat.reduceLeDiff, b2]
         repeat' (with_reducible apply And.intro)
         all_goals first | omega | (refine htail _ _ _ ⟨H1.length, nx1, 2, s1, H1.length + 1, s2, g1, g2⟩ ?_ ?_ ?_ ?_ ?_ <;> first | rfl | exact ⟨by rw [set_ne (by omega)]; exact b0, by rw [set_ne (by omega)]; exact b1, set_get b2, mm1.lv b2 rfl, m2.lv b2 rfl, hdio⟩))
end Go.Proofs.Ytkbhfokbhkmfgaa
namespace Go.Proofs.Ytkbhfokbhkmfgaa
set_option linter.unusedSimpArgs false
set_option linter.unusedVariables false
set_option maxRecDepth 10000
open Go.V
structure WQ2 where
  k : Nat
  H : List VObj
  wv : AV
  nx : Nat
theorem SB.HS {f : BF} {ka kw : Nat} {o0 o1 : VObj} {x : BQ} (h : SB f ka kw o0 o1 (predJ f f.n 0) x) (hb : x.b = f.n) :
    HS f x.H ⟨5, 5, 8, x.s8, 9, x.s9, kw, kw, ka, ka, 6, x.s6, 7, x.s7, fun c => (10 + c, x.sp c), x.ri, x.ro⟩ nilv ⟨List.replicate f.n (List.replicate f.r false), List.replicate f.n (List.replicate f.r false), []⟩ := by
  have hrep : ∀ b, b < f.n → (List.replicate f.n (List.replicate f.r false)).getD b [] = List.replicate f.r false := fun b hb => by simp [List.getD, hb]
  have htk : f.bks.take f.n = f.bks := List.take_of_length_le (Nat.le_refl _)
  have hpl : predJ f f.n 0 = predL f := funext fun c => predJ_all f c
  have hso := h.so
  have h6 := h.r6
  have h7 := h.r7
  have h8 := h.r8
  have h9 := h.r9
  rw [hb] at hso h6 h7 h8 h9
  rw [htk] at h6 h7
  have hah := h.ah
  have hpr := h.pr
  rw [hpl] at hah hpr
  have hfl : flags f.n [] = List.replicate f.n false := gB_ext (by simp [flags]) fun v hv => by
    have hv' : v < f.n := by simpa [flags] using hv
    rw [flags_get hv', gB_rep]; simp
  exact ⟨hso, h8, h9, fun b hb' => by rw [hrep b hb']; exact h.ri b (by omega), fun b hb' => by rw [hrep b hb']; exact h.ro b (by omega), by rw [hfl]; exact h.w, .inl ⟨rfl, rfl⟩, hah, h6, h7, hpr, fun b hb' c hc => h.dI b (by omega) c (by omega), fun b hb' c hc => h.dO b (by omega) c (by omega), fun b hb' c hc => h.dIO b (by omega) c (by omega)⟩
structure PQ where
  j : Nat
  H : List VObj
  sp : Nat → Nat
  nx : Nat
theorem lt_succ' {a n : Nat} (h : a < n) : (a < n + 1) = True := eq_true (by omega)
theorem app_at {α : Type} {H R : List α} {i : Nat} (h : i < H.length) : (H ++ R)[i]? = H[i]? := List.getElem?_append_left h
theorem app_end {α : Type} {H : List α} {a : α} : (H ++ [a])[H.length]? = some a := by simp
theorem app_endn {α : Type} {H : List α} {a : α} {k : Nat} (h : k = H.length) : (H ++ [a])[k]? = some a := by subst h; simp
theorem set_at {α : Type} {H : List α} {a : α} {i : Nat} (h : i < H.length) : (H.set i a)[i]? = some a := by simp [h]
theorem set_off {α : Type} {H : List α} {a : α} {i j : Nat} (h : (i = j) = False) : (H.set i a)[j]? = H[j]? := List.getElem?_set_ne (fun e => by rw [e] at h; simp at h)
theorem push_at {H : List VObj} {t x y a : VObj} {k i : Nat} (h : H[i]? = some a) (hk : k ≠ i) (h5 : 5 ≠ i) : (((H ++ [t]).set k x).set 5 y)[i]? = some a := by rw [set_ne h5, set_ne hk]; exact app_old h _
theorem push_5 {H : List VObj} {t x y a : VObj} {k : Nat} (h : H[5]? = some a) : (((H ++ [t]).set k x).set 5 y)[5]? = some y := by
  have := (List.getElem?_eq_some_iff.1 h).1
  rw [List.getElem?_set_self (by simp; omega)]
theorem push_k {H : List VObj} {t x y a : VObj} {k : Nat} (h : H[k]? = some a) (h5 : 5 ≠ k) : (((H ++ [t]).set k x).set 5 y)[k]? = some x := by
  rw [set_ne h5]; exact set_get (app_old h _)
theorem push_keep {H : List VObj} {t x y a z : VObj} {k : Nat} (h : H[k]? = some a) (h5 : H[5]? = some z) (ha : a.ty = 100) (hz : z.ty = 97) : KeepT [100, 97] H (((H ++ [t]).set k x).set 5 y) := fun i ob hi ho => by
  have f1 : k ≠ i := fun e => by subst e; rw [h] at hi; cases hi; exact ho (by simp [ha])
  have f2 : 5 ≠ i := fun e => by subst e; rw [h5] at hi; cases hi; exact ho (by simp [hz])
  exact push_at hi f1 f2
theorem rowsL_succ (n r : Nat) (ri : Nat → Nat × Nat) (q : Nat × Nat) : rowsL n r ri ++ [AV.ref q.1 q.2 0 (rl r)] = rowsL (n + 1) r (fun c => if c = n then q else ri c) := by
  unfold rowsL
  rw [List.range_succ, List.map_append]
  congr 1
  · refine List.map_congr_left fun c hc => ?_
    have : c ≠ n := by have := List.mem_range.1 hc; omega
    simp only [if_neg this]
  · simp
theorem SB.row {f : BF} {ka kw : Nat} {o0 o1 : VObj} {pl : Nat → List Nat} {x : BQ} (h : SB f ka kw o0 o1 pl x) (t0 : o0.ty = 52) (t1 : o1.ty = 63) (hb : x.b < f.n)
    {H4 H6 H7 : List VObj} {y1 u1 u2 a5 : VObj} {s6' s7' s8' s9' n4 n6 nx' : Nat}
    (k4 : KeepT [100, 97] x.H H4) (g5 : H4[5]? = some a5) (g5t : a5.ty = 97)
    (g6 : H4[6]? = some ⟨s6', 100, 1, (f.bks.take (x.b + 1)).map fun b => .imm 1 (rowC64 (readL b f.r))⟩)
    (g7 : H4[7]? = some ⟨s7', 100, 1, (f.bks.take (x.b + 1)).map fun b => .imm 1 (rowC64 (setL b f.r))⟩)
    (g8 : H4[8]? = some ⟨x.s8, 100, 1, rowsL x.b f.r x.ri⟩) (g9 : H4[9]? = some ⟨x.s9, 100, 1, rowsL x.b f.r x.ro⟩)
    (y1t : y1.ty = 97)
    (e6 : H6 = (((H4 ++ [VObj.mk n4 130 1 (rowC64 (List.replicate f.r false))]) ++ [u1]).set 8 (VObj.mk s8' 100 1 (rowsL x.b f.r x.ri ++ [AV.ref H4.length n4 0 (rl f.r)]))).set 5 y1)
    (e7 : H7 = (((H6 ++ [VObj.mk n6 130 1 (rowC64 (List.replicate f.r false))]) ++ [u2]).set 9 (VObj.mk s9' 100 1 (rowsL x.b f.r x.ro ++ [AV.ref H6.length n6 0 (rl f.r)]))).set 5 (VObj.mk 5 97 1 (slB f ka kw (x.b + 1) s6' s7' s8' s9'))) :
    SB f ka kw o0 o1 pl ⟨x.b + 1, H7, s6', s7', s8', s9', x.sp, fun c => if c = x.b then (H4.length, n4) else x.ri c, fun c => if c = x.b then (H6.length, n6) else x.ro c, nx'⟩ := by
  have k5 : KeepT [100, 97] (H4 ++ [⟨n4, 130, 1, rowC64 (List.replicate f.r false)⟩]) H6 := by
    rw [e6]; exact push_keep (app_old g8 _) (app_old g5 _) rfl g5t
  have k6 := (KeepT.app [100, 97] H4 [⟨n4, 130, 1, rowC64 (List.replicate f.r false)⟩]).trans k5
  have j5 : H6[5]? = some y1 := by rw [e6]; exact push_5 (app_old g5 _)
  have j6 : H6[6]? = some _ := (congrArg (fun l : List VObj => l[(6 : Nat)]?) e6).trans (push_at (app_old g6 _) (by decide) (by decide))
  have j7 : H6[7]? = some _ := (congrArg (fun l : List VObj => l[(7 : Nat)]?) e6).trans (push_at (app_old g7 _) (by decide) (by decide))
  have j8 : H6[8]? = some _ := (congrArg (fun l : List VObj => l[(8 : Nat)]?) e6).trans (push_k (app_old g8 _) (by decide))
  have j9 : H6[9]? = some _ := (congrArg (fun l : List VObj => l[(9 : Nat)]?) e6).trans (push_at (app_old g9 _) (by decide) (by decide))
  have k7' : KeepT [100, 97] (H6 ++ [⟨n6, 130, 1, rowC64 (List.replicate f.r false)⟩]) H7 := by
    rw [e7]; exact push_keep (app_old j9 _) (app_old j5 _) rfl y1t
  have k7 := (KeepT.app [100, 97] H6 [⟨n6, 130, 1, rowC64 (List.replicate f.r false)⟩]).trans k7'
  have k := (k4.trans k6).trans k7
  have li : ∀ c < x.b, (x.ri c).1 < H4.length := fun c hc => (List.getElem?_eq_some_iff.1 (k4 _ _ (h.ri c hc) (by simp))).1
  have lo : ∀ c < x.b, (x.ro c).1 < H4.length := fun c hc => (List.getElem?_eq_some_iff.1 (k4 _ _ (h.ro c hc) (by simp))).1
  have l46 : H4.length < H6.length := by rw [e6]; simp
  refine ⟨k _ _ h.h0 (by rw [t0]; simp), k _ _ h.h1 (by rw [t1]; simp), k _ _ h.h2 (by simp), ?_, k _ _ h.ah (by simp), fun c hc => k _ _ (h.pr c hc) (by simp), ?_, ?_, ?_, ?_, fun c hc => ?_, fun c hc => ?_, k _ _ h.w (by simp), fun c hc d hd => ?_, fun c hc d hd => ?_, fun c hc d hd => ?_⟩
  · rw [e7]; exact push_5 (app_old j5 _)
  · rw [e7]; exact push_at (app_old j6 _) (by decide) (by decide)
  · rw [e7]; exact push_at (app_old j7 _) (by decide) (by decide)
  · rw [← rowsL_succ, e7]; exact push_at (app_old j8 _) (by decide) (by decide)
  · rw [← rowsL_succ, e7]; exact push_k (app_old j9 _) (by decide)
  · simp only at hc ⊢
    by_cases e : c = x.b
    · rw [if_pos e]; exact k7 _ _ (k5 _ _ app_end (by simp)) (by simp)
    · rw [if_neg e]; exact k _ _ (h.ri c (by omega)) (by simp)
  · simp only at hc ⊢
    by_cases e : c = x.b
    · rw [if_pos e]; exact k7' _ _ app_end (by simp)
    · rw [if_neg e]; exact k _ _ (h.ro c (by omega)) (by simp)
  · simp only at hc hd ⊢
    by_cases e : c = x.b
    · by_cases e2 : d = x.b
      · intro _; omega
      · rw [if_pos e, if_neg e2]; intro he; have := li d (by omega); simp only at he; omega
    · by_cases e2 : d = x.b
      · rw [if_neg e, if_pos e2]; intro he; have := li c (by omega); simp only at he; omega
      · rw [if_neg e, if_neg e2]; exact h.dI c (by omega) d (by omega)
  · simp only at hc hd ⊢
    by_cases e : c = x.b
    · by_cases e2 : d = x.b
      · intro _; omega
      · rw [if_pos e, if_neg e2]; intro he; have := lo d (by omega); simp only at he; omega
    · by_cases e2 : d = x.b
      · rw [if_neg e, if_pos e2]; intro he; have := lo c (by omega); simp only at he; omega
      · rw [if_neg e, if_neg e2]; exact h.dO c (by omega) d (by omega)
  · simp only at hc hd ⊢
    by_cases e : c = x.b
    · by_cases e2 : d = x.b
      · rw [if_pos e, if_pos e2]; intro he; simp only at he; omega
      · rw [if_pos e, if_neg e2]; intro he; have := lo d (by omega); simp only at he; omega
    · by_cases e2 : d = x.b
      · rw [if_neg e, if_pos e2]; intro he; have := li c (by omega); simp only at he; omega
      · rw [if_neg e, if_neg e2]; exact h.dIO c (by omega) d (by omega)
theorem takeL_succ {f : BF} {b : Nat} (hb : b < f.n) (g : Bk → AV) : List.take b (List.map g (List.take b f.bks)) ++ [g (f.bk b)] = (f.bks.take (b + 1)).map g := by
  have : f.bks[b]? = some (f.bk b) := by
    have h : b < f.bks.length := hb
    unfold BF.bk; simp [List.getD, h]
  rw [List.take_of_length_le (by simp; omega), List.take_add_one, this]
  simp
theorem solver_tail (f : BF) (hf : Fine f) (hr : f.r ≤ 64) (ka kw : Nat) (hk : (ka = 3 ∧ kw = 4) ∨ (ka = 4 ∧ kw = 3)) (o0 o1 : VObj) (t0 : o0.ty = 52) (t1 : o1.ty = 63) (env : List (Nat × AV)) (he1 : get env 1 = .ptr 2 2 0) (he3 : get env 3 = I f.n) (he4 : get env 4 = .ptr 5 5 0)
    (H : List VObj) (hl : H.length = 6) (h0 : H[0]? = some o0) (h1 : H[1]? = some o1)
    (h2 : H[2]? = some ⟨2, 52, 1, bfL f⟩) (hS : H[5]? = some ⟨5, 97, 1, [nextA f, .ref ka ka 0 f.n, nilv, nilv, nilv, nilv, nilv, .ref kw kw 0 f.n]⟩)
    (ha : H[ka]? = some ⟨ka, 53, 1, List.replicate f.n nilv⟩) (hw : H[kw]? = some ⟨kw, 4, 1, (List.replicate f.n false).map B⟩) (C : AV → List VObj → Nat → Prop)
    (hC : ∀ q H nx wv, HS f H q wv (beginS f) → H[0]? = some o0 → H[1]? = some o1 → C (.ptr q.kS q.sS 0) H nx) : VW Try.prog c_live_solverOf.tl.tl.tl (retQ Try.prog [VR.tmp 2] C) ⟨env, H, 6⟩ := by
  have hr0 := hf.r0
  have hregs : f.regs = (f.r : Int) := by unfold BF.r; omega
  have hn5 : f.n ≤ 500 := hf.b1
  have hlen : f.bks.length = f.n := rfl
  have hmx : (200000 : Nat) ≤ maxLen := by decide
  simp only [go_sem, Nat.reduceAdd, ↓reduceIte, Nat.reduceLeDiff, c_live_solverOf, VC.tl, he4, hS, List.length_map, hlen]
  obtain ⟨H', nx', hwk, hsb⟩ := begin_virt f ka kw hk o0 o1 [(1, .ptr 2 2 0), (3, I f.n), (4, .ptr 5 5 0), (26, nextA f), (27, I f.n), (28, I ((0 : Nat) : Int))] (by simp [get_cons]) H hl h0 h1 h2 hS ha hw
  refine VW_loop (fun x : BQ => ⟨[(1, .ptr 2 2 0), (3, I f.n), (4, .ptr 5 5 0), (26, nextA f), (27, I f.n), (28, I x.b)], x.H, x.nx⟩) (fun x => x.b ≤ f.n ∧ SB f ka kw o0 o1 (predJ f x.b 0) x) (fun x => f.n - x.b) ⟨0, H', 6, 7, 8, 9, fun c => 10 + c, fun _ => (0, 0), fun _ => (0, 0), nx'⟩
    (by refine Wk.trans ?_ hwk; exact Wk.mk (by simp [get_cons, he1, he3, he4]) ⟨[], by simp⟩ (Nat.le_refl _)) ⟨Nat.zero_le _, hsb⟩ ?_
  clear hsb hwk h0 h1 h2 hS ha hw hl
  rintro ⟨b, H, s6, s7, s8, s9, sp, ri, ro, nx⟩ ⟨hb, h⟩
  simp only at hb h
  have hka : ka = 3 ∨ ka = 4 := by omega
  have hkw : kw = 3 ∨ kw = 4 := by omega
  have hne : ka ≠ kw := by omega
  by_cases hlt : b < f.n
  · have hbk : f.bks.getD b default = f.bk b := rfl
    have hnl := nxt_len (f.bk b)
    have hto := hf.to _ (BF.mem hlt)
    simp only [go_sem, Nat.reduceEqDiff, ↓reduceIte, hbk, List.length_map, hlen, eq_true (show (b : Int) < f.n by omega)]
    repeat ((with_reducible refine And.intro ?_ ?_); · omega)
    refine VW_loop (fun y : PQ => ⟨[(1, .ptr 2 2 0), (3, I f.n), (4, .ptr 5 5 0), (26, nextA f), (27, I f.n), (28, I b), (5, I b), (33, ints (nxt (f.bk b))), (34, I (nxt (f.bk b)).length), (35, I y.j)], y.H, y.nx⟩)
      (fun y => y.j ≤ (nxt (f.bk b)).length ∧ SB f ka kw o0 o1 (predJ f b y.j) ⟨b, y.H, s6, s7, s8, s9, y.sp, ri, ro, y.nx⟩) (fun y => (nxt (f.bk b)).length - y.j) ⟨0, H, sp, nx⟩ (Wk.mk (by simp [get_cons]) ⟨[], by simp⟩ (Nat.le_refl _)) ⟨Nat.zero_le _, h⟩ ?_
    clear h
    rintro ⟨j, H, sp, nx⟩ ⟨hj, h⟩
    simp only at hj h
    have hso := h.so
    have hah := h.ah
    simp only at hso hah
    have l5 := lt_of hso
    have lka := lt_of hah
    by_cases hl2 : j < (nxt (f.bk b)).length
    · have hkk := hto _ (mem_getD hl2)
      have hps := fun c => predJ_step f b c hl2
      obtain ⟨k, hkd⟩ : ∃ k, k = ((nxt (f.bk b)).getD j default).toNat := ⟨_, rfl⟩
      have hki : (nxt (f.bk b)).getD j default = (k : Int) := by omega
      have hkn : k < f.n := by unfold BF.n; omega
      have hpr := h.pr k hkn
      have hpl := predJ_len f b j k
      simp only at hpr
      have lk := lt_of hpr
      have m1 := eq_true (show 5 < H.length + 1 by have := of_eq_true l5; omega)
      have m2 := eq_true (show ka < H.length + 1 by have := of_eq_true lka; omega)
      have m3 := eq_true (show 10 + k < H.length + 1 by have := of_eq_true lk; omega)
      have f1 : (10 + k = ka) = False := eq_false (by omega)
      have f2 : (10 + k = 5) = False := eq_false (by omega)
      have f3 : (5 = ka) = False := eq_false (by omega)
      have f4 : (ka = 5) = False := eq_false (by omega)
      have f5 : (ka = 10 + k) = False := eq_false (by omega)
      simp only [go_sem, Nat.reduceEqDiff, Nat.reduceAdd, ↓reduceIte, ↓dreduceIte, Nat.reduceLeDiff, hso, hah, hpr, hki, cellT_ah, eq_true (show (j : Int) < (nxt (f.bk b)).length by omega), List.getElem?_set, List.getElem?_append, l5, lka, lk, f1, f2, Nat.lt_irrefl, Nat.sub_self]
      repeat' (with_reducible apply And.intro)
      all_goals first | omega | exact ⟨rfl, rfl, rfl⟩ | (simp only [List.length_range]; omega) | skip
      all_goals
        have hpn : (fun c => if c = k then predJ f b j k ++ [b] else predJ f b j c) = predJ f b (j + 1) := by
          funext c
          rw [hps c, hki, Int.toNat_natCast]
          by_cases e : c = k
          · subst e; simp
          · rw [if_neg e, if_neg (fun h => e h.symm)]
        have hadd := h.add hka hkw hne t0 t1 hkn (predJ f b j k ++ [b]) (nx + 1) ⟨nx, 3, 1, [I b]⟩ (nx + 1 + 1)
        rw [hpn] at hadd
        refine ⟨⟨j + 1, ((H ++ [(⟨nx, 3, 1, [I b]⟩ : VObj)]).set (10 + k) (⟨nx + 1, 3, 1, natsL (predJ f b j k ++ [b])⟩ : VObj)).set ka (⟨ka, 53, 1, ahC f.n (fun c => if c = k then nx + 1 else sp c) (predJ f b (j + 1))⟩ : VObj), fun c => if c = k then nx + 1 else sp c, nx + 1 + 1⟩, ⟨by show j + 1 ≤ _; omega, hadd⟩, by show _ - (j + 1) < _ - j; omega, ?_⟩
        rw [ahC_set hkn (predJ f b j k ++ [b]) (by simp), hpn, show List.take (predJ f b j k).length (natsL (predJ f b j k)) ++ [I (b : Int)] = natsL (predJ f b j k ++ [b]) by simp [natsL, List.take_of_length_le]]
        rw [i64_in (by omega) (by omega)]
        exact Wk.mk (by simp [get_cons]) ⟨[], by simp⟩ (Nat.le_refl _)
    · have hje : j = (nxt (f.bk b)).length := by omega
      subst hje
      rw [show predJ f b (nxt (f.bk b)).length = predJ f (b + 1) 0 from funext fun c => predJ_next f b c] at h
      have h6 := h.r6
      have h7 := h.r7
      have h8 := h.r8
      have h9 := h.r9
      have h2 := h.h2
      simp only at h6 h7 h8 h9 h2
      have l2 := lt_of h2
      have l6 := lt_of h6
      have l7 := lt_of h7
      have l8 := lt_of h8
      have l9 := lt_of h9
      simp only [go_sem, Nat.reduceEqDiff, Nat.reduceAdd, ↓reduceIte, ↓dreduceIte, Nat.reduceLeDiff, h2, hbk, hlen, eq_false (show ¬ ((nxt (f.bk b)).length : Int) < (nxt (f.bk b)).length by omega)]
      have hbm := BF.mem hlt
      have hro := hf.v _ hbm
      have hrt := hf.ins _ hbm
      rw [hregs] at hro hrt
      refine ⟨hlt, ECall.of (touch_c (f.bk b) f.r hr (by have := hf.len _ hbm; omega) hro hrt) (by rw [hregs]; exact SleL.pure rfl) ⟨_, fun _ => Iff.rfl⟩ fun x hx => ?_⟩
      subst hx
      have e56 : (5 = 6) = False := by simp
      have e57 : (5 = 7) = False := by simp
      have e58 : (5 = 8) = False := by simp
      have e59 : (5 = 9) = False := by simp
      have e65 : (6 = 5) = False := by simp
      have e75 : (7 = 5) = False := by simp
      have e76 : (7 = 6) = False := by simp
      have e67 : (6 = 7) = False := by simp
      simp only [go_sem, Nat.reduceEqDiff, Nat.reduceAdd, Nat.reduceMul, ↓reduceIte, ↓dreduceIte, Nat.reduceLeDiff, Nat.reduceLT, hso, h6, h7, h2, List.length_set, List.length_append, l2, l5, l6, l7, lt_succ', app_at, app_endn, set_at, set_off, List.length_cons, List.length_nil, Nat.zero_add, e57, e65, e75, e67]
      repeat ((with_reducible refine And.intro ?_ ?_); · first | omega | exact ⟨rfl, rfl, rfl⟩)
      obtain ⟨H4, e4⟩ : ∃ H4, H4 = (((((H ++ [((VObj.mk (nx) 100 1 ([AV.imm 1 (rowC64 (readL (f.bk b) f.r))])))]).set 6 (VObj.mk (nx + 1) 100 1 (List.take b (List.map (fun b => AV.imm 1 (rowC64 (readL b f.r))) (List.take b f.bks)) ++ [AV.imm 1 (rowC64 (readL (f.bk b) f.r))]))).set 5 (VObj.mk (5) 97 1 ([nextA f, AV.ref ka ka 0 f.n, AV.ref 6 (nx + 1) 0 (b + 1), AV.ref 7 s7 0 b, AV.ref 8 s8 0 b, AV.ref 9 s9 0 b, nilv, AV.ref kw kw 0 f.n])) ++ [(VObj.mk (nx + 1 + 1) 100 1 ([AV.imm 1 (rowC64 (setL (f.bk b) f.r))]))]).set 7 (VObj.mk (nx + 1 + 1 + 1) 100 1 (List.take b (List.map (fun b => AV.imm 1 (rowC64 (setL b f.r))) (List.take b f.bks)) ++ [AV.imm 1 (rowC64 (setL (f.bk b) f.r))]))).set 5 (VObj.mk (5) 97 1 ([nextA f, AV.ref ka ka 0 f.n, AV.ref 6 (nx + 1) 0 (b + 1), AV.ref 7 (nx + 1 + 1 + 1) 0 (b + 1), AV.ref 8 s8 0 b, AV.ref 9 s9 0 b, nilv, AV.ref kw kw 0 f.n]))) := ⟨_, rfl⟩
      rw [← e4]
      have k4 : KeepT [100, 97] H H4 := by
        rw [e4]
        exact (push_keep h6 hso rfl rfl).trans (push_keep (push_at h7 (by decide) (by decide)) (push_5 hso) rfl rfl)
      have h45 : H4[5]? = some ⟨5, 97, 1, [nextA f, AV.ref ka ka 0 f.n, AV.ref 6 (nx + 1) 0 (b + 1), AV.ref 7 (nx + 1 + 1 + 1) 0 (b + 1), AV.ref 8 s8 0 b, AV.ref 9 s9 0 b, nilv, AV.ref kw kw 0 f.n]⟩ := by rw [e4]; exact push_5 (push_5 hso)
      have h42 : H4[2]? = some ⟨2, 52, 1, bfL f⟩ := k4 _ _ h2 (by simp)
      have h48 : H4[8]? = some ⟨s8, 100, 1, rowsL b f.r ri⟩ := by rw [e4]; exact push_at (push_at h8 (by decide) (by decide)) (by decide) (by decide)
      have h49 : H4[9]? = some ⟨s9, 100, 1, rowsL b f.r ro⟩ := by rw [e4]; exact push_at (push_at h9 (by decide) (by decide)) (by decide) (by decide)
      have l45 := lt_of h45
      have l42 := lt_of h42
      have l48 := lt_of h48
      have l49 := lt_of h49
      have e85 : (8 = 5) = False := by simp
      have e89 : (8 = 9) = False := by simp
      have e98 : (9 = 8) = False := by simp
      have e95 : (9 = 5) = False := by simp
      simp only [go_sem, Nat.reduceEqDiff, Nat.reduceAdd, ↓reduceIte, ↓dreduceIte, Nat.reduceLeDiff, h45, List.length_set, List.length_append, app_endn, List.length_cons, List.length_nil, Nat.zero_add]
      rw [← e4, hregs]
      refine ⟨?_, ?_⟩
      all_goals
        unfold VCallT
        refine rowOf_v f.r hr _ _ _ ?_
        refine ⟨?_, ?_⟩
        · simp only [go_sem, List.length_set, List.length_append, app_endn, List.length_cons, List.length_nil, Nat.zero_add]
          rw [← e4]
          exact stab_app _ _
        simp only [go_sem, Nat.reduceEqDiff, Nat.reduceAdd, Nat.reduceMul, ↓reduceIte, ↓dreduceIte, Nat.reduceLeDiff, h45, h42, h48, List.length_set, List.length_append, l45, l42, l48, lt_succ', app_at, app_endn, set_off, e85, List.length_cons, List.length_nil, Nat.zero_add]
        repeat ((with_reducible refine And.intro ?_ ?_); · omega)
        obtain ⟨n4, en4⟩ : ∃ n4, n4 = nx + 1 + 1 + 1 + 1 := ⟨_, rfl⟩
        rw [← en4]
        have htk : List.take b (rowsL b f.r ri) = rowsL b f.r ri := List.take_of_length_le (by simp)
        have htk2 : List.take b (rowsL b f.r ro) = rowsL b f.r ro := List.take_of_length_le (by simp)
        rw [htk]
        obtain ⟨H6, e6⟩ : ∃ H6, H6 = (((H4 ++ [VObj.mk n4 130 1 (rowC64 (List.replicate f.r false))]) ++ [VObj.mk (n4 + 1) 100 1 [AV.ref H4.length n4 0 (rl f.r)]]).set 8 (VObj.mk (n4 + 1 + 1) 100 1 (rowsL b f.r ri ++ [AV.ref H4.length n4 0 (rl f.r)]))).set 5 (VObj.mk 5 97 1 [nextA f, AV.ref ka ka 0 f.n, AV.ref 6 (nx + 1) 0 (b + 1), AV.ref 7 (nx + 1 + 1 + 1) 0 (b + 1), AV.ref 8 (n4 + 1 + 1) 0 (b + 1), AV.ref 9 s9 0 b, nilv, AV.ref kw kw 0 f.n]) := ⟨_, rfl⟩
        rw [← e6]
        have k64 : KeepT [100, 97] H4 H6 := by
          rw [e6]; exact (KeepT.app _ _ _).trans (push_keep (app_old h48 _) (app_old h45 _) rfl rfl)
        have h65 : H6[5]? = some _ := (congrArg (fun l : List VObj => l[(5 : Nat)]?) e6).trans (push_5 (app_old h45 _))
        have h62 := k64 _ _ h42 (by simp)
        have h69 : H6[9]? = some _ := (congrArg (fun l : List VObj => l[(9 : Nat)]?) e6).trans (push_at (app_old h49 _) (by decide) (by decide))
        have l65 := lt_of h65
        have l62 := lt_of h62
        have l69 := lt_of h69
        simp only [go_sem, Nat.reduceEqDiff, Nat.reduceAdd, ↓reduceIte, ↓dreduceIte, Nat.reduceLeDiff, h65, List.length_set, List.length_append, app_endn, List.length_cons, List.length_nil, Nat.zero_add]
        rw [htk, ← e6, hregs]
        refine ⟨?_, ?_⟩
        all_goals
          unfold VCallT
          refine rowOf_v f.r hr _ _ _ ?_
          refine ⟨?_, ?_⟩
          · simp only [go_sem, List.length_append, app_endn, List.length_cons, List.length_nil, Nat.zero_add]
            rw [htk, ← e6]
            exact stab_app _ _
          simp only [go_sem, Nat.reduceEqDiff, Nat.reduceAdd, ↓reduceIte, Nat.reduceLeDiff, h65, h69, List.length_set, List.length_append, l65, l69, lt_succ', app_at, app_endn, set_off, e95, List.length_cons, List.length_nil, Nat.zero_add]
          repeat ((with_reducible refine And.intro ?_ ?_); · omega)
          rw [htk2]
          have g6 : H4[6]? = some ⟨nx + 1, 100, 1, (f.bks.take (b + 1)).map fun b => .imm 1 (rowC64 (readL b f.r))⟩ := by
            rw [← takeL_succ hlt (fun b => .imm 1 (rowC64 (readL b f.r))), e4]
            exact push_at (push_k h6 (by decide)) (by decide) (by decide)
          have g7 : H4[7]? = some ⟨nx + 1 + 1 + 1, 100, 1, (f.bks.take (b + 1)).map fun b => .imm 1 (rowC64 (setL b f.r))⟩ := by
            rw [← takeL_succ hlt (fun b => .imm 1 (rowC64 (setL b f.r))), e4]
            exact push_k (push_at h7 (by decide) (by decide)) (by decide)
          have hrow := fun nx' H7 e7 => h.row (H7 := H7) (u2 := VObj.mk (n4 + 1 + 1 + 1 + 1) 100 1 [AV.ref H6.length (n4 + 1 + 1 + 1) 0 (rl f.r)]) (s9' := n4 + 1 + 1 + 1 + 1 + 1) (n6 := n4 + 1 + 1 + 1) (nx' := nx') t0 t1 hlt k4 h45 rfl g6 g7 h48 h49 rfl e6 e7
          refine ⟨⟨b + 1, _, nx + 1, nx + 1 + 1 + 1, n4 + 1 + 1, n4 + 1 + 1 + 1 + 1 + 1, sp, _, _, _⟩, ⟨by show b + 1 ≤ _; omega, hrow (n4 + 1 + 1 + 1 + 1 + 1 + 1) _ rfl⟩, by show f.n - (b + 1) < f.n - b; omega, ?_⟩
          rw [i64_in (by omega) (by omega)]
          exact Wk.mk (by simp [get_cons]) ⟨[], by simp⟩ (Nat.le_refl _)
  · have hbe : b = f.n := by omega
    subst hbe
    have hs := h.HS rfl
    have hg0 := h.h0
    have hg1 := h.h1
    simp only at hs hg0 hg1
    obtain ⟨q, hq⟩ : ∃ q : Ids, q = ⟨5, 5, 8, s8, 9, s9, kw, kw, ka, ka, 6, s6, 7, s7, fun c => (10 + c, sp c), ri, ro⟩ := ⟨_, rfl⟩
    rw [← hq] at hs
    have hqS : AV.ptr 5 5 0 = .ptr q.kS q.sS 0 := by rw [hq]
    clear hq h
    simp only [go_sem, Nat.reduceEqDiff, ↓reduceIte, eq_false (show ¬ ((f.n : Nat) : Int) < f.n by omega), hqS]
    refine VW_loop (fun y : WQ2 => ⟨[(4, .ptr q.kS q.sS 0), (112, I f.n), (113, I y.k)], y.H, y.nx⟩) (fun y => y.k ≤ f.n ∧ HS f y.H q y.wv ⟨List.replicate f.n (List.replicate f.r false), List.replicate f.n (List.replicate f.r false), List.range y.k⟩ ∧ y.H[0]? = some o0 ∧ y.H[1]? = some o1) (fun y => f.n - y.k) ⟨0, H, nilv, nx⟩ (Wk.mk (by simp [get_cons]) ⟨[], by simp⟩ (Nat.le_refl _)) ⟨Nat.zero_le _, hs, hg0, hg1⟩ ?_
    clear hs hg0 hg1
    rintro ⟨k, H, wv, nx⟩ ⟨hk1, hs, hg0, hg1⟩
    simp only at hk1 hs hg0 hg1
    by_cases hl3 : k < f.n
    · simp only [go_sem, Nat.reduceEqDiff, ↓reduceIte, ↓dreduceIte, eq_true (show (k : Int) < f.n by omega)]
      refine wait_v hs _ _ hl3 hn5 (by simp; omega) _ ?_
      intro r H' nx' wv' hs' hkeep
      have hw : waitS (List.range k) k = List.range (k + 1) := by
        unfold waitS
        rw [if_neg (by simp), List.range_succ]
      simp only [hw] at hs'
      simp only [go_sem, Nat.reduceEqDiff, ↓reduceIte]
      refine ⟨⟨k + 1, H', wv', nx'⟩, ⟨by show k + 1 ≤ _; omega, hs', hkeep _ _ hg0 (by rw [t0]; simp), hkeep _ _ hg1 (by rw [t1]; simp)⟩, by show f.n - (k + 1) < f.n - k; omega, ?_⟩
      rw [i64_in (by omega) (by omega)]
      exact Wk.mk (by simp [get_cons]) ⟨[], by simp⟩ (Nat.le_refl _)
    · have hke : k = f.n := by omega
      subst hke
      simp only [go_sem, Nat.reduceEqDiff, ↓reduceIte, eq_false (show ¬ ((f.n : Nat) : Int) < f.n by omega)]
      exact hC q H nx wv hs hg0 hg1
end Go.Proofs.Ytkbhfokbhkmfgaa
namespace Go.Proofs.Ytkbhfokbhkmfgaa
set_option linter.unusedSimpArgs false
set_option linter.unusedVariables false
set_option maxRecDepth 10000
open Go.V
theorem solverOf_v (f : BF) (hf : Fine f) (hr : f.r ≤ 64) : SolverOfV f := by
  intro o0 o1 C t0 t1 hC
  refine VCall.of_body hmix f_live_solverOf (by simp) ?_
  have hn5 : f.n ≤ 500 := hf.b1
  have hmx : (200000 : Nat) ≤ maxLen := by decide
  have hlen : f.bks.length = f.n := rfl
  have hc : c_live_solverOf = VC.seq _ (VC.seq _ (VC.seq _ c_live_solverOf.tl.tl.tl)) := rfl
  have htail := fun ka kw hk env he1 he3 he4 H hl h0 h1 h2 hS ha hw => solver_tail f hf hr ka kw hk o0 o1 t0 t1 env he1 he3 he4 H hl h0 h1 h2 hS ha hw C (fun q H nx wv h g0 g1 => hC q H nx wv h g0 g1)
  obtain ⟨D, hD⟩ : ∃ D, D = c_live_solverOf.tl.tl.tl := ⟨_, rfl⟩
  rw [← hD] at htail
  rw [hc, ← hD]
  have hrp : ∀ m, (List.replicate m [AV.val (.slice none 0 0)]).flatten = List.replicate m nilv := fun m => by simp [List.flatten_replicate_singleton]
  have hrb : ∀ m, (List.replicate m [AV.val (.bool false)]).flatten = (List.replicate m false).map B := fun m => by simp [List.flatten_replicate_singleton]
  simp only [go_sem, Nat.reduceEqDiff, Nat.reduceAdd, ↓reduceIte, ↓dreduceIte, Nat.reduceLT, List.length_map, hlen]
  refine ECall.of (next_c f hf.b1) (SleL.pure rfl) ⟨_, fun _ => Iff.rfl⟩ fun x hx => ?_
  subst hx
  simp only [go_sem, Nat.reduceEqDiff, Nat.reduceAdd, ↓reduceIte, Nat.reduceLeDiff, List.length_map, hlen]
  repeat' (with_reducible apply And.intro)
  all_goals first | omega | skip
  · rw [hrp, hrb]
    exact htail 3 4 (.inl ⟨rfl, rfl⟩) _ rfl rfl rfl _ rfl rfl rfl rfl rfl rfl rfl
  · rw [hrp, hrb]
    exact htail 4 3 (.inr ⟨rfl, rfl⟩) _ rfl rfl rfl _ rfl rfl rfl rfl rfl rfl rfl
theorem live_of_c (f : BF) (hf : Fine f) (hr : f.r ≤ 64) (L : LD) (hL : Least f L) : Contract Try.prog 22 [bfA f] (fun x => x = liveA L) := of_c f hf hr (solverOf_v f hf hr) L hL
end Go.Proofs.Ytkbhfokbhkmfgaa
namespace Go.Proofs.Ytkbhfokbhkmfgaa
set_option linter.unusedSimpArgs false
set_option linter.unusedVariables false
open Go.V
abbrev alA (pl : List Int) : AV := .agg [ints pl]
def gP (pl : List Int) (v : Nat) : Int := pl.getD v default
def okP (n p : Int) : Bool := decide (-4000 ≤ p ∧ p ≠ 0 ∧ p ≤ n) || decide (-4000 ≤ p ∧ p < 0)
theorem okP_iff {n p : Int} : okP n p = true ↔ (1 ≤ p ∧ p ≤ n) ∨ (-4000 ≤ p ∧ p ≤ -1) := by
  unfold okP
  rw [Bool.or_eq_true, decide_eq_true_iff, decide_eq_true_iff]
  omega
def placesB (pl : List Int) (regs n : Int) : Bool := decide ((pl.length : Int) = regs) && pl.all (okP n)
def apartB (pl : List Int) (row : List Bool) : Bool := decide (∀ i < row.length, ∀ k < i, gB row i = true → gB row k = true → gP pl i ≠ gP pl k)
def oneAB (t : Tac) (pl : List Int) (row : List Bool) : Bool :=
  decide (∀ v < row.length, gB row v = true → ¬ ((0 ≤ setsL t ∧ (v : Int) ≠ setsL t ∧ gP pl v = gP pl (setsL t).toNat) ∨ (t.op = 10 ∧ 0 < gP pl v)))
def blkAB (f : BF) (L : LD) (pl : List Int) (b : Nat) : Bool := (List.range (f.bk b).ins.length).all fun i => oneAB ((f.bk b).ins.getD i default) pl ((behindL (f.bk b) (L.out.getD b default)).getD i default)
def allocB (f : BF) (L : LD) (pl : List Int) (n : Int) : Bool := checkB f L && placesB pl f.regs n && apartB pl (L.inn.getD 0 default) && (List.range f.n).all (blkAB f L pl)
structure AllocP (f : BF) (L : LD) (pl : List Int) (n : Int) : Prop where
  cl : ClosedP f L
  len : pl.length = f.r
  ok : ∀ v < f.r, (1 ≤ gP pl v ∧ gP pl v ≤ n) ∨ (-4000 ≤ gP pl v ∧ gP pl v ≤ -1)
  ap : ∀ u < f.r, ∀ v < f.r, u ≠ v → L.I 0 u = true → L.I 0 v = true → gP pl u ≠ gP pl v
  st : ∀ b < f.n, ∀ i < (f.bk b).ins.length, SetsT ((f.bk b).ins.getD i default) → ∀ v < f.r, thru1 ((f.bk b).ins.drop (i + 1)) v (last1 (f.bk b) v (L.O b v)) = true → v ≠ ((f.bk b).ins.getD i default).d.toNat → gP pl v ≠ gP pl ((f.bk b).ins.getD i default).d.toNat
  ca : ∀ b < f.n, ∀ i < (f.bk b).ins.length, ((f.bk b).ins.getD i default).op = 10 → ∀ v < f.r, thru1 ((f.bk b).ins.drop (i + 1)) v (last1 (f.bk b) v (L.O b v)) = true → gP pl v < 0
theorem behindL_get (b : Bk) (l : List Bool) {i : Nat} (hi : i < b.ins.length) : (behindL b l).getD i default = thruL (b.ins.drop (i + 1)) (lastL b l) := by
  unfold behindL
  simp only [List.getD, List.getElem?_map, List.getElem?_range hi, Option.map_some, Option.getD_some]
theorem gB_behind {f : BF} (hf : Fine f) {b : Nat} (hb : b < f.n) {l : List Bool} (hl : l.length = f.r) {i : Nat} (hi : i < (f.bk b).ins.length) {v : Nat} (hv : v < f.r) :
    ((behindL (f.bk b) l).getD i default).length = f.r ∧ gB ((behindL (f.bk b) l).getD i default) v = thru1 ((f.bk b).ins.drop (i + 1)) v (last1 (f.bk b) v (gB l v)) := by
  have hr := hf.regs hb hl
  rw [behindL_get _ _ hi, thruL_len, lastL_len]
  refine ⟨hl, ?_⟩
  rw [gB_thru _ _ _ (fun t ht => by rw [lastL_len]; exact hr.1 t (List.mem_of_mem_drop ht)) (by rw [lastL_len, hl]; exact hv), gB_last _ _ _ (fun e => (hr.2 e).1) (by rw [hl]; exact hv)]
theorem behindL_lens {f : BF} (hf : Fine f) {b : Nat} (hb : b < f.n) {l : List Bool} (hl : l.length = f.r) {i : Nat} (hi : i < (f.bk b).ins.length) : ((behindL (f.bk b) l).getD i default).length = f.r := by
  rw [behindL_get _ _ hi, thruL_len, lastL_len]; exact hl
theorem mem_ok {pl : List Int} {n : Int} : pl.all (okP n) = true ↔ ∀ v < pl.length, (1 ≤ gP pl v ∧ gP pl v ≤ n) ∨ (-4000 ≤ gP pl v ∧ gP pl v ≤ -1) := by
  rw [List.all_eq_true]
  refine ⟨fun h v hv => okP_iff.1 (h _ (mem_getD hv)), fun h p hp => ?_⟩
  obtain ⟨i, hi, rfl⟩ := List.getElem_of_mem hp
  have := h i hi
  unfold gP at this
  rw [List.getD, List.getElem?_eq_getElem hi, Option.getD_some] at this
  exact okP_iff.2 this
theorem allocB_iff {f : BF} (hf : Fine f) (L : LD) (pl : List Int) (n : Int) : allocB f L pl n = true ↔ AllocP f L pl n := by
  have hr0 := hf.r0
  have hrr : (f.r : Int) = f.regs := by unfold BF.r; omega
  have hn0 : 0 < f.n := List.length_pos_iff.2 hf.b0
  unfold allocB placesB
  simp only [Bool.and_eq_true, checkB_iff hf, decide_eq_true_eq, mem_ok]
  rw [List.all_eq_true]
  simp only [List.mem_range]
  refine ⟨fun ⟨⟨⟨h1, h2, h3⟩, h4⟩, h5⟩ => ?_, fun h => ⟨⟨⟨h.cl, by rw [h.len]; exact hrr, by rw [h.len]; exact h.ok⟩, ?_⟩, fun b hb => ?_⟩⟩
  · have hl : pl.length = f.r := by omega
    have h4 := of_decide_eq_true h4
    have hi0 : (L.inn.getD 0 default).length = f.r := h1.sz.il hn0
    have hone : ∀ b < f.n, ∀ i < (f.bk b).ins.length, ∀ v < f.r, thru1 ((f.bk b).ins.drop (i + 1)) v (last1 (f.bk b) v (L.O b v)) = true →
        ¬ ((0 ≤ setsL ((f.bk b).ins.getD i default) ∧ (v : Int) ≠ setsL ((f.bk b).ins.getD i default) ∧ gP pl v = gP pl (setsL ((f.bk b).ins.getD i default)).toNat) ∨ (((f.bk b).ins.getD i default).op = 10 ∧ 0 < gP pl v)) := fun b hb i hi v hv h => by
      have h6 := h5 b hb
      unfold blkAB at h6
      rw [List.all_eq_true] at h6
      have h7 := of_decide_eq_true (h6 i (List.mem_range.2 hi))
      have ho : (L.out.getD b default).length = f.r := h1.sz.ol hb
      obtain ⟨g1, g2⟩ := gB_behind hf hb ho hi hv
      exact h7 v (by rw [g1]; exact hv) (by rw [g2]; exact h)
    refine ⟨h1, hl, fun v hv => h3 v (by omega), fun u hu v hv hne a b => ?_, fun b hb i hi hs v hv h hne => ?_, fun b hb i hi hop v hv h => ?_⟩
    · rcases Nat.lt_or_ge u v with h | h
      · exact fun e => h4 v (by rw [hi0]; exact hv) u h b a e.symm
      · exact h4 u (by rw [hi0]; exact hu) v (by omega) a b
    · intro e
      have hss : setsL ((f.bk b).ins.getD i default) = ((f.bk b).ins.getD i default).d := if_pos hs
      have hd := (hf.ins _ (BF.mem hb) _ (mem_getD hi)).2 hs
      exact hone b hb i hi v hv h (.inl ⟨by rw [hss]; exact hd.1, by rw [hss]; omega, by rw [hss]; exact e⟩)
    · have g1 := hone b hb i hi v hv h
      have g2 := h3 v (by omega)
      rcases g2 with g2 | g2
      · exact absurd (.inr ⟨hop, by omega⟩) g1
      · omega
  · refine decide_eq_true fun i hi k hk a b => ?_
    have hi0 : (L.inn.getD 0 default).length = f.r := h.cl.sz.il hn0
    rw [hi0] at hi
    exact h.ap i hi k (by omega) (by omega) a b
  · unfold blkAB
    rw [List.all_eq_true]
    intro i hi
    have hi := List.mem_range.1 hi
    refine decide_eq_true fun v hv a => ?_
    have ho : (L.out.getD b default).length = f.r := h.cl.sz.ol hb
    rw [behindL_lens hf hb ho hi] at hv
    obtain ⟨g1, g2⟩ := gB_behind hf hb ho hi hv
    rw [g2] at a
    rintro (⟨e1, e2, e3⟩ | ⟨e1, e2⟩)
    · unfold setsL at e1 e2 e3
      by_cases hs : SetsT ((f.bk b).ins.getD i default)
      · rw [if_pos hs] at e1 e2 e3
        exact h.st b hb i hi hs v hv a (by omega) e3
      · rw [if_neg hs] at e1; omega
    · have := h.ca b hb i hi e1 v hv a
      omega
def wdsI (pl : List Int) : Int := pl.foldl (fun n p => if p < 0 ∧ n < IntKind.i64.wrap (-p) then IntKind.i64.wrap (-p) else n) 0
theorem wdsI_take (pl : List Int) {k : Nat} (hk : k < pl.length) : wdsI (pl.take (k + 1)) = (if pl.getD k default < 0 ∧ wdsI (pl.take k) < IntKind.i64.wrap (-(pl.getD k default)) then IntKind.i64.wrap (-(pl.getD k default)) else wdsI (pl.take k)) := by
  unfold wdsI
  rw [List.take_add_one, List.foldl_append]
  simp [List.getD, List.getElem?_eq_getElem hk]
theorem wrap_le (n : Int) : -9223372036854775808 ≤ IntKind.i64.wrap n ∧ IntKind.i64.wrap n ≤ 9223372036854775807 := by
  rw [IntKind.wrap_i64]; omega
theorem wdsI_pos (pl : List Int) : 0 ≤ wdsI pl ∧ wdsI pl ≤ 9223372036854775807 := by
  unfold wdsI
  suffices h : ∀ (n : Int), 0 ≤ n ∧ n ≤ 9223372036854775807 → 0 ≤ pl.foldl (fun n p => if p < 0 ∧ n < IntKind.i64.wrap (-p) then IntKind.i64.wrap (-p) else n) n ∧ pl.foldl (fun n p => if p < 0 ∧ n < IntKind.i64.wrap (-p) then IntKind.i64.wrap (-p) else n) n ≤ 9223372036854775807 from h 0 (by omega)
  induction pl with
  | nil => exact fun n h => h
  | cons p pl ih =>
    intro n h
    rw [List.foldl_cons]
    refine ih _ ?_
    have := wrap_le (-p)
    split <;> omega
theorem wdsI_le {pl : List Int} {m : Int} (hm : 0 ≤ m) (h : ∀ v < pl.length, -9000000000000 ≤ gP pl v ∧ -(gP pl v) ≤ m) : wdsI pl ≤ m := by
  unfold wdsI
  have key : ∀ (l : List Int) (n : Int), n ≤ m → (∀ p ∈ l, -9000000000000 ≤ p ∧ -p ≤ m) → l.foldl (fun n p => if p < 0 ∧ n < IntKind.i64.wrap (-p) then IntKind.i64.wrap (-p) else n) n ≤ m := by
    intro l
    induction l with
    | nil => exact fun n h _ => h
    | cons q l ih =>
      intro n hn hl
      rw [List.foldl_cons]
      refine ih _ ?_ fun p hp => hl p (by simp [hp])
      have := hl q (by simp)
      split
      · rename_i h3
        rw [i64_in (show -9223372036854775808 ≤ -q by omega) (by omega)]
        exact this.2
      · exact hn
  refine key pl 0 hm fun p hp => ?_
  obtain ⟨i, hi, rfl⟩ := List.getElem_of_mem hp
  have := h i hi
  unfold gP at this
  rw [List.getD, List.getElem?_eq_getElem hi, Option.getD_some] at this
  exact this
end Go.Proofs.Ytkbhfokbhkmfgaa
namespace Go.Proofs.Ytkbhfokbhkmfgaa
set_option linter.unusedSimpArgs false
set_option linter.unusedVariables false
set_option maxRecDepth 10000
open Go.V
theorem rwords_c (pl : List Int) (hl : pl.length ≤ 140737488355328) : Contract Try.prog 36 [alA pl] (fun r => r = I (wdsI pl)) := by
  refine Contract.of_call (VCall.of_body hmix f_scref28_Words (by simp) ?_)
  simp only [go_sem, ↓reduceIte, c_scref28_Words]
  refine VW_loop (fun k : Nat => ⟨[(1, .ptr 0 0 0), (3, I (wdsI (pl.take k))), (4, I k)], [⟨0, 55, 1, [ints pl]⟩], 1⟩) (fun k => k ≤ pl.length) (fun k => pl.length - k) 0 (Wk.mk (by simp [get_cons, wdsI]) ⟨[], rfl⟩ (Nat.le_refl _)) (Nat.zero_le _) ?_
  intro k hk
  by_cases h : k < pl.length
  · have hst := wdsI_take pl h
    generalize hp : pl.getD k default = p at hst
    by_cases h1 : p < 0
    · by_cases h2 : wdsI (pl.take k) < IntKind.i64.wrap (-p)
      · rw [if_pos ⟨h1, h2⟩] at hst
        simp only [go_sem, Nat.reduceEqDiff, ↓reduceIte, reduceCtorEq, List.length_map, hp, Int.zero_sub, eq_true (show (k : Int) < pl.length by omega), eq_true h1, eq_true h2]
        repeat ((with_reducible refine And.intro ?_ ?_); · omega)
        rw [i64_in (n := (k : Int) + 1) (by omega) (by omega)]
        exact ⟨k + 1, by omega, by omega, Wk.mk (by simp [get_cons, hst]) ⟨[], rfl⟩ (Nat.le_refl _)⟩
      · rw [if_neg (fun e => h2 e.2)] at hst
        simp only [go_sem, Nat.reduceEqDiff, ↓reduceIte, reduceCtorEq, List.length_map, hp, Int.zero_sub, eq_true (show (k : Int) < pl.length by omega), eq_true h1, eq_false h2]
        repeat ((with_reducible refine And.intro ?_ ?_); · omega)
        rw [i64_in (n := (k : Int) + 1) (by omega) (by omega)]
        exact ⟨k + 1, by omega, by omega, Wk.mk (by simp [get_cons, hst]) ⟨[], rfl⟩ (Nat.le_refl _)⟩
    · rw [if_neg (fun e => h1 e.1)] at hst
      simp only [go_sem, Nat.reduceEqDiff, ↓reduceIte, List.length_map, hp, eq_true (show (k : Int) < pl.length by omega), eq_false h1]
      repeat ((with_reducible refine And.intro ?_ ?_); · omega)
      rw [i64_in (n := (k : Int) + 1) (by omega) (by omega)]
      exact ⟨k + 1, by omega, by omega, Wk.mk (by simp [get_cons, hst]) ⟨[], rfl⟩ (Nat.le_refl _)⟩
  · simp only [go_sem, Nat.reduceEqDiff, ↓reduceIte, List.length_map, eq_false (show ¬ (k : Int) < pl.length by omega)]
    refine ⟨_, Frz.pure rfl, ?_⟩
    rw [List.take_of_length_le (by omega)]
theorem awords_c (pl : List Int) (hl : pl.length ≤ 140737488355328) : Contract Try.prog 30 [alA pl] (fun r => r = I (wdsI pl)) := by
  refine Contract.of_call (VCall.of_body hmix f_alloc_Words (by simp) ?_)
  simp only [go_sem, Nat.reduceEqDiff, ↓reduceIte, c_alloc_Words, List.length_map]
  refine VW_loop (fun k : Nat => ⟨[(3, I (wdsI (pl.take k))), (7, ints pl), (8, I pl.length), (9, I k)], [], 1⟩) (fun k => k ≤ pl.length) (fun k => pl.length - k) 0 (Wk.mk (by simp [get_cons, wdsI]) ⟨_, rfl⟩ (Nat.le_refl _)) (Nat.zero_le _) ?_
  intro k hk
  by_cases h : k < pl.length
  · have hst := wdsI_take pl h
    generalize hp : pl.getD k default = p at hst
    by_cases h1 : p < 0
    · by_cases h2 : wdsI (pl.take k) < IntKind.i64.wrap (-p)
      · rw [if_pos ⟨h1, h2⟩] at hst
        simp only [go_sem, Nat.reduceEqDiff, ↓reduceIte, reduceCtorEq, hp, Int.zero_sub, eq_true (show (k : Int) < pl.length by omega), eq_true h1, eq_true h2]
        repeat ((with_reducible refine And.intro ?_ ?_); · omega)
        rw [i64_in (n := (k : Int) + 1) (by omega) (by omega)]
        exact ⟨k + 1, by omega, by omega, Wk.mk (by simp [get_cons, hst]) ⟨[], rfl⟩ (Nat.le_refl _)⟩
      · rw [if_neg (fun e => h2 e.2)] at hst
        simp only [go_sem, Nat.reduceEqDiff, ↓reduceIte, reduceCtorEq, hp, Int.zero_sub, eq_true (show (k : Int) < pl.length by omega), eq_true h1, eq_false h2]
        repeat ((with_reducible refine And.intro ?_ ?_); · omega)
        rw [i64_in (n := (k : Int) + 1) (by omega) (by omega)]
        exact ⟨k + 1, by omega, by omega, Wk.mk (by simp [get_cons, hst]) ⟨[], rfl⟩ (Nat.le_refl _)⟩
    · rw [if_neg (fun e => h1 e.1)] at hst
      simp only [go_sem, Nat.reduceEqDiff, ↓reduceIte, hp, eq_true (show (k : Int) < pl.length by omega), eq_false h1]
      repeat ((with_reducible refine And.intro ?_ ?_); · omega)
      rw [i64_in (n := (k : Int) + 1) (by omega) (by omega)]
      exact ⟨k + 1, by omega, by omega, Wk.mk (by simp [get_cons, hst]) ⟨[], rfl⟩ (Nat.le_refl _)⟩
  · simp only [go_sem, Nat.reduceEqDiff, ↓reduceIte, eq_false (show ¬ (k : Int) < pl.length by omega)]
    refine ⟨_, Frz.pure rfl, ?_⟩
    rw [List.take_of_length_le (by omega)]
theorem places_c (pl : List Int) (regs n : Int) (hl : pl.length ≤ 140737488355328) : Contract Try.prog 61 [alA pl, I regs, I n] (fun r => r = B (placesB pl regs n)) := by
  refine Contract.of_call (VCall.of_body hmix f_scref28_places (by simp) ?_)
  by_cases h0 : (pl.length : Int) = regs
  case neg =>
    simp only [go_sem, Nat.reduceEqDiff, Nat.reduceAdd, ↓reduceIte, reduceCtorEq, c_scref28_places, List.length_map, eq_false h0]
    exact ⟨_, Frz.pure rfl, by simp [placesB, h0]⟩
  simp only [go_sem, Nat.reduceEqDiff, Nat.reduceAdd, ↓reduceIte, reduceCtorEq, c_scref28_places, List.length_map, eq_true h0]
  refine VW_loop (fun k : Nat => ⟨[(2, I n), (3, .ptr 0 0 0), (7, I k)], [⟨0, 55, 1, [ints pl]⟩], 1⟩) (fun k => k ≤ pl.length ∧ (pl.take k).all (okP n) = true) (fun k => pl.length - k) 0 (Wk.mk (by simp [get_cons]) ⟨[], rfl⟩ (Nat.le_refl _)) ⟨Nat.zero_le _, rfl⟩ ?_
  rintro k ⟨hk, hp⟩
  by_cases h : k < pl.length
  · have hgo : okP n (pl.getD k default) = true → (pl.take (k + 1)).all (okP n) = true := fun e => all_step h hp e
    have hno : okP n (pl.getD k default) = false → placesB pl regs n = false := fun e => by
      unfold placesB; rw [all_stop h e]; simp
    generalize hq : pl.getD k default = p at hgo hno
    have hiff := okP_iff (n := n) (p := p)
    have hlt := eq_true (show (k : Int) < pl.length by omega)
    by_cases h1 : p < -4000
    · simp only [go_sem, Nat.reduceEqDiff, ↓reduceIte, List.length_map, hq, hlt, eq_true h1]
      repeat ((with_reducible refine And.intro ?_ ?_); · omega)
      refine ⟨_, Frz.pure rfl, ?_⟩
      rw [hno (by cases e : okP n p with | false => rfl | true => have := hiff.1 e; omega)]
    by_cases h2 : p = 0
    · simp only [go_sem, Nat.reduceEqDiff, ↓reduceIte, List.length_map, hq, hlt, eq_false h1, eq_true h2]
      repeat ((with_reducible refine And.intro ?_ ?_); · omega)
      refine ⟨_, Frz.pure rfl, ?_⟩
      rw [hno (by cases e : okP n p with | false => rfl | true => have := hiff.1 e; omega)]
    by_cases h3 : 0 < p
    · by_cases h4 : n < p
      · simp only [go_sem, Nat.reduceEqDiff, ↓reduceIte, List.length_map, hq, hlt, eq_false h1, eq_false h2, eq_true h3, eq_true h4]
        repeat ((with_reducible refine And.intro ?_ ?_); · omega)
        refine ⟨_, Frz.pure rfl, ?_⟩
        rw [hno (by cases e : okP n p with | false => rfl | true => have := hiff.1 e; omega)]
      · simp only [go_sem, Nat.reduceEqDiff, ↓reduceIte, List.length_map, hq, hlt, eq_false h1, eq_false h2, eq_true h3, eq_false h4]
        repeat ((with_reducible refine And.intro ?_ ?_); · omega)
        rw [i64_in (n := (k : Int) + 1) (by omega) (by omega)]
        exact ⟨k + 1, ⟨by omega, hgo (hiff.2 (by omega))⟩, by omega, Wk.mk (by simp [get_cons]) ⟨[], rfl⟩ (Nat.le_refl _)⟩
    · simp only [go_sem, Nat.reduceEqDiff, ↓reduceIte, List.length_map, hq, hlt, eq_false h1, eq_false h2, eq_false h3]
      repeat ((with_reducible refine And.intro ?_ ?_); · omega)
      rw [i64_in (n := (k : Int) + 1) (by omega) (by omega)]
      exact ⟨k + 1, ⟨by omega, hgo (hiff.2 (by omega))⟩, by omega, Wk.mk (by simp [get_cons]) ⟨[], rfl⟩ (Nat.le_refl _)⟩
  · simp only [go_sem, Nat.reduceEqDiff, ↓reduceIte, List.length_map, eq_false (show ¬ (k : Int) < pl.length by omega)]
    refine ⟨_, Frz.pure rfl, ?_⟩
    unfold placesB; rw [all_end (by omega) hp, decide_eq_true h0]; rfl
def apI (pl : List Int) (row : List Bool) (i : Nat) : Prop := ∀ j < i, ∀ k < j, gB row j = true → gB row k = true → gP pl j ≠ gP pl k
def apK (pl : List Int) (row : List Bool) (i k : Nat) : Prop := ∀ j < k, gB row i = true → gB row j = true → gP pl i ≠ gP pl j
def onV (t : Tac) (pl : List Int) (row : List Bool) (v : Nat) : Prop := ∀ u < v, gB row u = true → ¬ ((0 ≤ setsL t ∧ (u : Int) ≠ setsL t ∧ gP pl u = gP pl (setsL t).toNat) ∨ (t.op = 10 ∧ 0 < gP pl u))
theorem apart_c (pl : List Int) (row : List Bool) (h : row.length ≤ pl.length) (hl : pl.length ≤ 140737488355328) : Contract Try.prog 62 [alA pl, bools row] (fun r => r = B (apartB pl row)) := by
  refine Contract.of_call (VCall.of_body hmix f_scref28_apart (by simp) ?_)
  simp only [go_sem, ↓reduceIte, c_scref28_apart]
  refine VW_loop (fun i : Nat => ⟨[(1, bools row), (2, .ptr 0 0 0), (5, I i)], [⟨0, 55, 1, [ints pl]⟩], 1⟩) (fun i => i ≤ row.length ∧ apI pl row i) (fun i => row.length - i) 0 (Wk.mk (by simp [get_cons]) ⟨[], rfl⟩ (Nat.le_refl _)) ⟨Nat.zero_le _, fun j hj => by omega⟩ ?_
  rintro i ⟨hi, hp⟩
  by_cases hlt : i < row.length
  · simp only [go_sem, Nat.reduceEqDiff, ↓reduceIte, List.length_map, eq_true (show (i : Int) < row.length by omega)]
    refine VW_loop (fun k : Nat => ⟨[(1, bools row), (2, .ptr 0 0 0), (5, I i), (6, I k)], [⟨0, 55, 1, [ints pl]⟩], 1⟩) (fun k => k ≤ i ∧ apK pl row i k) (fun k => i - k) 0 (Wk.mk (by simp [get_cons]) ⟨[], rfl⟩ (Nat.le_refl _)) ⟨Nat.zero_le _, fun j hj => by omega⟩ ?_
    rintro k ⟨hk, hq⟩
    by_cases hlk : k < i
    · have hgo : (gB row i = true → gB row k = true → gP pl i ≠ gP pl k) → apK pl row i (k + 1) := fun e j hj => by
        by_cases e2 : j = k
        · rw [e2]; exact e
        · exact hq j (by omega)
      have e1 : row.getD i default = gB row i := rfl
      have e2 : row.getD k default = gB row k := rfl
      have e3 : pl.getD i default = gP pl i := rfl
      have e4 : pl.getD k default = gP pl k := rfl
      have hkl := eq_true (show (k : Int) < (i : Int) by omega)
      cases h1 : gB row i
      · simp only [go_sem, Nat.reduceEqDiff, ↓reduceIte, hkl, e1, h1]
        repeat ((with_reducible refine And.intro ?_ ?_); · omega)
        rw [i64_in (n := (k : Int) + 1) (by omega) (by omega)]
        exact ⟨k + 1, ⟨by omega, hgo (by rw [h1]; intro h; cases h)⟩, by omega, Wk.mk (by simp [get_cons]) ⟨[], rfl⟩ (Nat.le_refl _)⟩
      cases h2 : gB row k
      · simp only [go_sem, Nat.reduceEqDiff, ↓reduceIte, hkl, e1, e2, h1, h2]
        repeat ((with_reducible refine And.intro ?_ ?_); · omega)
        rw [i64_in (n := (k : Int) + 1) (by omega) (by omega)]
        exact ⟨k + 1, ⟨by omega, hgo (by rw [h2]; intro _ h; cases h)⟩, by omega, Wk.mk (by simp [get_cons]) ⟨[], rfl⟩ (Nat.le_refl _)⟩
      by_cases h3 : gP pl i = gP pl k
      · simp only [go_sem, Nat.reduceEqDiff, ↓reduceIte, hkl, e1, e2, e3, e4, h1, h2, h3]
        repeat ((with_reducible refine And.intro ?_ ?_); · omega)
        refine ⟨_, Frz.pure rfl, ?_⟩
        have : apartB pl row = false := decide_eq_false fun e => e i hlt k hlk h1 h2 h3
        rw [this]
      · simp only [go_sem, Nat.reduceEqDiff, ↓reduceIte, hkl, e1, e2, e3, e4, h1, h2, eq_false h3]
        repeat ((with_reducible refine And.intro ?_ ?_); · omega)
        rw [i64_in (n := (k : Int) + 1) (by omega) (by omega)]
        exact ⟨k + 1, ⟨by omega, hgo (fun _ _ => h3)⟩, by omega, Wk.mk (by simp [get_cons]) ⟨[], rfl⟩ (Nat.le_refl _)⟩
    · simp only [go_sem, Nat.reduceEqDiff, ↓reduceIte, eq_false (show ¬ (k : Int) < (i : Int) by omega)]
      rw [i64_in (n := (i : Int) + 1) (by omega) (by omega)]
      refine ⟨i + 1, ⟨by omega, fun j hj => ?_⟩, by omega, Wk.mk (by simp [get_cons]) ⟨[], rfl⟩ (Nat.le_refl _)⟩
      by_cases e2 : j = i
      · rw [e2]; exact fun k' hk' => hq k' (by omega)
      · exact hp j (by omega)
  · simp only [go_sem, Nat.reduceEqDiff, ↓reduceIte, List.length_map, eq_false (show ¬ (i : Int) < row.length by omega)]
    refine ⟨_, Frz.pure rfl, ?_⟩
    have : apartB pl row = true := decide_eq_true fun j hj => hp j (by omega)
    rw [this]
theorem rone28_c (t : Tac) (pl : List Int) (row : List Bool) (h : row.length ≤ pl.length) (hl : pl.length ≤ 140737488355328) (hd : 0 ≤ setsL t → setsL t < pl.length) : Contract Try.prog 63 [tacA t, alA pl, bools row] (fun r => r = B (oneAB t pl row)) := by
  refine Contract.of_call (VCall.of_body hmix f_scref28_one (by simp) ?_)
  simp only [go_sem, Nat.reduceEqDiff, Nat.reduceAdd, ↓reduceIte, ↓dreduceIte, reduceCtorEq, c_scref28_one]
  refine VCall.of_contract (refsets_c t) (SleL.pure rfl) fun x hx => ?_
  subst hx
  simp only [go_sem, ↓reduceIte]
  refine VW_loop (fun v : Nat => ⟨[(2, bools row), (3, .ptr 0 0 0), (4, .ptr 1 1 0), (7, I (setsL t)), (8, I v)], [⟨0, 47, 1, tacL t⟩, ⟨1, 55, 1, [ints pl]⟩], 2⟩)
    (fun v => v ≤ row.length ∧ onV t pl row v) (fun v => row.length - v) 0 (Wk.mk (by simp [get_cons]) ⟨[], rfl⟩ (Nat.le_refl _)) ⟨Nat.zero_le _, fun j hj => by omega⟩ ?_
  rintro v ⟨hv, hp⟩
  by_cases hlt : v < row.length
  · have hgo : (gB row v = true → ¬ ((0 ≤ setsL t ∧ (v : Int) ≠ setsL t ∧ gP pl v = gP pl (setsL t).toNat) ∨ (t.op = 10 ∧ 0 < gP pl v))) → onV t pl row (v + 1) := fun e u hu => by
      by_cases e2 : u = v
      · rw [e2]; exact e
      · exact hp u (by omega)
    have hno : gB row v = true → ((0 ≤ setsL t ∧ (v : Int) ≠ setsL t ∧ gP pl v = gP pl (setsL t).toNat) ∨ (t.op = 10 ∧ 0 < gP pl v)) → oneAB t pl row = false := fun e1 e2 => decide_eq_false fun e => e v hlt e1 e2
    have e1 : row.getD v default = gB row v := rfl
    have e3 : pl.getD v default = gP pl v := rfl
    have e4 : pl.getD (setsL t).toNat default = gP pl (setsL t).toNat := rfl
    obtain ⟨d, hdd⟩ : ∃ d, setsL t = d := ⟨_, rfl⟩
    rw [hdd] at hgo hno hd e4 ⊢
    have hlv := eq_true (show (v : Int) < row.length by omega)
    cases h1 : gB row v
    · simp only [go_sem, Nat.reduceEqDiff, ↓reduceIte, List.length_map, hlv, e1, h1]
      repeat ((with_reducible refine And.intro ?_ ?_); · omega)
      rw [i64_in (n := (v : Int) + 1) (by omega) (by omega)]
      exact ⟨v + 1, ⟨by omega, hgo (by rw [h1]; intro h; cases h)⟩, by omega, Wk.mk (by simp [get_cons]) ⟨[], rfl⟩ (Nat.le_refl _)⟩
    -- does it clash with what is set?
    by_cases h2 : 0 ≤ d
    · have hdl := hd h2
      by_cases h3 : (v : Int) = d
      · by_cases h5 : t.op = 10
        · by_cases h6 : 0 < gP pl v
          · simp only [go_sem, Nat.reduceEqDiff, Nat.reduceAdd, ↓reduceIte, Nat.reduceLeDiff, List.length_map, hlv, e1, e3, h1, eq_true h2, eq_true h3, eq_true h5, eq_true h6]
            repeat ((with_reducible refine And.intro ?_ ?_); · omega)
            refine ⟨_, Frz.pure rfl, ?_⟩
            rw [hno h1 (.inr ⟨h5, h6⟩)]
          · simp only [go_sem, Nat.reduceEqDiff, Nat.reduceAdd, ↓reduceIte, Nat.reduceLeDiff, List.length_map, hlv, e1, e3, h1, eq_true h2, eq_true h3, eq_true h5, eq_false h6]
            repeat ((with_reducible refine And.intro ?_ ?_); · omega)
            rw [i64_in (n := (v : Int) + 1) (by omega) (by omega)]
            exact ⟨v + 1, ⟨by omega, hgo (fun _ => by rintro (e | e); exact e.2.1 h3; exact h6 e.2)⟩, by omega, Wk.mk (by simp [get_cons]) ⟨[], rfl⟩ (Nat.le_refl _)⟩
        · simp only [go_sem, Nat.reduceEqDiff, Nat.reduceAdd, ↓reduceIte, Nat.reduceLeDiff, List.length_map, hlv, e1, h1, eq_true h2, eq_true h3, eq_false h5]
          repeat ((with_reducible refine And.intro ?_ ?_); · omega)
          rw [i64_in (n := (v : Int) + 1) (by omega) (by omega)]
          exact ⟨v + 1, ⟨by omega, hgo (fun _ => by rintro (e | e); exact e.2.1 h3; exact h5 e.1)⟩, by omega, Wk.mk (by simp [get_cons]) ⟨[], rfl⟩ (Nat.le_refl _)⟩
      · by_cases h4 : gP pl v = gP pl d.toNat
        · simp only [go_sem, Nat.reduceEqDiff, ↓reduceIte, List.length_map, hlv, e1, e3, e4, h1, eq_true h2, eq_false h3, eq_true h4]
          repeat ((with_reducible refine And.intro ?_ ?_); · omega)
          refine ⟨_, Frz.pure rfl, ?_⟩
          rw [hno h1 (.inl ⟨h2, h3, h4⟩)]
        · by_cases h5 : t.op = 10
          · by_cases h6 : 0 < gP pl v
            · simp only [go_sem, Nat.reduceEqDiff, Nat.reduceAdd, ↓reduceIte, Nat.reduceLeDiff, List.length_map, hlv, e1, e3, e4, h1, eq_true h2, eq_false h3, eq_false h4, eq_true h5, eq_true h6]
              repeat ((with_reducible refine And.intro ?_ ?_); · omega)
              refine ⟨_, Frz.pure rfl, ?_⟩
              rw [hno h1 (.inr ⟨h5, h6⟩)]
            · simp only [go_sem, Nat.reduceEqDiff, Nat.reduceAdd, ↓reduceIte, Nat.reduceLeDiff, List.length_map, hlv, e1, e3, e4, h1, eq_true h2, eq_false h3, eq_false h4, eq_true h5, eq_false h6]
              repeat ((with_reducible refine And.intro ?_ ?_); · omega)
              rw [i64_in (n := (v : Int) + 1) (by omega) (by omega)]
              exact ⟨v + 1, ⟨by omega, hgo (fun _ => by rintro (e | e); exact h4 e.2.2; exact h6 e.2)⟩, by omega, Wk.mk (by simp [get_cons]) ⟨[], rfl⟩ (Nat.le_refl _)⟩
          · simp only [go_sem, Nat.reduceEqDiff, Nat.reduceAdd, ↓reduceIte, Nat.reduceLeDiff, List.length_map, hlv, e1, e3, e4, h1, eq_true h2, eq_false h3, eq_false h4, eq_false h5]
            repeat ((with_reducible refine And.intro ?_ ?_); · omega)
            rw [i64_in (n := (v : Int) + 1) (by omega) (by omega)]
            exact ⟨v + 1, ⟨by omega, hgo (fun _ => by rintro (e | e); exact h4 e.2.2; exact h5 e.1)⟩, by omega, Wk.mk (by simp [get_cons]) ⟨[], rfl⟩ (Nat.le_refl _)⟩
    · by_cases h5 : t.op = 10
      · by_cases h6 : 0 < gP pl v
        · simp only [go_sem, Nat.reduceEqDiff, Nat.reduceAdd, ↓reduceIte, Nat.reduceLeDiff, List.length_map, hlv, e1, e3, h1, eq_false h2, eq_true h5, eq_true h6]
          repeat ((with_reducible refine And.intro ?_ ?_); · omega)
          refine ⟨_, Frz.pure rfl, ?_⟩
          rw [hno h1 (.inr ⟨h5, h6⟩)]
        · simp only [go_sem, Nat.reduceEqDiff, Nat.reduceAdd, ↓reduceIte, Nat.reduceLeDiff, List.length_map, hlv, e1, e3, h1, eq_false h2, eq_true h5, eq_false h6]
          repeat ((with_reducible refine And.intro ?_ ?_); · omega)
          rw [i64_in (n := (v : Int) + 1) (by omega) (by omega)]
          exact ⟨v + 1, ⟨by omega, hgo (fun _ => by rintro (e | e); exact h2 e.1; exact h6 e.2)⟩, by omega, Wk.mk (by simp [get_cons]) ⟨[], rfl⟩ (Nat.le_refl _)⟩
      · simp only [go_sem, Nat.reduceEqDiff, Nat.reduceAdd, ↓reduceIte, Nat.reduceLeDiff, List.length_map, hlv, e1, h1, eq_false h2, eq_false h5]
        repeat ((with_reducible refine And.intro ?_ ?_); · omega)
        rw [i64_in (n := (v : Int) + 1) (by omega) (by omega)]
        exact ⟨v + 1, ⟨by omega, hgo (fun _ => by rintro (e | e); exact h2 e.1; exact h5 e.1)⟩, by omega, Wk.mk (by simp [get_cons]) ⟨[], rfl⟩ (Nat.le_refl _)⟩
  · simp only [go_sem, Nat.reduceEqDiff, ↓reduceIte, List.length_map, eq_false (show ¬ (v : Int) < row.length by omega)]
    refine ⟨_, Frz.pure rfl, ?_⟩
    have : oneAB t pl row = true := decide_eq_true fun j hj => hp j (by omega)
    rw [this]
end Go.Proofs.Ytkbhfokbhkmfgaa
namespace Go.Proofs.Ytkbhfokbhkmfgaa
set_option linter.unusedSimpArgs false
set_option linter.unusedVariables false
set_option maxRecDepth 10000
open Go.V
def blkAll (f : BF) (L : LD) (pl : List Int) (b : Nat) : Prop := ∀ i < b, blkAB f L pl i = true
def insAll (f : BF) (L : LD) (pl : List Int) (b i : Nat) : Prop := ∀ j < i, oneAB ((f.bk b).ins.getD j default) pl ((behindL (f.bk b) (L.out.getD b default)).getD j default) = true
theorem rcheck28_c (f : BF) (L : LD) (pl : List Int) (n : Int) (hf : Fine f) (hL : LOK L) (hl : pl.length ≤ 140737488355328) : Contract Try.prog 38 [bfA f, liveA L, alA pl, I n] (fun r => r = B (allocB f L pl n)) := by
  refine Contract.of_call (VCall.of_body hmix f_scref28_Check (by simp) ?_)
  have hn : f.bks.length = f.n := rfl
  have hn5 := hf.b1
  rw [hn] at hn5
  have hr4 := hf.r1
  have hr0 := hf.r0
  have hpos : 0 < f.n := List.length_pos_iff.2 hf.b0
  have hregs : (f.r : Int) = f.regs := by unfold BF.r; omega
  simp only [go_sem, Nat.reduceEqDiff, Nat.reduceAdd, ↓reduceIte, ↓dreduceIte, reduceCtorEq, Nat.reduceLT, c_scref28_Check]
  refine ECall.of (rcheck_c f L hf hL) (SleL.pure rfl) ⟨_, fun _ => Iff.rfl⟩ fun x hx => ?_
  subst hx
  cases hc : checkB f L
  · simp only [go_sem, Nat.reduceEqDiff, ↓reduceIte]
    exact ⟨_, Frz.pure rfl, by simp [allocB, hc]⟩
  have hcl := (checkB_iff hf L).1 hc
  have hli : L.inn.length = f.n := hcl.sz.i
  have hi0 : (L.inn.getD 0 default).length = f.r := hcl.sz.il hpos
  simp only [go_sem, Nat.reduceEqDiff, Nat.reduceAdd, ↓reduceIte, ↓dreduceIte, reduceCtorEq, Nat.reduceLeDiff, Nat.reduceLT]
  refine ECall.of (places_c pl f.regs n hl) (SleL.pure rfl) ⟨_, fun _ => Iff.rfl⟩ fun x hx => ?_
  subst hx
  cases hp : placesB pl f.regs n
  · simp only [go_sem, Nat.reduceEqDiff, ↓reduceIte]
    exact ⟨_, Frz.pure rfl, by simp [allocB, hp]⟩
  have hpl : pl.length = f.r := by
    have := hp
    unfold placesB at this
    simp only [Bool.and_eq_true, decide_eq_true_eq] at this
    omega
  simp only [go_sem, Nat.reduceEqDiff, Nat.reduceAdd, ↓reduceIte, ↓dreduceIte, Nat.reduceLeDiff, Nat.reduceLT, Int.reduceLE]
  repeat ((with_reducible refine And.intro ?_ ?_); · omega)
  refine ECall.of (apart_c pl (L.inn.getD 0 default) (by omega) hl) (SleL.pure rfl) ⟨_, fun _ => Iff.rfl⟩ fun x hx => ?_
  subst hx
  cases ha : apartB pl (L.inn.getD 0 default)
  · simp only [go_sem, Nat.reduceEqDiff, ↓reduceIte]
    exact ⟨_, Frz.pure rfl, by simp only [allocB, ha, Bool.and_false, Bool.false_and]⟩
  simp only [go_sem, Nat.reduceEqDiff, ↓reduceIte]
  refine VW_loop (fun b : Nat => ⟨[(3, I n), (4, .ptr 0 0 0), (5, .ptr 1 1 0), (6, .ptr 2 2 0), (9, I b)], [⟨0, 52, 1, bfL f⟩, ⟨1, 63, 1, [rowsA L.inn, rowsA L.out]⟩, ⟨2, 55, 1, [ints pl]⟩], 3⟩)
    (fun b => b ≤ f.n ∧ blkAll f L pl b) (fun b => f.n - b) 0 (Wk.mk (by simp [get_cons]) ⟨[], rfl⟩ (Nat.le_refl _)) ⟨Nat.zero_le _, fun i hi => absurd hi (Nat.not_lt_zero i)⟩ ?_
  rintro b ⟨hb, hp2⟩
  by_cases hlt : b < f.n
  · have hbk : f.bks.getD b default = f.bk b := rfl
    have hob : b < L.out.length := by rw [hcl.sz.o]; exact hlt
    have hlo : (L.out.getD b default).length = f.r := hcl.sz.ol hlt
    have hrg := hf.regs hlt hlo
    have hlen := hf.len _ (BF.mem hlt)
    simp only [go_sem, Nat.reduceEqDiff, Nat.reduceAdd, ↓reduceIte, ↓dreduceIte, List.length_map, hn, eq_true (show (b : Int) < f.n by omega)]
    refine VCall.of_contract (rbehind_c f L b hf hlt hob hlo) (SleL.pure rfl) fun x hx => ?_
    subst hx
    simp only [go_sem, ↓reduceIte, List.length_map]
    refine VW_loop (fun i : Nat => ⟨[(3, I n), (4, .ptr 0 0 0), (5, .ptr 1 1 0), (6, .ptr 2 2 0), (9, I b), (10, rowsA (behindL (f.bk b) (L.out.getD b default))), (11, I i)], [⟨0, 52, 1, bfL f⟩, ⟨1, 63, 1, [rowsA L.inn, rowsA L.out]⟩, ⟨2, 55, 1, [ints pl]⟩], 3⟩)
      (fun i => i ≤ (f.bk b).ins.length ∧ insAll f L pl b i) (fun i => (f.bk b).ins.length - i) 0 (Wk.mk (by simp [get_cons]) ⟨[], rfl⟩ (Nat.le_refl _)) ⟨Nat.zero_le _, fun i hi => absurd hi (Nat.not_lt_zero i)⟩ ?_
    rintro i ⟨hi, hq⟩
    by_cases hil : i < (f.bk b).ins.length
    · have hbl := behindL_len (f.bk b) (L.out.getD b default)
      have hrl : ((behindL (f.bk b) (L.out.getD b default)).getD i default).length = f.r := behindL_lens hf hlt hlo hil
      have hrt := hrg.1 _ (mem_getD hil)
      simp only [go_sem, Nat.reduceEqDiff, Nat.reduceAdd, ↓reduceIte, ↓dreduceIte, Nat.reduceLeDiff, List.length_map, hbk, hbl, eq_true (show (i : Int) < (f.bk b).ins.length by omega)]
      repeat ((with_reducible refine And.intro ?_ ?_); · omega)
      refine VCall.of_contract (rone28_c ((f.bk b).ins.getD i default) pl ((behindL (f.bk b) (L.out.getD b default)).getD i default) (by omega) hl (fun h => by rcases hrt.sets with e | e <;> omega)) (SleL.pure rfl) fun x hx => ?_
      subst hx
      cases ho : oneAB ((f.bk b).ins.getD i default) pl ((behindL (f.bk b) (L.out.getD b default)).getD i default)
      · simp only [go_sem, ↓reduceIte, List.length_map]
        refine ⟨_, Frz.pure rfl, ?_⟩
        have h1 : blkAB f L pl b = false := by
          unfold blkAB
          exact List.all_eq_false.2 ⟨i, List.mem_range.2 hil, by rw [ho]; decide⟩
        have : allocB f L pl n = false := by
          unfold allocB
          rw [List.all_eq_false.2 ⟨b, List.mem_range.2 hlt, by rw [h1]; decide⟩]; simp
        rw [this]
      · simp only [go_sem, Nat.reduceEqDiff, ↓reduceIte, List.length_map]
        rw [i64_in (by omega) (by omega)]
        refine ⟨i + 1, ⟨by omega, fun j hj => ?_⟩, by omega, Wk.mk (by simp [get_cons]) ⟨[], rfl⟩ (Nat.le_refl _)⟩
        by_cases e : j = i
        · rw [e]; exact ho
        · exact hq j (by omega)
    · simp only [go_sem, Nat.reduceEqDiff, Nat.reduceAdd, ↓reduceIte, Nat.reduceLeDiff, List.length_map, hbk, hn, eq_false (show ¬ (i : Int) < (f.bk b).ins.length by omega)]
      repeat ((with_reducible refine And.intro ?_ ?_); · omega)
      rw [i64_in (by omega) (by omega)]
      refine ⟨b + 1, ⟨by omega, fun j hj => ?_⟩, by omega, Wk.mk (by simp [get_cons]) ⟨[], rfl⟩ (Nat.le_refl _)⟩
      by_cases e : j = b
      · rw [e]
        unfold blkAB
        rw [List.all_eq_true]
        exact fun k hk => hq k (by have := List.mem_range.1 hk; omega)
      · exact hp2 j (by omega)
  · simp only [go_sem, Nat.reduceEqDiff, Nat.reduceAdd, ↓reduceIte, List.length_map, hn, eq_false (show ¬ (b : Int) < f.n by omega)]
    refine ⟨_, Frz.pure rfl, ?_⟩
    have : allocB f L pl n = true := by
      unfold allocB
      rw [hc, hp, ha, List.all_eq_true.2 fun i hi => hp2 i (by have := List.mem_range.1 hi; omega)]; rfl
    rw [this]
end Go.Proofs.Ytkbhfokbhkmfgaa
namespace Go.Proofs.Ytkbhfokbhkmfgaa
set_option linter.unusedSimpArgs false
set_option linter.unusedVariables false
set_option maxRecDepth 10000
open Go.V
theorem SizedP.ok {f : BF} (hf : Fine f) {L : LD} (h : SizedP f L) : LOK L := by
  have h1 := hf.b1
  have h2 := hf.r1
  have h3 := hf.r0
  have hn : f.n = f.bks.length := rfl
  have hr : f.r ≤ 4000 := by unfold BF.r; omega
  have a1 := h.i
  have a2 := h.o
  exact ⟨by omega, by omega, fun l hl => by have := h.ir l hl; omega, fun l hl => by have := h.or l hl; omega⟩
def cntB (l : List Bk) : Nat := (l.map fun b => b.ins.length + 1).sum
def totF (l : List BF) : Nat := (l.map fun f => cntB f.bks).sum
theorem cntB_step (l : List Bk) {k : Nat} (h : k < l.length) : cntB (l.take (k + 1)) = cntB (l.take k) + ((l.getD k default).ins.length + 1) := by
  unfold cntB
  have e : l.take (k + 1) = l.take k ++ [l.getD k default] := by rw [List.take_add_one]; simp [List.getD, List.getElem?_eq_getElem h]
  rw [e]; simp
theorem totF_step (l : List BF) {k : Nat} (h : k < l.length) : totF (l.take (k + 1)) = totF (l.take k) + cntB (l.getD k default).bks := by
  unfold totF
  have e : l.take (k + 1) = l.take k ++ [l.getD k default] := by rw [List.take_add_one]; simp [List.getD, List.getElem?_eq_getElem h]
  rw [e]; simp
theorem cntB_mem {l : List Bk} {b : Bk} (h : b ∈ l) : b.ins.length + 1 ≤ cntB l := by
  induction l with
  | nil => cases h
  | cons a l ih =>
    simp only [cntB, List.map_cons, List.sum_cons] at ih ⊢
    rcases List.mem_cons.1 h with rfl | h
    · omega
    · have := ih h; omega
theorem totF_mem {l : List BF} {f : BF} (h : f ∈ l) : cntB f.bks ≤ totF l := by
  induction l with
  | nil => cases h
  | cons a l ih =>
    simp only [totF, List.map_cons, List.sum_cons] at ih ⊢
    rcases List.mem_cons.1 h with rfl | h
    · omega
    · have := ih h; omega
theorem take_mem {α : Type} [Inhabited α] {l : List α} {k : Nat} (h : k < l.length) {x : α} (hx : x ∈ l.take (k + 1)) : x ∈ l.take k ∨ x = l.getD k default := by
  rw [List.take_add_one] at hx
  rcases List.mem_append.1 hx with hx | hx
  · exact .inl hx
  · right; simpa [List.getD, List.getElem?_eq_getElem h] using hx
structure FewP (b : BP) : Prop where
  w : b.words ≤ 400
  l : b.funcs.length ≤ 20
  f : ∀ f ∈ b.funcs, f.bks.length ≤ 60 ∧ f.regs ≤ 30
  n : totF b.funcs ≤ 400
  r : rightB b = true
structure FQ where
  k : Nat
  nx : Nat
theorem few_c (b : BP) (hl : b.funcs.length ≤ 140737488355328) (hf : ∀ f ∈ b.funcs, BfOk f) : Contract Try.prog 29 [bpA b] (fun r => ∃ x, r = B x ∧ (x = true → FewP b)) := by
  refine Contract.of_call (VCall.of_body hmix f_sclaw29_few (by simp) ?_)
  by_cases h1 : 400 < b.words
  · simp only [go_sem, Nat.reduceEqDiff, Nat.reduceAdd, ↓reduceIte, Nat.reduceLeDiff, c_sclaw29_few, eq_true h1]
    exact ⟨_, Frz.pure rfl, false, rfl, nofun⟩
  by_cases h2 : 20 < (b.funcs.length : Int)
  · simp only [go_sem, Nat.reduceEqDiff, Nat.reduceAdd, ↓reduceIte, Nat.reduceLeDiff, c_sclaw29_few, List.length_map, eq_false h1, eq_true h2]
    exact ⟨_, Frz.pure rfl, false, rfl, nofun⟩
  simp only [go_sem, Nat.reduceEqDiff, Nat.reduceAdd, ↓reduceIte, Nat.reduceLeDiff, c_sclaw29_few, List.length_map, eq_false h1, eq_false h2]
  refine VW_loop (fun q : FQ => ⟨[(1, .ptr 0 0 0), (3, I (totF (b.funcs.take q.k) : Nat)), (4, I q.k)], [⟨0, 24, 1, [I b.words, .imm 2 (b.funcs.map bfA)]⟩], q.nx⟩)
    (fun q => q.k ≤ b.funcs.length ∧ totF (b.funcs.take q.k) ≤ 400 ∧ ∀ f ∈ b.funcs.take q.k, f.bks.length ≤ 60 ∧ f.regs ≤ 30) (fun q => b.funcs.length - q.k) ⟨0, 1⟩
    (Wk.mk (by simp [get_cons, totF]) ⟨[], rfl⟩ (Nat.le_refl _)) ⟨Nat.zero_le _, by simp [totF], by simp⟩ ?_
  rintro ⟨k, nx⟩ ⟨hk, hn, hs⟩
  simp only at hk hn hs
  by_cases hlt : k < b.funcs.length
  · have hst := totF_step b.funcs hlt
    have hsm := fun x hx => take_mem (l := b.funcs) (x := x) hlt hx
    have hok := hf _ (mem_getD hlt)
    by_cases g1 : 60 < ((b.funcs.getD k default).bks.length : Int)
    · simp only [go_sem, Nat.reduceEqDiff, Nat.reduceAdd, ↓reduceIte, List.length_map, eq_true (show (k : Int) < b.funcs.length by omega), eq_true g1]
      repeat ((with_reducible refine And.intro ?_ ?_); · first | omega | (simp; omega))
      exact ⟨_, Frz.pure rfl, false, rfl, nofun⟩
    by_cases g2 : 30 < (b.funcs.getD k default).regs
    · simp only [go_sem, Nat.reduceEqDiff, Nat.reduceAdd, ↓reduceIte, Nat.reduceLeDiff, List.length_map, eq_true (show (k : Int) < b.funcs.length by omega), eq_false g1, eq_true g2]
      repeat ((with_reducible refine And.intro ?_ ?_); · first | omega | (simp; omega))
      exact ⟨_, Frz.pure rfl, false, rfl, nofun⟩
    simp only [go_sem, Nat.reduceEqDiff, Nat.reduceAdd, ↓reduceIte, Nat.reduceLeDiff, List.length_map, eq_true (show (k : Int) < b.funcs.length by omega), eq_false g1, eq_false g2]
    generalize b.funcs.getD k default = g at *
    repeat ((with_reducible refine And.intro ?_ ?_); · first | omega | (simp; omega))
    refine VW_loop (fun i : Nat => ⟨[(1, .ptr 0 0 0), (3, I (totF (b.funcs.take k) + cntB (g.bks.take i) : Nat)), (4, I k), (5, .ptr 1 nx 0), (6, I i)], [⟨0, 24, 1, [I b.words, .imm 2 (b.funcs.map bfA)]⟩, ⟨nx, 52, 1, bfL g⟩], nx + 1⟩)
      (fun i => i ≤ g.bks.length ∧ totF (b.funcs.take k) + cntB (g.bks.take i) ≤ 400) (fun i => g.bks.length - i) 0
      (Wk.mk (by simp [get_cons, cntB]) ⟨[], rfl⟩ (Nat.le_refl _)) ⟨Nat.zero_le _, by simp [cntB]; exact hn⟩ ?_
    rintro i ⟨hi, hni⟩
    by_cases hil : i < g.bks.length
    · have hsi := cntB_step g.bks hil
      have hbl := (hok.bk _ (mem_getD hil)).len
      have w0 : IntKind.i64.wrap (((totF (b.funcs.take k) + cntB (g.bks.take i) : Nat) : Int) + 1) = ((totF (b.funcs.take k) + cntB (g.bks.take i) : Nat) : Int) + 1 := i64_in (by omega) (by omega)
      have w1 : IntKind.i64.wrap (((totF (b.funcs.take k) + cntB (g.bks.take i) : Nat) : Int) + 1 + (g.bks.getD i default).ins.length) = ((totF (b.funcs.take k) + cntB (g.bks.take (i + 1)) : Nat) : Int) := by
        rw [i64_in (by omega) (by omega)]; omega
      by_cases h4 : 400 < ((totF (b.funcs.take k) + cntB (g.bks.take (i + 1)) : Nat) : Int)
      · simp only [go_sem, Nat.reduceEqDiff, Nat.reduceAdd, ↓reduceIte, Nat.reduceLeDiff, List.length_map, eq_true (show (i : Int) < g.bks.length by omega), w0, w1, eq_true h4]
        repeat ((with_reducible refine And.intro ?_ ?_); · first | omega | (simp; omega))
        exact ⟨_, Frz.pure rfl, false, rfl, nofun⟩
      · simp only [go_sem, Nat.reduceEqDiff, Nat.reduceAdd, ↓reduceIte, Nat.reduceLeDiff, List.length_map, eq_true (show (i : Int) < g.bks.length by omega), w0, w1, eq_false h4]
        repeat ((with_reducible refine And.intro ?_ ?_); · first | omega | (simp; omega))
        rw [i64_in (n := (i : Int) + 1) (by omega) (by omega)]
        exact ⟨i + 1, ⟨by omega, by omega⟩, by omega, Wk.mk (by simp [get_cons]) ⟨[], rfl⟩ (Nat.le_refl _)⟩
    · obtain rfl : i = g.bks.length := by omega
      rw [List.take_of_length_le (Nat.le_refl _)] at hni
      simp only [go_sem, Nat.reduceEqDiff, Nat.reduceAdd, ↓reduceIte, List.length_map, eq_false (show ¬ (g.bks.length : Int) < g.bks.length by omega)]
      repeat ((with_reducible refine And.intro ?_ ?_); · first | omega | (simp; omega))
      rw [i64_in (n := (k : Int) + 1) (by omega) (by omega), List.take_of_length_le (Nat.le_refl _), ← hst]
      refine ⟨⟨k + 1, nx + 1⟩, ⟨by simp only; omega, by simp only; omega, fun x hx => ?_⟩, by simp only; omega, Wk.mk (by simp [get_cons]) ⟨[_], rfl⟩ (Nat.le_refl _)⟩
      rcases hsm x hx with hx | rfl
      · exact hs x hx
      · exact ⟨by omega, by omega⟩
  · obtain rfl : k = b.funcs.length := by omega
    rw [List.take_of_length_le (Nat.le_refl _)] at hn hs
    simp only [go_sem, Nat.reduceEqDiff, Nat.reduceAdd, ↓reduceIte, ↓dreduceIte, List.length_map, eq_false (show ¬ (b.funcs.length : Int) < b.funcs.length by omega)]
    refine VCall.of_contract (rright_c b hl (fun f h => (hf f h).len) (fun f h k hk => ((hf f h).bk k hk).len)) (SleL.pure rfl) fun x hx => ?_
    subst hx
    simp only [go_sem, ↓reduceIte]
    exact ⟨_, Frz.pure rfl, rightB b, rfl, fun h => ⟨by omega, by omega, hs, hn, h⟩⟩
theorem FewP.fine {b : BP} (h : FewP b) {i : Nat} (hi : i < b.funcs.length) : Fine (b.funcs.getD i default) ∧ (b.funcs.getD i default).r ≤ 30 ∧ oneB (b.funcs.getD i default) i b.words = true := by
  have hr := h.r
  unfold rightB at hr
  simp only [Bool.and_eq_true, List.all_eq_true, List.mem_range] at hr
  have h1 := hr.2 i hi
  have hm : b.funcs.getD i default ∈ b.funcs := mem_getD hi
  have hf := h.f _ hm
  have hn := h.n
  have ht := totF_mem hm
  refine ⟨one_fine h1 (by omega) (fun k hk => ?_), by unfold BF.r; omega, h1⟩
  have := cntB_mem hk
  omega
end Go.Proofs.Ytkbhfokbhkmfgaa
namespace Go.Proofs.Ytkbhfokbhkmfgaa
set_option linter.unusedSimpArgs false
set_option linter.unusedVariables false
set_option maxRecDepth 10000
open Go.V
abbrev alsA (ls : List (List Int)) : AV := .imm 1 (ls.map alA)
structure HoldP (b : BP) (ls : List (List Int)) : Prop where
  len : ls.length = b.funcs.length
  al : ∀ i < b.funcs.length, ∃ L, Least (b.funcs.getD i default) L ∧ AllocP (b.funcs.getD i default) L (ls.getD i default) 8
theorem HoldP.wds {b : BP} {ls : List (List Int)} (h : HoldP b ls) : ∀ i < ls.length, 0 ≤ wdsI (ls.getD i default) ∧ wdsI (ls.getD i default) ≤ 4000 := fun i hi => by
  obtain ⟨L, _, hA⟩ := h.al i (by rw [← h.len]; exact hi)
  refine ⟨(wdsI_pos _).1, wdsI_le (by omega) fun v hv => ?_⟩
  have := hA.ok v (by rw [← hA.len]; exact hv)
  omega
theorem hold_c (b : BP) (ls : List (List Int)) (hw : FewP b) (hl : ∀ pl ∈ ls, pl.length ≤ 140737488355328) (hls : ls.length ≤ 20) :
    Contract Try.prog 20 [bpA b, alsA ls] (fun r => ∃ x, r = B x ∧ (x = true → HoldP b ls)) := by
  refine Contract.of_call (VCall.of_body hmix f_scref29_Hold (by simp) ?_)
  have h20 := hw.l
  by_cases h1 : (ls.length : Int) = b.funcs.length
  · simp only [go_sem, Nat.reduceEqDiff, Nat.reduceAdd, ↓reduceIte, reduceCtorEq, c_scref29_Hold, List.length_map, h1]
    refine VW_loop (fun k : Nat => ⟨[(1, alsA ls), (2, .ptr 0 0 0), (5, I k)], [⟨0, 24, 1, [I b.words, .imm 2 (b.funcs.map bfA)]⟩], 1⟩)
      (fun k => k ≤ ls.length ∧ ∀ i < k, ∃ L, Least (b.funcs.getD i default) L ∧ AllocP (b.funcs.getD i default) L (ls.getD i default) 8) (fun k => ls.length - k) 0
      (Wk.mk (by simp [get_cons]) ⟨[], rfl⟩ (Nat.le_refl _)) ⟨Nat.zero_le _, fun i hi => absurd hi (Nat.not_lt_zero _)⟩ ?_
    rintro k ⟨hk, hp⟩
    by_cases hlt : k < ls.length
    · obtain ⟨hf, hr, ho⟩ := hw.fine (i := k) (by omega)
      obtain ⟨L, hL⟩ := least_exists hf
      have hpl := hl _ (mem_getD hlt)
      simp only [go_sem, Nat.reduceEqDiff, Nat.reduceAdd, ↓reduceIte, ↓dreduceIte, Nat.reduceLT, List.length_map, h1, eq_true (show (k : Int) < b.funcs.length by omega)]
      repeat ((with_reducible refine And.intro ?_ ?_); · first | omega | (simp; omega))
      refine ECall.of (rof_c _ hf L hL) (SleL.pure rfl) ⟨_, fun _ => Iff.rfl⟩ fun x hx => ?_
      subst hx
      simp only [go_sem, Nat.reduceEqDiff, ↓reduceIte, ↓dreduceIte, List.length_map]
      repeat ((with_reducible refine And.intro ?_ ?_); · first | omega | (simp; omega))
      refine ECall.of (rcheck28_c _ L _ 8 hf (hL.cl.sz.ok hf) hpl) (SleL.pure rfl) ⟨_, fun _ => Iff.rfl⟩ fun x hx => ?_
      subst hx
      cases ha : allocB (b.funcs.getD k default) L (ls.getD k default) 8
      · simp only [go_sem, ↓reduceIte, List.length_map]
        exact ⟨_, Frz.pure rfl, false, rfl, nofun⟩
      · have hA := (allocB_iff hf L _ 8).1 ha
        simp only [go_sem, Nat.reduceEqDiff, ↓reduceIte, List.length_map]
        rw [i64_in (n := (k : Int) + 1) (by omega) (by omega)]
        refine ⟨k + 1, ⟨by omega, fun i hi => ?_⟩, by omega, Wk.mk (by simp [get_cons]) ⟨[], rfl⟩ (Nat.le_refl _)⟩
        by_cases e : i = k
        · subst e; exact ⟨L, hL, hA⟩
        · exact hp i (by omega)
    · obtain rfl : k = ls.length := by omega
      simp only [go_sem, Nat.reduceEqDiff, ↓reduceIte, List.length_map, h1, eq_false (show ¬ (b.funcs.length : Int) < b.funcs.length by omega)]
      exact ⟨_, Frz.pure rfl, true, rfl, fun _ => ⟨by omega, fun i hi => hp i (by omega)⟩⟩
  · simp only [go_sem, Nat.reduceEqDiff, Nat.reduceAdd, ↓reduceIte, reduceCtorEq, c_scref29_Hold, List.length_map, eq_false h1]
    exact ⟨_, Frz.pure rfl, false, rfl, nofun⟩
def totW (ls : List (List Int)) : Int := (ls.map wdsI).sum
theorem totW_step (ls : List (List Int)) {k : Nat} (h : k < ls.length) : totW (ls.take (k + 1)) = totW (ls.take k) + wdsI (ls.getD k default) := by
  unfold totW
  have e : ls.take (k + 1) = ls.take k ++ [ls.getD k default] := by rw [List.take_add_one]; simp [List.getD, List.getElem?_eq_getElem h]
  rw [e]; simp
theorem wordsL_c (ls : List (List Int)) (hl : ∀ pl ∈ ls, pl.length ≤ 140737488355328) (hls : ls.length ≤ 20) (hw : ∀ i < ls.length, 0 ≤ wdsI (ls.getD i default) ∧ wdsI (ls.getD i default) ≤ 4000) :
    Contract Try.prog 18 [alsA ls] (fun r => r = I (totW ls)) := by
  refine Contract.of_call (VCall.of_body hmix f_scref29_Words (by simp) ?_)
  simp only [go_sem, c_scref29_Words]
  refine VW_loop (fun k : Nat => ⟨[(0, alsA ls), (3, I (totW (ls.take k))), (4, I k)], [], 0⟩)
      (fun k => k ≤ ls.length ∧ 0 ≤ totW (ls.take k) ∧ totW (ls.take k) ≤ 4000 * k) (fun k => ls.length - k) 0
      (Wk.mk (by simp [get_cons, totW]) ⟨[], rfl⟩ (Nat.le_refl _)) ⟨Nat.zero_le _, by simp [totW], by simp [totW]⟩ ?_
  rintro k ⟨hk, h0, h1⟩
  by_cases hlt : k < ls.length
  · have hst := totW_step ls hlt
    have hwk := hw k hlt
    simp only [go_sem, Nat.reduceEqDiff, ↓reduceIte, ↓dreduceIte, reduceCtorEq, List.length_map, eq_true (show (k : Int) < ls.length by omega)]
    repeat ((with_reducible refine And.intro ?_ ?_); · first | omega | (simp; omega))
    refine VCall.of_contract (rwords_c _ (hl _ (mem_getD hlt))) (SleL.pure rfl) fun x hx => ?_
    subst hx
    simp only [go_sem, Nat.reduceEqDiff, ↓reduceIte, reduceCtorEq, List.length_map]
    rw [i64_in (n := (k : Int) + 1) (by omega) (by omega), i64_in (n := totW (ls.take k) + _) (by omega) (by omega), ← hst]
    exact ⟨k + 1, ⟨by omega, by omega, by omega⟩, by omega, Wk.mk (by simp [get_cons]) ⟨[], rfl⟩ (Nat.le_refl _)⟩
  · obtain rfl : k = ls.length := by omega
    simp only [go_sem, Nat.reduceEqDiff, ↓reduceIte, reduceCtorEq, List.length_map, eq_false (show ¬ (ls.length : Int) < ls.length by omega)]
    refine ⟨_, Frz.pure rfl, ?_⟩
    rw [List.take_of_length_le (Nat.le_refl _)]
structure FairP (b : BP) (ls : List (List Int)) : Prop where
  few : FewP b
  hold : HoldP b ls
  wds : totW ls ≤ 600
theorem fair_c (b : BP) (ls : List (List Int)) (hl : b.funcs.length ≤ 140737488355328) (hf : ∀ f ∈ b.funcs, BfOk f) (hls : ls.length ≤ 140737488355328) (hpl : ∀ pl ∈ ls, pl.length ≤ 140737488355328) :
    Contract Try.prog 10 [bpA b, alsA ls] (fun r => ∃ x, r = B x ∧ (x = true → FairP b ls)) := by
  refine Contract.of_call (VCall.of_body hmix f_sclaw29_fair (by simp) ?_)
  simp only [go_sem, Nat.reduceEqDiff, Nat.reduceAdd, ↓reduceIte, ↓dreduceIte, c_sclaw29_fair]
  refine VCall.of_contract (few_c b hl hf) (SleL.pure rfl) fun x hx => ?_
  obtain ⟨v, rfl, hv⟩ := hx
  cases v
  · simp only [go_sem, Nat.reduceEqDiff, ↓reduceIte]
    exact ⟨_, Frz.pure rfl, false, rfl, nofun⟩
  have hw := hv rfl
  by_cases h20 : (ls.length : Int) ≤ 20
  · simp only [go_sem, Nat.reduceEqDiff, Nat.reduceAdd, ↓reduceIte, ↓dreduceIte, reduceCtorEq, List.length_map, eq_true h20]
    refine VCall.of_contract (hold_c b ls hw hpl (by omega)) (SleL.pure rfl) fun x hx => ?_
    obtain ⟨v, rfl, hv⟩ := hx
    cases v
    · simp only [go_sem, Nat.reduceEqDiff, ↓reduceIte, List.length_map]
      exact ⟨_, Frz.pure rfl, false, rfl, nofun⟩
    have hh := hv rfl
    simp only [go_sem, Nat.reduceEqDiff, ↓reduceIte, ↓dreduceIte, reduceCtorEq, List.length_map]
    refine VCall.of_contract (wordsL_c ls hpl (by omega) hh.wds) (SleL.pure rfl) fun x hx => ?_
    subst hx
    by_cases h6 : totW ls ≤ 600
    · simp only [go_sem, Nat.reduceEqDiff, ↓reduceIte, List.length_map, eq_true h6]
      exact ⟨_, Frz.pure rfl, true, rfl, fun _ => ⟨hw, hh, h6⟩⟩
    · simp only [go_sem, Nat.reduceEqDiff, ↓reduceIte, List.length_map, eq_false h6]
      exact ⟨_, Frz.pure rfl, false, rfl, nofun⟩
  · simp only [go_sem, Nat.reduceEqDiff, ↓reduceIte, reduceCtorEq, List.length_map, eq_false h20]
    exact ⟨_, Frz.pure rfl, false, rfl, nofun⟩
end Go.Proofs.Ytkbhfokbhkmfgaa
namespace Go.Proofs.Ytkbhfokbhkmfgaa
set_option linter.unusedSimpArgs false
set_option linter.unusedVariables false
open Go.V
structure Ci where
  op : Int
  a : Int
  b : Int
  c : Int
deriving Inhabited, DecidableEq
abbrev Sy := Ci × Option (Int × Int)
abbrev Sp := Int × Int × Int
structure Cx where
  b : BP
  ws : List Int
  back : Int
  fn : Nat
  pl : List Int
def pY (op a b c : Int) : Sy := (⟨op, a, b, c⟩, none)
def jY (op a fn to : Int) : Sy := (⟨op, a, 0, 0⟩, some (fn, to))
def spotL : Nat → List Sy → List Sp
  | _, [] => []
  | n, (_, none) :: l => spotL (n + 1) l
  | n, (_, some p) :: l => ((n : Int), p.1, p.2) :: spotL (n + 1) l
theorem spotL_append : ∀ (l m : List Sy) (n : Nat), spotL n (l ++ m) = spotL n l ++ spotL (n + l.length) m
  | [], m, n => by simp [spotL]
  | (i, none) :: l, m, n => by simp only [List.cons_append, spotL, spotL_append l m, List.length_cons]; rw [show n + 1 + l.length = n + (l.length + 1) by omega]
  | (i, some p) :: l, m, n => by simp only [List.cons_append, spotL, spotL_append l m, List.length_cons]; rw [show n + 1 + l.length = n + (l.length + 1) by omega]
theorem spotL_len : ∀ (l : List Sy) (n : Nat), (spotL n l).length ≤ l.length
  | [], _ => by simp [spotL]
  | (i, none) :: l, n => by simp only [spotL, List.length_cons]; have := spotL_len l (n + 1); omega
  | (i, some p) :: l, n => by simp only [spotL, List.length_cons]; have := spotL_len l (n + 1); omega
def Cx.p (c : Cx) (v : Int) : Int := gP c.pl v.toNat
def Cx.own (c : Cx) (p : Int) : Int := gP c.ws c.fn - p - 1
def fetchR (c : Cx) (v spare : Int) : Int := if 0 < c.p v then c.p v else spare
def fetchY (c : Cx) (v spare : Int) : List Sy := if 0 < c.p v then [] else [pY 16 spare 0 (c.own (c.p v))]
def intoR (c : Cx) (v : Int) : Int := if 0 < c.p v then c.p v else 11
def keepY (c : Cx) (v r : Int) : List Sy := if c.p v < 0 then [pY 17 r 0 (c.own (c.p v))] else []
def constY (c : Cx) (v n : Int) : List Sy :=
  if n = 0 ∧ c.p v < 0 then keepY c v 0
  else pY 1 (intoR c v) 0 (n % 65536) :: ((if n / 65536 = 0 then [] else [pY 2 (intoR c v) 0 (n / 65536)]) ++ keepY c v (intoR c v))
def copyY (c : Cx) (d a : Int) : List Sy :=
  if c.p d = c.p a then []
  else if 0 < c.p d then fetchY c a (c.p d) ++ (if fetchR c a (c.p d) = c.p d then [] else [pY 3 (c.p d) (fetchR c a (c.p d)) 0])
  else fetchY c a 9 ++ keepY c d (fetchR c a 9)
def insY (c : Cx) (t : Tac) : List Sy :=
  if t.op = 1 then constY c t.d t.n
  else if t.op = 2 then copyY c t.d t.a
  else if t.op = 3 then fetchY c t.a 9 ++ fetchY c t.b 10 ++ [pY t.k (intoR c t.d) (fetchR c t.a 9) (fetchR c t.b 10)] ++ keepY c t.d (intoR c t.d)
  else if t.op = 4 then [pY 16 (intoR c t.d) 0 t.base] ++ keepY c t.d (intoR c t.d)
  else if t.op = 5 then fetchY c t.a 9 ++ [pY 17 (fetchR c t.a 9) 0 t.base]
  else if t.op = 6 then fetchY c t.a 9 ++ [pY 25 (fetchR c t.a 9) 0 t.size] ++ [pY 16 (intoR c t.d) (fetchR c t.a 9) t.base] ++ keepY c t.d (intoR c t.d)
  else if t.op = 7 then fetchY c t.a 9 ++ [pY 25 (fetchR c t.a 9) 0 t.size] ++ fetchY c t.b 10 ++ [pY 17 (fetchR c t.b 10) (fetchR c t.a 9) t.base]
  else if t.op = 8 then [pY 23 (intoR c t.d) 0 0] ++ keepY c t.d (intoR c t.d)
  else if t.op = 9 then fetchY c t.a 9 ++ [pY 24 (fetchR c t.a 9) 0 0]
  else if t.op = 10 then [jY 21 12 t.base (-1)]
  else []
def endY (c : Cx) (b : Bk) (next : Int) : List Sy :=
  if b.e = 1 then (if b.to = next then [] else [jY 18 0 c.fn b.to])
  else if b.e = 2 then
    (if b.to = next then fetchY c b.v 9 ++ [jY 19 (fetchR c b.v 9) c.fn b.el]
     else fetchY c b.v 9 ++ [jY 20 (fetchR c b.v 9) c.fn b.to] ++ (if b.el = next then [] else [jY 18 0 c.fn b.el]))
  else if b.e = 3 then
    (if (c.fn : Int) = (c.b.funcs.length : Int) - 1 then [pY 26 0 0 0] else [pY 16 12 0 (c.back + c.fn), pY 22 12 0 0])
  else []
def blkY (c : Cx) (b : Bk) (next : Int) : List Sy := b.ins.flatMap (insY c) ++ endY c b next
def blksY (c : Cx) : Nat → List Bk → List Sy
  | _, [] => []
  | j, b :: l => blkY c b (j + 1 : Nat) ++ blksY c (j + 1) l
theorem blksY_snoc (c : Cx) (b : Bk) : ∀ (l : List Bk) (j : Nat), blksY c j (l ++ [b]) = blksY c j l ++ blkY c b (j + l.length + 1 : Nat)
  | [], j => by simp [blksY]
  | x :: l, j => by
    simp only [List.cons_append, blksY, blksY_snoc c b l, List.length_cons, List.append_assoc]
    rw [show j + 1 + l.length + 1 = j + (l.length + 1) + 1 by omega]
def zeroY (c : Cx) (row : List Bool) (v : Nat) : List Sy := if gB row v = true then (if 0 < c.p v then [pY 1 (c.p v) 0 0] else keepY c v 0) else []
def zerosY (c : Cx) (row : List Bool) (n : Nat) : List Sy := (List.range n).flatMap (zeroY c row)
theorem zerosY_succ (c : Cx) (row : List Bool) (n : Nat) : zerosY c row (n + 1) = zerosY c row n ++ zeroY c row n := by simp [zerosY, List.range_succ]
def headY (c : Cx) (row : List Bool) : List Sy := (if (c.fn : Int) = (c.b.funcs.length : Int) - 1 then [] else [pY 17 12 0 (c.back + c.fn)]) ++ zerosY c row row.length
def funY (c : Cx) (row : List Bool) (f : BF) : List Sy := headY c row ++ blksY c 0 f.bks
structure CxOk (c : Cx) : Prop where
  fl : c.fn < c.b.funcs.length
  fs : c.b.funcs.length ≤ 20
  wl : c.ws.length = c.b.funcs.length
  wv : ∀ i < c.ws.length, 0 ≤ gP c.ws i ∧ gP c.ws i ≤ 100000
  bk : 0 ≤ c.back ∧ c.back ≤ 100000
  pl : c.pl.length ≤ 4000
  pv : ∀ v < c.pl.length, (1 ≤ gP c.pl v ∧ gP c.pl v ≤ 8) ∨ (-4000 ≤ gP c.pl v ∧ gP c.pl v ≤ -1)
theorem CxOk.p {c : Cx} (h : CxOk c) {v : Int} (h0 : 0 ≤ v) (h1 : v < c.pl.length) : (1 ≤ c.p v ∧ c.p v ≤ 8) ∨ (-4000 ≤ c.p v ∧ c.p v ≤ -1) := h.pv _ (by omega)
theorem CxOk.own {c : Cx} (h : CxOk c) {p : Int} (hp : -4000 ≤ p ∧ p ≤ 8) : -10 ≤ c.own p ∧ c.own p ≤ 110000 := by
  have := h.wv c.fn (by rw [h.wl]; exact h.fl)
  unfold Cx.own; omega
end Go.Proofs.Ytkbhfokbhkmfgaa
namespace Go.Proofs.Ytkbhfokbhkmfgaa
set_option linter.unusedSimpArgs false
set_option linter.unusedVariables false
set_option maxRecDepth 10000
open Go.V
abbrev ciL (i : Ci) : List AV := [I i.op, I i.a, I i.b, I i.c]
abbrev spL (s : Sp) : List AV := [I s.1, I s.2.1, I s.2.2]
structure WI where
  kW : Nat
  sW : Nat
  kE : Nat
  sE : Nat
  kB : Nat
  sB : Nat
  kD : Nat
  sD : Nat
abbrev wrL (b : BP) (back fn : Int) (plv : AV) (q : WI) (cv pv : AV) : List AV :=
  [I b.words, .imm 2 (b.funcs.map bfA), cv, pv, .ref q.kE q.sE 0 b.funcs.length, .ref q.kB q.sB 0 b.funcs.length, .ref q.kD q.sD 0 b.funcs.length, I back, I fn, plv]
def CV (H : List VObj) (ty sz : Nat) (cv : AV) (cs : List AV) (n : Nat) : Prop := ∃ k s, cv = .ref k s 0 n ∧ H[k]? = some ⟨s, ty, sz, cs⟩
structure WH (b : BP) (ws : List Int) (back fn : Int) (plv : AV) (q : WI) (H : List VObj) (code : List Ci) (sp : List Sp) (en : List Int) (bl : List AV) : Prop where
  w : ∃ cv pv, H[q.kW]? = some ⟨q.sW, 75, 1, wrL b back fn plv q cv pv⟩ ∧ CV H 115 4 cv (code.map ciL).flatten code.length ∧ CV H 113 3 pv (sp.map spL).flatten sp.length
  e : H[q.kE]? = some ⟨q.sE, 3, 1, en.map I⟩
  b : H[q.kB]? = some ⟨q.sB, 53, 1, bl⟩
  d : H[q.kD]? = some ⟨q.sD, 3, 1, ws.map I⟩
abbrev wT : List Nat := [75, 115, 113]
theorem CV.keep {H H' : List VObj} {ty sz : Nat} {cv : AV} {cs : List AV} {n : Nat} {ts : List Nat} (h : CV H ty sz cv cs n) (k : KeepT ts H H') (ht : ty ∉ ts) : CV H' ty sz cv cs n := by
  obtain ⟨i, s, h1, h2⟩ := h
  exact ⟨i, s, h1, k _ _ h2 ht⟩
theorem CV.one {H : List VObj} {ty sz : Nat} {cv : AV} {cs : List AV} {n : Nat} (h : CV H ty sz cv cs n) : cv.one = true := by
  obtain ⟨_, _, h, _⟩ := h; rw [h]; rfl
theorem sz_flat {α : Type} (f : α → List AV) (n : Nat) (hf : ∀ a, (f a).length = n) : ∀ l : List α, (l.map f).flatten.length = l.length * n
  | [] => by simp
  | a :: l => by simp only [List.map_cons, List.flatten_cons, List.length_append, hf, sz_flat f n hf l, List.length_cons]; rw [Nat.add_mul]; omega
theorem ap_old {H : List VObj} {k : Nat} {a : VObj} (h : H[k]? = some a) (R : List VObj) : (H ++ R)[k]? = some a := by rw [List.getElem?_append_left (List.getElem?_eq_some_iff.1 h).1]; exact h
theorem ap_new (H : List VObj) (x y : VObj) : (H ++ [x] ++ [y])[H.length + 1]? = some y := by rw [List.getElem?_append_right (by simp)]; simp
theorem grow_old {H : List VObj} {kW k : Nat} {w w' x y z : VObj} (hw : H[kW]? = some w) (hk : H[k]? = some z) (hn : k ≠ kW) {ts : List Nat} (ht : w.ty ∈ ts) (hz : z.ty ∈ ts) :
    (((H ++ [x]).set k y).set kW w')[kW]? = some w' ∧ (((H ++ [x]).set k y).set kW w')[k]? = some y ∧ KeepT ts H (((H ++ [x]).set k y).set kW w') := by
  have h1 : (H ++ [x])[k]? = some z := ap_old hk _
  have h2 : ((H ++ [x]).set k y)[kW]? = some w := by rw [set_ne hn]; exact ap_old hw _
  refine ⟨set_get h2, ?_, ((KeepT.app _ _ _).trans (KeepT.set h1 hz)).trans (KeepT.set h2 ht)⟩
  rw [set_ne (fun e => hn e.symm)]; exact set_get h1
theorem WH.grown {b : BP} {ws : List Int} {back fn : Int} {plv : AV} {q : WI} {H H' : List VObj} {code code' : List Ci} {sp sp' : List Sp} {en : List Int} {bl : List AV} (h : WH b ws back fn plv q H code sp en bl) {cv pv : AV} {ts : List Nat}
    (hw : H'[q.kW]? = some ⟨q.sW, 75, 1, wrL b back fn plv q cv pv⟩) (hc : CV H' 115 4 cv (code'.map ciL).flatten code'.length) (hp : CV H' 113 3 pv (sp'.map spL).flatten sp'.length)
    (k : KeepT ts H H') (h1 : 3 ∉ ts) (h2 : 53 ∉ ts) : WH b ws back fn plv q H' code' sp' en bl :=
  ⟨⟨_, _, hw, hc, hp⟩, k _ _ h.e h1, k _ _ h.b h2, k _ _ h.d h1⟩
theorem CV.at {H : List VObj} {ty sz k s n : Nat} {cs : List AV} (h : H[k]? = some ⟨s, ty, sz, cs⟩) : CV H ty sz (.ref k s 0 n) cs n := ⟨k, s, rfl, h⟩
theorem put_v {b : BP} {ws : List Int} {back fn : Int} {plv : AV} {q : WI} {H : List VObj} {code : List Ci} {sp : List Sp} {en : List Int} {bl : List AV} (hp1 : plv.one = true) (h : WH b ws back fn plv q H code sp en bl) (nx : Nat) (op a bb c : Int) (hl : code.length ≤ 1000000)
    (C : AV → List VObj → Nat → Prop) (hC : ∀ r H' nx', WH b ws back fn plv q H' (code ++ [⟨op, a, bb, c⟩]) sp en bl → KeepT wT H H' → C r H' nx') :
    VCall Try.prog 50 [.ptr q.kW q.sW 0, I op, I a, I bb, I c] H nx C := by
  refine VCall.of_body hmix f_choose_writer_put (by simp) ?_
  have hmx : (200000000 : Nat) ≤ maxLen := by decide
  obtain ⟨cv, pv, hw, hc, hp⟩ := h.w
  have l1 := lt_of hw
  have n1 := ne_len hw
  have n2 := ne_len' hw
  obtain ⟨k, s, rfl, hk⟩ := hc
  have e1 := ty_ne hk hw (by simp)
  have e2 := ty_ne hw hk (by simp)
  have l2 := lt_of hk
  simp only [go_sem, Nat.reduceEqDiff, Nat.reduceAdd, Nat.reduceMul, ↓reduceIte, reduceCtorEq, Nat.reduceLeDiff, c_choose_writer_put, hw, hk, l1, l2, e1, List.getElem?_set, List.getElem?_append, Nat.lt_irrefl, Nat.sub_self, List.length_cons, List.length_nil, ↓reduceIte, List.getElem?_cons_zero]
  refine ⟨by omega, by omega, ?_⟩
  have e : List.take (code.length * 4) (code.map ciL).flatten ++ [I op, I a, I bb, I c] = ((code ++ [(⟨op, a, bb, c⟩ : Ci)]).map ciL).flatten := by
    rw [List.take_of_length_le (by rw [sz_flat _ 4 (fun _ => rfl)]; exact Nat.le_refl _), List.map_append, List.flatten_append]; rfl
  rw [e]
  obtain ⟨g1, g2, g3⟩ := grow_old (ts := [75, 115]) (x := ⟨nx, 115, 4, [I op, I a, I bb, I c]⟩) (y := ⟨nx + 1, 115, 4, ((code ++ [(⟨op, a, bb, c⟩ : Ci)]).map ciL).flatten⟩) (w' := ⟨q.sW, 75, 1, wrL b back fn plv q (.ref k (nx + 1) 0 (code.length + 1)) pv⟩) hw hk (by simpa using e1) (by simp) (by simp)
  exact hC _ _ _ (h.grown (code' := code ++ [⟨op, a, bb, c⟩]) g1 (by rw [List.length_append]; exact CV.at g2) (hp.keep g3 (by simp)) g3 (by simp) (by simp)) (g3.mono (by simp))
theorem jump_v {b : BP} {ws : List Int} {back fn : Int} {plv : AV} {q : WI} {H : List VObj} {code : List Ci} {sp : List Sp} {en : List Int} {bl : List AV} (hp1 : plv.one = true) (h : WH b ws back fn plv q H code sp en bl) (nx : Nat) (op a f to : Int) (hl : code.length ≤ 1000000) (hsl : sp.length ≤ 1000000)
    (C : AV → List VObj → Nat → Prop) (hC : ∀ r H' nx', WH b ws back fn plv q H' (code ++ [⟨op, a, 0, 0⟩]) (sp ++ [((code.length : Int), f, to)]) en bl → KeepT wT H H' → C r H' nx') :
    VCall Try.prog 75 [.ptr q.kW q.sW 0, I op, I a, I f, I to] H nx C := by
  refine VCall.of_body hmix f_choose_writer_jump (by simp) ?_
  have hmx : (200000000 : Nat) ≤ maxLen := by decide
  obtain ⟨cv, pv, hw, hc, hp⟩ := h.w
  have l1 := lt_of hw
  have n1 := ne_len hw
  have n2 := ne_len' hw
  have main : ∀ H' nx' (C' : AV → List VObj → Nat → Prop), WH b ws back fn plv q H' code (sp ++ [((code.length : Int), f, to)]) en bl → KeepT wT H H' →
      (∀ r H2 nx2, WH b ws back fn plv q H2 (code ++ [⟨op, a, 0, 0⟩]) (sp ++ [((code.length : Int), f, to)]) en bl → KeepT wT H H2 → C' r H2 nx2) →
      VCall Try.prog 50 [.ptr q.kW q.sW 0, I op, I a, I 0, I 0] H' nx' C' := fun H' nx' C' h' k' hh =>
    put_v hp1 h' nx' op a 0 0 hl C' fun r H2 nx2 h2 k2 => hh r H2 nx2 h2 (k'.trans k2)
  obtain ⟨k, s, rfl, hk⟩ := hp
  have e1 := ty_ne hk hw (by simp)
  have e2 := ty_ne hw hk (by simp)
  have l2 := lt_of hk
  have e : List.take (sp.length * 3) (sp.map spL).flatten ++ [I (code.length : Int), I f, I to] = ((sp ++ [((code.length : Int), f, to)]).map spL).flatten := by
    rw [List.take_of_length_le (by rw [sz_flat _ 3 (fun _ => rfl)]; exact Nat.le_refl _), List.map_append, List.flatten_append]; rfl
  have old : ∀ cv', H[q.kW]? = some ⟨q.sW, 75, 1, wrL b back fn plv q cv' (.ref k s 0 sp.length)⟩ → CV H 115 4 cv' (code.map ciL).flatten code.length → ∀ (x y : VObj) s', y = ⟨s', 113, 3, ((sp ++ [((code.length : Int), f, to)]).map spL).flatten⟩ →
      WH b ws back fn plv q (((H ++ [x]).set k y).set q.kW ⟨q.sW, 75, 1, wrL b back fn plv q cv' (.ref k s' 0 (sp.length + 1))⟩) code (sp ++ [((code.length : Int), f, to)]) en bl ∧ KeepT wT H (((H ++ [x]).set k y).set q.kW ⟨q.sW, 75, 1, wrL b back fn plv q cv' (.ref k s' 0 (sp.length + 1))⟩) := fun cv' hw' hc' x y s' hy => by
    subst hy
    obtain ⟨g1, g2, g3⟩ := grow_old (ts := [75, 113]) (x := x) (y := ⟨s', 113, 3, ((sp ++ [((code.length : Int), f, to)]).map spL).flatten⟩) (w' := ⟨q.sW, 75, 1, wrL b back fn plv q cv' (.ref k s' 0 (sp.length + 1))⟩) hw' hk (by simpa using e1) (by simp) (by simp)
    exact ⟨h.grown (sp' := sp ++ [((code.length : Int), f, to)]) g1 (hc'.keep g3 (by simp)) (by rw [List.length_append]; exact CV.at g2) g3 (by simp) (by simp), g3.mono (by simp)⟩
  obtain ⟨k2, s2, rfl, hk2⟩ := hc
  simp only [go_sem, Nat.reduceEqDiff, Nat.reduceAdd, Nat.reduceMul, ↓reduceIte, ↓dreduceIte, reduceCtorEq, Nat.reduceLeDiff, c_choose_writer_jump, hw, hk, hk2, l1, l2, e1, List.getElem?_set, List.getElem?_append, Nat.lt_irrefl, Nat.sub_self, List.length_cons, List.length_nil, ↓reduceIte, List.getElem?_cons_zero]
  refine ⟨by omega, by omega, ?_⟩
  obtain ⟨g1, g2⟩ := old _ hw (CV.at hk2) ⟨nx, 113, 3, [I (code.length : Int), I f, I to]⟩ ⟨nx + 1, 113, 3, List.take (sp.length * 3) (sp.map spL).flatten ++ [I (code.length : Int), I f, I to]⟩ (nx + 1) (by rw [← e])
  refine main _ _ _ g1 g2 fun r H2 nx2 h2 k2 => ?_
  simp only [go_sem]
  exact hC _ _ _ h2 k2
end Go.Proofs.Ytkbhfokbhkmfgaa
namespace Go.Proofs.Ytkbhfokbhkmfgaa
set_option linter.unusedSimpArgs false
set_option linter.unusedVariables false
set_option maxRecDepth 10000
open Go.V
abbrev WC (c : Cx) (q : WI) (H : List VObj) (l : List Sy) (en : List Int) (bl : List AV) : Prop := WH c.b c.ws c.back c.fn (ints c.pl) q H (l.map (·.1)) (spotL 0 l) en bl
section
variable {c : Cx} {q : WI} {H : List VObj} {l : List Sy} {en : List Int} {bl : List AV}
theorem putY_v (h : WC c q H l en bl) (hl : l.length ≤ 1000000) (nx : Nat) (op a b d : Int) (C : AV → List VObj → Nat → Prop)
    (hC : ∀ r H' nx', WC c q H' (l ++ [pY op a b d]) en bl → KeepT wT H H' → C r H' nx') : VCall Try.prog 50 [.ptr q.kW q.sW 0, I op, I a, I b, I d] H nx C :=
  put_v rfl h nx op a b d (by simpa using hl) C fun r H' nx' h1 h2 => hC r H' nx' (by
    unfold WC
    rw [spotL_append, List.map_append]
    simpa [pY, spotL] using h1) h2
theorem jumpY_v (h : WC c q H l en bl) (hl : l.length ≤ 1000000) (nx : Nat) (op a fn to : Int) (C : AV → List VObj → Nat → Prop)
    (hC : ∀ r H' nx', WC c q H' (l ++ [jY op a fn to]) en bl → KeepT wT H H' → C r H' nx') : VCall Try.prog 75 [.ptr q.kW q.sW 0, I op, I a, I fn, I to] H nx C :=
  jump_v rfl h nx op a fn to (by simpa using hl) (by have := spotL_len l 0; omega) C fun r H' nx' h1 h2 => hC r H' nx' (by
    unfold WC
    rw [spotL_append, List.map_append]
    simpa [jY, spotL] using h1) h2
theorem p_nat (c : Cx) (v : Nat) : c.p (v : Int) = gP c.pl v := by simp [Cx.p]
theorem own_v (h : WC c q H l en bl) (hk : CxOk c) (nx : Nat) {p : Int} (hp : -4000 ≤ p ∧ p ≤ 8) (C : AV → List VObj → Nat → Prop) (hC : ∀ nx', C (I (c.own p)) H nx') :
    VCall Try.prog 70 [.ptr q.kW q.sW 0, I p] H nx C := by
  refine VCall.of_body hmix f_choose_writer_own (by simp) ?_
  obtain ⟨cv, pv, hw, hc, hp'⟩ := h.w
  have hd := h.d
  have hwv := hk.wv c.fn (by rw [hk.wl]; exact hk.fl)
  have hfl := hk.fl
  have hwl := hk.wl
  have h20 := hk.fs
  have e : c.own p = gP c.ws c.fn - p - 1 := rfl
  have w1 : IntKind.i64.wrap (gP c.ws c.fn - p) = gP c.ws c.fn - p := i64_in (by omega) (by omega)
  have w2 : IntKind.i64.wrap (gP c.ws c.fn - p - 1) = c.own p := by rw [i64_in (by omega) (by omega), e]
  have g : c.ws.getD c.fn default = gP c.ws c.fn := rfl
  simp only [go_sem, Nat.reduceEqDiff, Nat.reduceAdd, ↓reduceIte, reduceCtorEq, Nat.reduceLeDiff, c_choose_writer_own, hw, hd, g, w1, w2]
  repeat ((with_reducible refine And.intro ?_ ?_); · first | omega | (simp; omega))
  exact hC _
theorem fetch_v (h : WC c q H l en bl) (hk : CxOk c) (hl : l.length ≤ 900000) (nx : Nat) {v : Int} (spare : Int) (hv : 0 ≤ v ∧ v < c.pl.length) (C : AV → List VObj → Nat → Prop)
    (hC : ∀ H' nx', WC c q H' (l ++ fetchY c v spare) en bl → KeepT wT H H' → C (I (fetchR c v spare)) H' nx') : VCall Try.prog 71 [.ptr q.kW q.sW 0, I v, I spare] H nx C := by
  refine VCall.of_body hmix f_choose_writer_fetch (by simp) ?_
  obtain ⟨n, rfl⟩ := Int.eq_ofNat_of_zero_le hv.1
  obtain ⟨cv, pv, hw, hc, hp⟩ := h.w
  have h40 := hk.pl
  have hpp := hk.pv n (by omega)
  have g : c.pl.getD n default = gP c.pl n := rfl
  unfold fetchY fetchR at hC
  rw [p_nat] at hC
  by_cases h1 : 0 < gP c.pl n
  · rw [if_pos h1, if_pos h1, List.append_nil] at hC
    simp only [go_sem, Nat.reduceEqDiff, Nat.reduceAdd, ↓reduceIte, reduceCtorEq, c_choose_writer_fetch, hw, g, eq_true h1]
    repeat ((with_reducible refine And.intro ?_ ?_); · first | omega | (simp; omega))
    exact hC _ _ h (KeepT.refl _ _)
  · rw [if_neg h1, if_neg h1] at hC
    simp only [go_sem, Nat.reduceEqDiff, Nat.reduceAdd, ↓reduceIte, ↓dreduceIte, reduceCtorEq, c_choose_writer_fetch, hw, g, eq_false h1]
    repeat ((with_reducible refine And.intro ?_ ?_); · first | omega | (simp; omega))
    refine own_v h hk _ (by omega) _ fun nx' => ?_
    simp only [go_sem, Nat.reduceEqDiff, ↓reduceIte]
    refine putY_v h (by omega) _ _ _ _ _ _ fun r H' nx' h2 k2 => ?_
    simp only [go_sem, Nat.reduceEqDiff, ↓reduceIte, reduceCtorEq]
    exact hC _ _ h2 k2
theorem into_v (h : WC c q H l en bl) (hk : CxOk c) (nx : Nat) {v : Int} (hv : 0 ≤ v ∧ v < c.pl.length) (C : AV → List VObj → Nat → Prop)
    (hC : ∀ nx', C (I (intoR c v)) H nx') : VCall Try.prog 74 [.ptr q.kW q.sW 0, I v] H nx C := by
  refine VCall.of_body hmix f_choose_writer_into (by simp) ?_
  obtain ⟨n, rfl⟩ := Int.eq_ofNat_of_zero_le hv.1
  obtain ⟨cv, pv, hw, hc, hp⟩ := h.w
  have h40 := hk.pl
  have g : c.pl.getD n default = gP c.pl n := rfl
  unfold intoR at hC
  rw [p_nat] at hC
  by_cases h1 : 0 < gP c.pl n
  · rw [if_pos h1] at hC
    simp only [go_sem, Nat.reduceEqDiff, Nat.reduceAdd, ↓reduceIte, reduceCtorEq, c_choose_writer_into, hw, g, eq_true h1]
    repeat ((with_reducible refine And.intro ?_ ?_); · first | omega | (simp; omega))
    exact hC _
  · rw [if_neg h1] at hC
    simp only [go_sem, Nat.reduceEqDiff, Nat.reduceAdd, ↓reduceIte, reduceCtorEq, c_choose_writer_into, hw, g, eq_false h1]
    repeat ((with_reducible refine And.intro ?_ ?_); · first | omega | (simp; omega))
    exact hC _
theorem keep_v (h : WC c q H l en bl) (hk : CxOk c) (hl : l.length ≤ 900000) (nx : Nat) {v : Int} (r : Int) (hv : 0 ≤ v ∧ v < c.pl.length) (C : AV → List VObj → Nat → Prop)
    (hC : ∀ x H' nx', WC c q H' (l ++ keepY c v r) en bl → KeepT wT H H' → C x H' nx') : VCall Try.prog 51 [.ptr q.kW q.sW 0, I v, I r] H nx C := by
  refine VCall.of_body hmix f_choose_writer_keep (by simp) ?_
  obtain ⟨n, rfl⟩ := Int.eq_ofNat_of_zero_le hv.1
  obtain ⟨cv, pv, hw, hc, hp⟩ := h.w
  have h40 := hk.pl
  have hpp := hk.pv n (by omega)
  have g : c.pl.getD n default = gP c.pl n := rfl
  unfold keepY at hC
  rw [p_nat] at hC
  by_cases h1 : gP c.pl n < 0
  · rw [if_pos h1] at hC
    simp only [go_sem, Nat.reduceEqDiff, Nat.reduceAdd, ↓reduceIte, ↓dreduceIte, reduceCtorEq, c_choose_writer_keep, hw, g, eq_true h1]
    repeat ((with_reducible refine And.intro ?_ ?_); · first | omega | (simp; omega))
    refine own_v h hk _ (by omega) _ fun nx' => ?_
    simp only [go_sem, Nat.reduceEqDiff, ↓reduceIte]
    refine putY_v h (by omega) _ _ _ _ _ _ fun r H' nx' h2 k2 => ?_
    simp only [go_sem]
    exact hC _ _ _ h2 k2
  · rw [if_neg h1, List.append_nil] at hC
    simp only [go_sem, Nat.reduceEqDiff, Nat.reduceAdd, ↓reduceIte, reduceCtorEq, c_choose_writer_keep, hw, g, eq_false h1]
    repeat ((with_reducible refine And.intro ?_ ?_); · first | omega | (simp; omega))
    exact hC _ _ _ h (KeepT.refl _ _)
end
end Go.Proofs.Ytkbhfokbhkmfgaa
namespace Go.Proofs.Ytkbhfokbhkmfgaa
set_option linter.unusedSimpArgs false
set_option linter.unusedVariables false
open Go.V
def In32 (n : Int) : Prop := 0 ≤ n ∧ n < 4294967296
theorem w32_in {n : Int} (h : In32 n) : IntKind.u32.wrap n = n := by
  rw [IntKind.wrap_u32]; have := h.1; have := h.2; omega
theorem bv32 {a : Int} (h : In32 a) : (BitVec.ofInt IntKind.u32.bits a).toNat = a.toNat := by
  show (BitVec.ofInt 32 a).toNat = a.toNat
  rw [BitVec.toNat_ofInt]
  obtain ⟨h1, h2⟩ := h
  omega
theorem andW_eq {a b : Int} (ha : In32 a) (hb : In32 b) : andW a b = ((a.toNat &&& b.toNat : Nat) : Int) := by
  unfold andW
  rw [BitVec.toNat_and, bv32 ha, bv32 hb]
  refine w32_in ⟨by omega, ?_⟩
  have := Nat.and_lt_two_pow (n := 32) a.toNat (y := b.toNat) (by have := hb.2; have := hb.1; omega)
  omega
theorem orW_eq {a b : Int} (ha : In32 a) (hb : In32 b) : orW a b = ((a.toNat ||| b.toNat : Nat) : Int) := by
  unfold orW
  rw [BitVec.toNat_or, bv32 ha, bv32 hb]
  refine w32_in ⟨by omega, ?_⟩
  have := Nat.or_lt_two_pow (n := 32) (x := a.toNat) (y := b.toNat) (by have := ha.2; have := ha.1; omega) (by have := hb.2; have := hb.1; omega)
  omega
theorem andW_mask {a : Int} (ha : In32 a) (k : Nat) (hk : k ≤ 32) : andW a ((2 ^ k - 1 : Nat) : Int) = a % 2 ^ k := by
  have hp : 2 ^ k ≤ 2 ^ 32 := Nat.pow_le_pow_right (by omega) hk
  have hp0 : 0 < 2 ^ k := Nat.two_pow_pos k
  rw [andW_eq ha ⟨by omega, by omega⟩, Int.toNat_natCast, Nat.and_two_pow_sub_one_eq_mod]
  have := ha.1
  rw [show a = ((a.toNat : Nat) : Int) by omega]
  simp
end Go.Proofs.Ytkbhfokbhkmfgaa
namespace Go.Proofs.Ytkbhfokbhkmfgaa
set_option linter.unusedSimpArgs false
set_option linter.unusedVariables false
set_option maxRecDepth 10000
open Go.V
section
variable {c : Cx} {q : WI} {H : List VObj} {l : List Sy} {en : List Int} {bl : List AV}
theorem fetchY_len (c : Cx) (v s : Int) : (fetchY c v s).length ≤ 1 := by unfold fetchY; split <;> simp
theorem keepY_len (c : Cx) (v r : Int) : (keepY c v r).length ≤ 1 := by unfold keepY; split <;> simp
theorem constant_v (h : WC c q H l en bl) (hk : CxOk c) (hl : l.length ≤ 800000) (nx : Nat) {v n : Int} (hv : 0 ≤ v ∧ v < c.pl.length) (hn : In32 n) (C : AV → List VObj → Nat → Prop)
    (hC : ∀ x H' nx', WC c q H' (l ++ constY c v n) en bl → KeepT wT H H' → C x H' nx') : VCall Try.prog 72 [.ptr q.kW q.sW 0, I v, U32 n] H nx C := by
  refine VCall.of_body hmix f_choose_writer_constant (by simp) ?_
  obtain ⟨h0, h1⟩ := hn
  obtain ⟨k, rfl⟩ := Int.eq_ofNat_of_zero_le hv.1
  obtain ⟨cv, pv, hw, hc, hp⟩ := h.w
  have h40 := hk.pl
  have hpp := hk.pv k (by omega)
  have g : c.pl.getD k default = gP c.pl k := rfl
  have m65 : IntKind.u32.wrap (((BitVec.ofInt 32 n &&& BitVec.ofInt 32 65535).toNat : Nat) : Int) = n % 65536 := andW_mask ⟨h0, h1⟩ 16 (by omega)
  have e16 : n.fdiv (2 ^ min 16 32) = n / 65536 := Int.fdiv_eq_ediv_of_nonneg n (show (0 : Int) ≤ 65536 by omega)
  have e1 : IntKind.i64.wrap (n % 65536) = n % 65536 := i64_in (by omega) (by omega)
  have e2 : IntKind.i64.wrap (n / 65536) = n / 65536 := i64_in (by omega) (by omega)
  have m65c : IntKind.i64.wrap (IntKind.u32.wrap (((BitVec.ofInt 32 n &&& BitVec.ofInt 32 65535).toNat : Nat) : Int)) = n % 65536 := by rw [m65, e1]
  have rest : ∀ (H' : List VObj) (nx' : Nat) (l' : List Sy) (C' : AV → List VObj → Nat → Prop), WC c q H' l' en bl → l'.length ≤ 900000 → KeepT wT H H' → l' ++ keepY c k (intoR c k) = l ++ constY c k n →
      (∀ x H2 nx2, WC c q H2 (l ++ constY c k n) en bl → KeepT wT H H2 → C' x H2 nx2) → VCall Try.prog 51 [.ptr q.kW q.sW 0, I (k : Int), I (intoR c k)] H' nx' C' := fun H' nx' l' C' h' hl' kp e hh =>
    keep_v h' hk hl' nx' _ hv C' fun x H2 nx2 h2 k2 => hh x H2 nx2 (by rw [← e]; exact h2) (kp.trans k2)
  have key : ¬ (n = 0 ∧ gP c.pl k < 0) → constY c k n = pY 1 (intoR c k) 0 (n % 65536) :: ((if n / 65536 = 0 then [] else [pY 2 (intoR c k) 0 (n / 65536)]) ++ keepY c k (intoR c k)) := fun hh => by
    unfold constY; rw [p_nat, if_neg hh]
  have main : ¬ (n = 0 ∧ gP c.pl k < 0) → ∀ nx', VCall Try.prog 50 [.ptr q.kW q.sW 0, I 1, I (intoR c k), I 0, I (n % 65536)] H nx' fun _ H' nx' =>
      WC c q H' (l ++ [pY 1 (intoR c k) 0 (n % 65536)]) en bl ∧ KeepT wT H H' := fun _ nx' => putY_v h (by omega) nx' _ _ _ _ _ fun r H' nx'' h2 k2 => ⟨h2, k2⟩
  by_cases z : n = 0
  · by_cases p0 : gP c.pl k < 0
    · simp only [go_sem, Nat.reduceEqDiff, Nat.reduceAdd, ↓reduceIte, ↓dreduceIte, reduceCtorEq, c_choose_writer_constant, hw, g, eq_true z, eq_true p0]
      repeat ((with_reducible refine And.intro ?_ ?_); · first | omega | (simp; omega))
      refine keep_v h hk (by omega) _ 0 hv _ fun x H' nx' h2 k2 => ?_
      simp only [go_sem]
      exact hC _ _ _ (by unfold constY; rw [p_nat, if_pos ⟨z, p0⟩]; exact h2) k2
    · have hkey := key fun e => p0 e.2
      have z16 : n / 65536 = 0 := by omega
      rw [if_pos z16] at hkey
      simp only [go_sem, Nat.reduceEqDiff, Nat.reduceAdd, ↓reduceIte, ↓dreduceIte, reduceCtorEq, c_choose_writer_constant, hw, g, eq_true z, eq_false p0]
      repeat ((with_reducible refine And.intro ?_ ?_); · first | omega | (simp; omega))
      refine into_v h hk _ hv _ fun nx' => ?_
      simp only [go_sem, Nat.reduceEqDiff, ↓reduceIte, ↓dreduceIte, reduceCtorEq]
      refine putY_v h (by omega) _ _ _ _ _ _ fun r H' nx' h2 k2 => ?_
      simp only [go_sem, Nat.reduceEqDiff, ↓reduceIte, ↓dreduceIte, reduceCtorEq, Int.reduceToNat, Int.reduceLE, e16, z16, bne_self_eq_false]
      have e3 : ∀ x, x = n % 65536 → l ++ [pY 1 (intoR c k) 0 x] ++ keepY c k (intoR c k) = l ++ constY c k n := by rintro _ rfl; rw [hkey]; simp
      refine rest _ _ _ _ h2 (by simp; omega) k2 (e3 _ m65c) fun x H4 nx4 h4 k4 => ?_
      simp only [go_sem]
      exact hC _ _ _ h4 k4
  · have hkey := key fun e => z e.1
    by_cases z16 : n / 65536 = 0
    · rw [if_pos z16] at hkey
      simp only [go_sem, Nat.reduceEqDiff, Nat.reduceAdd, ↓reduceIte, ↓dreduceIte, reduceCtorEq, c_choose_writer_constant, beq_false_of_ne z]
      repeat ((with_reducible refine And.intro ?_ ?_); · first | omega | (simp; omega))
      refine into_v h hk _ hv _ fun nx' => ?_
      simp only [go_sem, Nat.reduceEqDiff, ↓reduceIte, ↓dreduceIte, reduceCtorEq]
      refine putY_v h (by omega) _ _ _ _ _ _ fun r H' nx' h2 k2 => ?_
      simp only [go_sem, Nat.reduceEqDiff, ↓reduceIte, ↓dreduceIte, reduceCtorEq, Int.reduceToNat, Int.reduceLE, e16, z16, bne_self_eq_false]
      have e3 : ∀ x, x = n % 65536 → l ++ [pY 1 (intoR c k) 0 x] ++ keepY c k (intoR c k) = l ++ constY c k n := by rintro _ rfl; rw [hkey]; simp
      refine rest _ _ _ _ h2 (by simp; omega) k2 (e3 _ m65c) fun x H4 nx4 h4 k4 => ?_
      simp only [go_sem]
      exact hC _ _ _ h4 k4
    · rw [if_neg z16] at hkey
      simp only [go_sem, Nat.reduceEqDiff, Nat.reduceAdd, ↓reduceIte, ↓dreduceIte, reduceCtorEq, c_choose_writer_constant, beq_false_of_ne z]
      repeat ((with_reducible refine And.intro ?_ ?_); · first | omega | (simp; omega))
      refine into_v h hk _ hv _ fun nx' => ?_
      simp only [go_sem, Nat.reduceEqDiff, ↓reduceIte, ↓dreduceIte, reduceCtorEq]
      refine putY_v h (by omega) _ _ _ _ _ _ fun r H' nx' h2 k2 => ?_
      simp only [go_sem, Nat.reduceEqDiff, ↓reduceIte, ↓dreduceIte, reduceCtorEq, Int.reduceToNat, Int.reduceLE, e16, e2, eq_false z16]
      refine putY_v h2 (by simp; omega) _ _ _ _ _ _ fun r H2 nx2 h3 k3 => ?_
      simp only [go_sem, Nat.reduceEqDiff, ↓reduceIte, ↓dreduceIte, reduceCtorEq, e16, e2]
      have e3 : ∀ x y, x = n % 65536 → y = n / 65536 → l ++ [pY 1 (intoR c k) 0 x] ++ [pY 2 (intoR c k) 0 y] ++ keepY c k (intoR c k) = l ++ constY c k n := by rintro _ _ rfl rfl; rw [hkey]; simp
      refine rest _ _ _ _ h3 (by simp; omega) (k2.trans k3) (e3 _ _ m65c rfl) fun x H4 nx4 h4 k4 => ?_
      simp only [go_sem]
      exact hC _ _ _ h4 k4
theorem copied_v (h : WC c q H l en bl) (hk : CxOk c) (hl : l.length ≤ 800000) (nx : Nat) {d a : Int} (hd : 0 ≤ d ∧ d < c.pl.length) (ha : 0 ≤ a ∧ a < c.pl.length) (C : AV → List VObj → Nat → Prop)
    (hC : ∀ x H' nx', WC c q H' (l ++ copyY c d a) en bl → KeepT wT H H' → C x H' nx') : VCall Try.prog 73 [.ptr q.kW q.sW 0, I d, I a] H nx C := by
  refine VCall.of_body hmix f_choose_writer_copied (by simp) ?_
  obtain ⟨m, rfl⟩ := Int.eq_ofNat_of_zero_le hd.1
  obtain ⟨k, rfl⟩ := Int.eq_ofNat_of_zero_le ha.1
  obtain ⟨cv, pv, hw, hc, hp⟩ := h.w
  have h40 := hk.pl
  have g : ∀ k, c.pl.getD k default = gP c.pl k := fun _ => rfl
  have hfl := fetchY_len c k
  unfold copyY at hC
  rw [p_nat, p_nat] at hC
  by_cases e : gP c.pl m = gP c.pl k
  · rw [if_pos e, List.append_nil] at hC
    simp only [go_sem, Nat.reduceEqDiff, Nat.reduceAdd, ↓reduceIte, reduceCtorEq, c_choose_writer_copied, hw, g, eq_true e]
    repeat ((with_reducible refine And.intro ?_ ?_); · first | omega | (simp; omega))
    exact hC _ _ _ h (KeepT.refl _ _)
  rw [if_neg e] at hC
  by_cases p0 : 0 < gP c.pl m
  · rw [if_pos p0] at hC
    have hfl := hfl (gP c.pl m)
    simp only [go_sem, Nat.reduceEqDiff, Nat.reduceAdd, ↓reduceIte, ↓dreduceIte, reduceCtorEq, c_choose_writer_copied, hw, g, beq_false_of_ne e, eq_true p0]
    repeat ((with_reducible refine And.intro ?_ ?_); · first | omega | (simp; omega))
    refine fetch_v h hk (by omega) _ _ ha _ fun H' nx' h2 k2 => ?_
    by_cases e2 : fetchR c k (gP c.pl m) = gP c.pl m
    · rw [if_pos e2, List.append_nil] at hC
      simp only [go_sem, Nat.reduceEqDiff, ↓reduceIte, e2, bne_self_eq_false]
      exact hC _ _ _ h2 k2
    · rw [if_neg e2, ← List.append_assoc] at hC
      simp only [go_sem, Nat.reduceEqDiff, ↓reduceIte, ↓dreduceIte, reduceCtorEq, eq_false e2]
      refine putY_v h2 (by simp; omega) _ _ _ _ _ _ fun r H3 nx3 h3 k3 => ?_
      simp only [go_sem]
      exact hC _ _ _ h3 (k2.trans k3)
  · rw [if_neg p0, ← List.append_assoc] at hC
    have hfl := hfl 9
    simp only [go_sem, Nat.reduceEqDiff, Nat.reduceAdd, ↓reduceIte, ↓dreduceIte, reduceCtorEq, c_choose_writer_copied, hw, g, beq_false_of_ne e, eq_false p0]
    repeat ((with_reducible refine And.intro ?_ ?_); · first | omega | (simp; omega))
    refine fetch_v h hk (by omega) _ _ ha _ fun H' nx' h2 k2 => ?_
    simp only [go_sem, Nat.reduceEqDiff, ↓reduceIte]
    refine keep_v h2 hk (by simp; omega) _ _ hd _ fun r H3 nx3 h3 k3 => ?_
    simp only [go_sem]
    exact hC _ _ _ h3 (k2.trans k3)
end
end Go.Proofs.Ytkbhfokbhkmfgaa
namespace Go.Proofs.Ytkbhfokbhkmfgaa
set_option linter.unusedSimpArgs false
set_option linter.unusedVariables false
set_option maxRecDepth 10000
open Go.V
structure InsOk (c : Cx) (t : Tac) : Prop where
  o : 1 ≤ t.op ∧ t.op ≤ 10
  d : SetsT t → 0 ≤ t.d ∧ t.d < c.pl.length
  a : (t.op = 2 ∨ t.op = 3 ∨ t.op = 5 ∨ t.op = 6 ∨ t.op = 7 ∨ t.op = 9) → 0 ≤ t.a ∧ t.a < c.pl.length
  b : (t.op = 3 ∨ t.op = 7) → 0 ≤ t.b ∧ t.b < c.pl.length
  n : In32 t.n
section
variable {c : Cx} {q : WI} {H : List VObj} {l : List Sy} {en : List Int} {bl : List AV}
theorem WH.keep {b : BP} {ws : List Int} {back fn : Int} {plv : AV} {code : List Ci} {sp : List Sp} {H' : List VObj} (h : WH b ws back fn plv q H code sp en bl) (k : KeepT [] H H') : WH b ws back fn plv q H' code sp en bl := by
  obtain ⟨cv, pv, hw, hc, hp⟩ := h.w
  exact ⟨⟨cv, pv, k _ _ hw (by simp), hc.keep k (by simp), hp.keep k (by simp)⟩, k _ _ h.e (by simp), k _ _ h.b (by simp), k _ _ h.d (by simp)⟩
theorem instruction_v (h : WC c q H l en bl) (hk : CxOk c) (hl : l.length ≤ 700000) (nx : Nat) {t : Tac} (ht : InsOk c t) (C : AV → List VObj → Nat → Prop)
    (hC : ∀ x H' nx', WC c q H' (l ++ insY c t) en bl → KeepT wT H H' → C x H' nx') : VCall Try.prog 52 [.ptr q.kW q.sW 0, tacA t] H nx C := by
  refine VCall.of_body hmix f_choose_writer_instruction (by simp) ?_
  obtain ⟨op, d, a, b, k, base, size, n⟩ := t
  have ho := ht.o
  have hn := ht.n
  have hd := ht.d
  have ha := ht.a
  have hbb := ht.b
  simp only [SetsT] at ho hn hd ha hbb
  have hb : (H ++ [⟨nx, 47, 1, tacL ⟨op, d, a, b, k, base, size, n⟩⟩])[H.length]? = some ⟨nx, 47, 1, tacL ⟨op, d, a, b, k, base, size, n⟩⟩ := by simp
  have h1 : WC c q (H ++ [⟨nx, 47, 1, tacL ⟨op, d, a, b, k, base, size, n⟩⟩]) l en bl := h.keep (KeepT.app _ _ _)
  have fa := fetchY_len c a 9
  have fb := fetchY_len c b 10
  simp only [c_choose_writer_instruction]
  have hcs : op = 1 ∨ op = 2 ∨ op = 3 ∨ op = 4 ∨ op = 5 ∨ op = 6 ∨ op = 7 ∨ op = 8 ∨ op = 9 ∨ op = 10 := by omega
  rcases hcs with rfl | rfl | rfl | rfl | rfl | rfl | rfl | rfl | rfl | rfl
  · have e : insY c ⟨1, d, a, b, k, base, size, n⟩ = constY c d n := rfl
    replace hd := hd (by decide)
    simp only [go_sem, Nat.reduceEqDiff, Nat.reduceAdd, ↓reduceIte, ↓dreduceIte, reduceCtorEq, Nat.reduceLeDiff, List.getElem?_append, Nat.lt_irrefl, Nat.sub_self, List.length_cons, List.length_nil, ↓reduceIte, List.getElem?_cons_zero, Int.reduceBEq]
    all_goals
      refine constant_v h1 hk (by first | omega | (simp only [List.length_append, List.length_cons, List.length_nil]; omega)) _ hd hn _ fun r2 H2 nx2 h2 k2 => ?_
      have b2 := k2 _ _ hb (by simp)
      simp only [go_sem]
    all_goals
      exact hC _ _ _ (by rw [e]; simpa only [List.append_assoc, List.cons_append, List.nil_append] using h2) ((KeepT.app _ _ _).trans k2)
  · have e : insY c ⟨2, d, a, b, k, base, size, n⟩ = copyY c d a := rfl
    replace hd := hd (by decide)
    replace ha := ha (by decide)
    simp only [go_sem, Nat.reduceEqDiff, Nat.reduceAdd, ↓reduceIte, ↓dreduceIte, reduceCtorEq, Nat.reduceLeDiff, List.getElem?_append, Nat.lt_irrefl, Nat.sub_self, List.length_cons, List.length_nil, ↓reduceIte, List.getElem?_cons_zero, Int.reduceBEq]
    all_goals
      refine copied_v h1 hk (by first | omega | (simp only [List.length_append, List.length_cons, List.length_nil]; omega)) _ hd ha _ fun r2 H2 nx2 h2 k2 => ?_
      have b2 := k2 _ _ hb (by simp)
      simp only [go_sem]
    all_goals
      exact hC _ _ _ (by rw [e]; simpa only [List.append_assoc, List.cons_append, List.nil_append] using h2) ((KeepT.app _ _ _).trans k2)
  · have e : insY c ⟨3, d, a, b, k, base, size, n⟩ = fetchY c a 9 ++ fetchY c b 10 ++ [pY k (intoR c d) (fetchR c a 9) (fetchR c b 10)] ++ keepY c d (intoR c d) := rfl
    replace hd := hd (by decide)
    replace ha := ha (by decide)
    replace hbb := hbb (by decide)
    simp only [go_sem, Nat.reduceEqDiff, Nat.reduceAdd, ↓reduceIte, ↓dreduceIte, reduceCtorEq, Nat.reduceLeDiff, List.getElem?_append, Nat.lt_irrefl, Nat.sub_self, List.length_cons, List.length_nil, ↓reduceIte, List.getElem?_cons_zero, Int.reduceBEq]
    repeat' (with_reducible apply And.intro)
    all_goals
      refine fetch_v h1 hk (by first | omega | (simp only [List.length_append, List.length_cons, List.length_nil]; omega)) _ _ ha _ fun H2 nx2 h2 k2 => ?_
      have b2 := k2 _ _ hb (by simp)
      simp only [go_sem, Nat.reduceEqDiff, Nat.reduceAdd, ↓reduceIte, ↓dreduceIte, Nat.reduceLeDiff, List.length_cons, List.length_nil, ↓reduceIte, b2]
    repeat' (with_reducible apply And.intro)
    all_goals
      refine fetch_v h2 hk (by first | omega | (simp only [List.length_append]; omega)) _ _ hbb _ fun H3 nx3 h3 k3 => ?_
      have b3 := k3 _ _ b2 (by simp)
      simp only [go_sem, Nat.reduceEqDiff, Nat.reduceAdd, ↓reduceIte, ↓dreduceIte, Nat.reduceLeDiff, List.length_cons, List.length_nil, ↓reduceIte, b3]
    repeat' (with_reducible apply And.intro)
    all_goals
      refine into_v h3 hk _ hd _ fun nx4 => ?_
      simp only [go_sem, Nat.reduceEqDiff, Nat.reduceAdd, ↓reduceIte, ↓dreduceIte, reduceCtorEq, Nat.reduceLeDiff, List.length_cons, List.length_nil, ↓reduceIte, b3]
    repeat' (with_reducible apply And.intro)
    all_goals
      refine putY_v h3 (by first | omega | (simp only [List.length_append]; omega)) _ _ _ _ _ _ fun r5 H5 nx5 h5 k5 => ?_
      have b5 := k5 _ _ b3 (by simp)
      simp only [go_sem, Nat.reduceEqDiff, Nat.reduceAdd, ↓reduceIte, ↓dreduceIte, reduceCtorEq, Nat.reduceLeDiff, List.length_cons, List.length_nil, ↓reduceIte, b5]
    all_goals
      refine keep_v h5 hk (by first | omega | (simp only [List.length_append, List.length_cons, List.length_nil]; omega)) _ _ hd _ fun r6 H6 nx6 h6 k6 => ?_
      have b6 := k6 _ _ b5 (by simp)
      simp only [go_sem]
    all_goals
      exact hC _ _ _ (by rw [e]; simpa only [List.append_assoc, List.cons_append, List.nil_append] using h6) (((((KeepT.app _ _ _).trans k2).trans k3).trans k5).trans k6)
  · have e : insY c ⟨4, d, a, b, k, base, size, n⟩ = [pY 16 (intoR c d) 0 base] ++ keepY c d (intoR c d) := rfl
    replace hd := hd (by decide)
    simp only [go_sem, Nat.reduceEqDiff, Nat.reduceAdd, ↓reduceIte, ↓dreduceIte, reduceCtorEq, Nat.reduceLeDiff, List.getElem?_append, Nat.lt_irrefl, Nat.sub_self, List.length_cons, List.length_nil, ↓reduceIte, List.getElem?_cons_zero, Int.reduceBEq]
    all_goals
      refine into_v h1 hk _ hd _ fun nx2 => ?_
      simp only [go_sem, Nat.reduceEqDiff, Nat.reduceAdd, ↓reduceIte, ↓dreduceIte, reduceCtorEq, Nat.reduceLeDiff, List.length_cons, List.length_nil, ↓reduceIte, hb]
    all_goals
      refine putY_v h1 (by first | omega | (simp only [List.length_append, List.length_cons, List.length_nil]; omega)) _ _ _ _ _ _ fun r3 H3 nx3 h3 k3 => ?_
      have b3 := k3 _ _ hb (by simp)
      simp only [go_sem, Nat.reduceEqDiff, Nat.reduceAdd, ↓reduceIte, ↓dreduceIte, reduceCtorEq, Nat.reduceLeDiff, List.length_cons, List.length_nil, ↓reduceIte, b3]
    all_goals
      refine keep_v h3 hk (by first | omega | (simp only [List.length_append, List.length_cons, List.length_nil]; omega)) _ _ hd _ fun r4 H4 nx4 h4 k4 => ?_
      have b4 := k4 _ _ b3 (by simp)
      simp only [go_sem]
    all_goals
      exact hC _ _ _ (by rw [e]; simpa only [List.append_assoc, List.cons_append, List.nil_append] using h4) (((KeepT.app _ _ _).trans k3).trans k4)
  · have e : insY c ⟨5, d, a, b, k, base, size, n⟩ = fetchY c a 9 ++ [pY 17 (fetchR c a 9) 0 base] := rfl
    replace ha := ha (by decide)
    simp only [go_sem, Nat.reduceEqDiff, Nat.reduceAdd, ↓reduceIte, ↓dreduceIte, reduceCtorEq, Nat.reduceLeDiff, List.getElem?_append, Nat.lt_irrefl, Nat.sub_self, List.length_cons, List.length_nil, ↓reduceIte, List.getElem?_cons_zero, Int.reduceBEq]
    repeat' (with_reducible apply And.intro)
    all_goals
      refine fetch_v h1 hk (by first | omega | (simp only [List.length_append, List.length_cons, List.length_nil]; omega)) _ _ ha _ fun H2 nx2 h2 k2 => ?_
      have b2 := k2 _ _ hb (by simp)
      simp only [go_sem, Nat.reduceEqDiff, Nat.reduceAdd, ↓reduceIte, ↓dreduceIte, Nat.reduceLeDiff, List.length_cons, List.length_nil, ↓reduceIte, b2]
    repeat' (with_reducible apply And.intro)
    all_goals
      refine putY_v h2 (by first | omega | (simp only [List.length_append]; omega)) _ _ _ _ _ _ fun r3 H3 nx3 h3 k3 => ?_
      have b3 := k3 _ _ b2 (by simp)
      simp only [go_sem]
    all_goals
      exact hC _ _ _ (by rw [e]; simpa only [List.append_assoc, List.cons_append, List.nil_append] using h3) (((KeepT.app _ _ _).trans k2).trans k3)
  · have e : insY c ⟨6, d, a, b, k, base, size, n⟩ = fetchY c a 9 ++ [pY 25 (fetchR c a 9) 0 size] ++ [pY 16 (intoR c d) (fetchR c a 9) base] ++ keepY c d (intoR c d) := rfl
    replace hd := hd (by decide)
    replace ha := ha (by decide)
    simp only [go_sem, Nat.reduceEqDiff, Nat.reduceAdd, ↓reduceIte, ↓dreduceIte, reduceCtorEq, Nat.reduceLeDiff, List.getElem?_append, Nat.lt_irrefl, Nat.sub_self, List.length_cons, List.length_nil, ↓reduceIte, List.getElem?_cons_zero, Int.reduceBEq]
    repeat' (with_reducible apply And.intro)
    all_goals
      refine fetch_v h1 hk (by first | omega | (simp only [List.length_append, List.length_cons, List.length_nil]; omega)) _ _ ha _ fun H2 nx2 h2 k2 => ?_
      have b2 := k2 _ _ hb (by simp)
      simp only [go_sem, Nat.reduceEqDiff, Nat.reduceAdd, ↓reduceIte, ↓dreduceIte, Nat.reduceLeDiff, List.length_cons, List.length_nil, ↓reduceIte, b2]
    repeat' (with_reducible apply And.intro)
    all_goals
      refine into_v h2 hk _ hd _ fun nx3 => ?_
      simp only [go_sem, Nat.reduceEqDiff, Nat.reduceAdd, ↓reduceIte, ↓dreduceIte, reduceCtorEq, Nat.reduceLeDiff, List.length_cons, List.length_nil, ↓reduceIte, b2]
    all_goals
      refine putY_v h2 (by first | omega | (simp only [List.length_append]; omega)) _ _ _ _ _ _ fun r4 H4 nx4 h4 k4 => ?_
      have b4 := k4 _ _ b2 (by simp)
      simp only [go_sem, Nat.reduceEqDiff, Nat.reduceAdd, ↓reduceIte, ↓dreduceIte, reduceCtorEq, Nat.reduceLeDiff, List.length_cons, List.length_nil, ↓reduceIte, b4]
    all_goals
      refine putY_v h4 (by first | omega | (simp only [List.length_append, List.length_cons, List.length_nil]; omega)) _ _ _ _ _ _ fun r5 H5 nx5 h5 k5 => ?_
      have b5 := k5 _ _ b4 (by simp)
      simp only [go_sem, Nat.reduceEqDiff, Nat.reduceAdd, ↓reduceIte, ↓dreduceIte, reduceCtorEq, Nat.reduceLeDiff, List.length_cons, List.length_nil, ↓reduceIte, b5]
    all_goals
      refine keep_v h5 hk (by first | omega | (simp only [List.length_append, List.length_cons, List.length_nil]; omega)) _ _ hd _ fun r6 H6 nx6 h6 k6 => ?_
      have b6 := k6 _ _ b5 (by simp)
      simp only [go_sem]
    all_goals
      exact hC _ _ _ (by rw [e]; simpa only [List.append_assoc, List.cons_append, List.nil_append] using h6) (((((KeepT.app _ _ _).trans k2).trans k4).trans k5).trans k6)
  · have e : insY c ⟨7, d, a, b, k, base, size, n⟩ = fetchY c a 9 ++ [pY 25 (fetchR c a 9) 0 size] ++ fetchY c b 10 ++ [pY 17 (fetchR c b 10) (fetchR c a 9) base] := rfl
    replace ha := ha (by decide)
    replace hbb := hbb (by decide)
    simp only [go_sem, Nat.reduceEqDiff, Nat.reduceAdd, ↓reduceIte, ↓dreduceIte, reduceCtorEq, Nat.reduceLeDiff, List.getElem?_append, Nat.lt_irrefl, Nat.sub_self, List.length_cons, List.length_nil, ↓reduceIte, List.getElem?_cons_zero, Int.reduceBEq]
    all_goals
      refine fetch_v h1 hk (by first | omega | (simp only [List.length_append, List.length_cons, List.length_nil]; omega)) _ _ ha _ fun H2 nx2 h2 k2 => ?_
      have b2 := k2 _ _ hb (by simp)
      simp only [go_sem, Nat.reduceEqDiff, Nat.reduceAdd, ↓reduceIte, ↓dreduceIte, reduceCtorEq, Nat.reduceLeDiff, List.length_cons, List.length_nil, ↓reduceIte, b2]
    all_goals
      refine putY_v h2 (by first | omega | (simp only [List.length_append]; omega)) _ _ _ _ _ _ fun r3 H3 nx3 h3 k3 => ?_
      have b3 := k3 _ _ b2 (by simp)
      simp only [go_sem, Nat.reduceEqDiff, Nat.reduceAdd, ↓reduceIte, ↓dreduceIte, reduceCtorEq, Nat.reduceLeDiff, List.length_cons, List.length_nil, ↓reduceIte, b3]
    repeat' (with_reducible apply And.intro)
    all_goals
      refine fetch_v h3 hk (by first | omega | (simp only [List.length_append, List.length_cons, List.length_nil]; omega)) _ _ hbb _ fun H4 nx4 h4 k4 => ?_
      have b4 := k4 _ _ b3 (by simp)
      simp only [go_sem, Nat.reduceEqDiff, Nat.reduceAdd, ↓reduceIte, ↓dreduceIte, Nat.reduceLeDiff, List.length_cons, List.length_nil, ↓reduceIte, b4]
    repeat' (with_reducible apply And.intro)
    all_goals
      refine putY_v h4 (by first | omega | (simp only [List.length_append, List.length_cons, List.length_nil]; omega)) _ _ _ _ _ _ fun r5 H5 nx5 h5 k5 => ?_
      have b5 := k5 _ _ b4 (by simp)
      simp only [go_sem]
    all_goals
      exact hC _ _ _ (by rw [e]; simpa only [List.append_assoc, List.cons_append, List.nil_append] using h5) (((((KeepT.app _ _ _).trans k2).trans k3).trans k4).trans k5)
  · have e : insY c ⟨8, d, a, b, k, base, size, n⟩ = [pY 23 (intoR c d) 0 0] ++ keepY c d (intoR c d) := rfl
    replace hd := hd (by decide)
    simp only [go_sem, Nat.reduceEqDiff, Nat.reduceAdd, ↓reduceIte, ↓dreduceIte, reduceCtorEq, Nat.reduceLeDiff, List.getElem?_append, Nat.lt_irrefl, Nat.sub_self, List.length_cons, List.length_nil, ↓reduceIte, List.getElem?_cons_zero, Int.reduceBEq]
    all_goals
      refine into_v h1 hk _ hd _ fun nx2 => ?_
      simp only [go_sem, Nat.reduceEqDiff, ↓reduceIte, ↓dreduceIte, reduceCtorEq, ↓reduceIte]
    all_goals
      refine putY_v h1 (by first | omega | (simp only [List.length_append, List.length_cons, List.length_nil]; omega)) _ _ _ _ _ _ fun r3 H3 nx3 h3 k3 => ?_
      have b3 := k3 _ _ hb (by simp)
      simp only [go_sem, Nat.reduceEqDiff, Nat.reduceAdd, ↓reduceIte, ↓dreduceIte, reduceCtorEq, Nat.reduceLeDiff, List.length_cons, List.length_nil, ↓reduceIte, b3]
    all_goals
      refine keep_v h3 hk (by first | omega | (simp only [List.length_append, List.length_cons, List.length_nil]; omega)) _ _ hd _ fun r4 H4 nx4 h4 k4 => ?_
      have b4 := k4 _ _ b3 (by simp)
      simp only [go_sem]
    all_goals
      exact hC _ _ _ (by rw [e]; simpa only [List.append_assoc, List.cons_append, List.nil_append] using h4) (((KeepT.app _ _ _).trans k3).trans k4)
  · have e : insY c ⟨9, d, a, b, k, base, size, n⟩ = fetchY c a 9 ++ [pY 24 (fetchR c a 9) 0 0] := rfl
    replace ha := ha (by decide)
    simp only [go_sem, Nat.reduceEqDiff, Nat.reduceAdd, ↓reduceIte, ↓dreduceIte, reduceCtorEq, Nat.reduceLeDiff, List.getElem?_append, Nat.lt_irrefl, Nat.sub_self, List.length_cons, List.length_nil, ↓reduceIte, List.getElem?_cons_zero, Int.reduceBEq]
    all_goals
      refine fetch_v h1 hk (by first | omega | (simp only [List.length_append, List.length_cons, List.length_nil]; omega)) _ _ ha _ fun H2 nx2 h2 k2 => ?_
      have b2 := k2 _ _ hb (by simp)
      simp only [go_sem, Nat.reduceEqDiff, ↓reduceIte, ↓reduceIte]
    all_goals
      refine putY_v h2 (by first | omega | (simp only [List.length_append]; omega)) _ _ _ _ _ _ fun r3 H3 nx3 h3 k3 => ?_
      have b3 := k3 _ _ b2 (by simp)
      simp only [go_sem]
    all_goals
      exact hC _ _ _ (by rw [e]; simpa only [List.append_assoc, List.cons_append, List.nil_append] using h3) (((KeepT.app _ _ _).trans k2).trans k3)
  · have e : insY c ⟨10, d, a, b, k, base, size, n⟩ = [jY 21 12 base (-1)] := rfl
    simp only [go_sem, Nat.reduceEqDiff, Nat.reduceAdd, ↓reduceIte, ↓dreduceIte, reduceCtorEq, Nat.reduceLeDiff, List.getElem?_append, Nat.lt_irrefl, Nat.sub_self, List.length_cons, List.length_nil, ↓reduceIte, List.getElem?_cons_zero, Int.reduceBEq]
    all_goals
      refine jumpY_v h1 (by first | omega | (simp only [List.length_append, List.length_cons, List.length_nil]; omega)) _ _ _ _ _ _ fun r2 H2 nx2 h2 k2 => ?_
      have b2 := k2 _ _ hb (by simp)
      simp only [go_sem]
    all_goals
      exact hC _ _ _ (by rw [e]; simpa only [List.append_assoc, List.cons_append, List.nil_append] using h2) ((KeepT.app _ _ _).trans k2)
end
end Go.Proofs.Ytkbhfokbhkmfgaa
namespace Go.Proofs.Ytkbhfokbhkmfgaa
set_option linter.unusedSimpArgs false
set_option linter.unusedVariables false
set_option maxRecDepth 10000
open Go.V
section
variable {c : Cx} {q : WI} {H : List VObj} {l : List Sy} {en : List Int} {bl : List AV}
theorem end_v (h : WC c q H l en bl) (hk : CxOk c) (hl : l.length ≤ 700000) (nx : Nat) {b : Bk} (next : Int) (hn : 0 ≤ next) (he : b.e = 1 ∨ b.e = 2 ∨ b.e = 3) (hv : b.e = 2 → 0 ≤ b.v ∧ b.v < c.pl.length) (C : AV → List VObj → Nat → Prop)
    (hC : ∀ x H' nx', WC c q H' (l ++ endY c b next) en bl → KeepT wT H H' → C x H' nx') : VCall Try.prog 53 [.ptr q.kW q.sW 0, bkA b, I next] H nx C := by
  refine VCall.of_body hmix f_choose_writer_end (by simp) ?_
  obtain ⟨ins, e, v, to, el⟩ := b
  simp only at he hv
  have h20 := hk.fs
  have hbk := hk.bk
  have hfl := hk.fl
  have hb : (H ++ [⟨nx, 49, 1, bkL ⟨ins, e, v, to, el⟩⟩])[H.length]? = some ⟨nx, 49, 1, bkL ⟨ins, e, v, to, el⟩⟩ := by simp
  have h1 : WC c q (H ++ [⟨nx, 49, 1, bkL ⟨ins, e, v, to, el⟩⟩]) l en bl := h.keep (KeepT.app _ _ _)
  have k0 : KeepT wT H (H ++ [⟨nx, 49, 1, bkL ⟨ins, e, v, to, el⟩⟩]) := KeepT.app _ _ _
  have fa := fetchY_len c v 9
  have w1 : IntKind.i64.wrap ((c.b.funcs.length : Int) - 1) = (c.b.funcs.length : Int) - 1 := i64_in (by omega) (by omega)
  have w2 : IntKind.i64.wrap (c.back + c.fn) = c.back + c.fn := i64_in (by omega) (by omega)
  obtain ⟨cv, pv, hw, hc, hp⟩ := h1.w
  simp only [c_choose_writer_end]
  rcases he with rfl | rfl | rfl
  · by_cases e1 : to = next
    · subst e1
      have e : endY c ⟨ins, 1, v, to, el⟩ to = [] := by unfold endY; simp
      simp only [go_sem, Nat.reduceEqDiff, Nat.reduceAdd, ↓reduceIte, reduceCtorEq, Nat.reduceLeDiff, List.getElem?_append, Nat.lt_irrefl, Nat.sub_self, List.length_cons, List.length_nil, ↓reduceIte, List.getElem?_cons_zero, Int.reduceBEq, bne_self_eq_false]
      exact hC _ _ _ (by rw [e, List.append_nil]; exact h1) k0
    · have e : endY c ⟨ins, 1, v, to, el⟩ next = [jY 18 0 c.fn to] := if_neg e1
      simp only [go_sem, Nat.reduceEqDiff, Nat.reduceAdd, ↓reduceIte, ↓dreduceIte, reduceCtorEq, Nat.reduceLeDiff, List.getElem?_append, Nat.lt_irrefl, Nat.sub_self, List.length_cons, List.length_nil, ↓reduceIte, List.getElem?_cons_zero, Int.reduceBEq, hw, eq_false e1]
      refine jumpY_v h1 (by first | omega | (simp only [List.length_append, List.length_cons, List.length_nil]; omega)) _ _ _ _ _ _ fun r2 H2 nx2 h2 k2 => ?_
      simp only [go_sem]
      exact hC _ _ _ (by rw [e]; exact h2) (k0.trans k2)
  · replace hv := hv rfl
    by_cases e1 : to = next
    · have e : endY c ⟨ins, 2, v, to, el⟩ next = fetchY c v 9 ++ [jY 19 (fetchR c v 9) c.fn el] := if_pos e1
      simp only [go_sem, Nat.reduceEqDiff, Nat.reduceAdd, ↓reduceIte, ↓dreduceIte, reduceCtorEq, Nat.reduceLeDiff, List.getElem?_append, Nat.lt_irrefl, Nat.sub_self, List.length_cons, List.length_nil, ↓reduceIte, List.getElem?_cons_zero, Int.reduceBEq]
      refine fetch_v h1 hk (by first | omega | (simp only [List.length_append, List.length_cons, List.length_nil]; omega)) _ _ hv _ fun H2 nx2 h2 k2 => ?_
      have b2 := k2 _ _ hb (by simp)
      obtain ⟨cv2, pv2, hw2, hc2, hp2⟩ := h2.w
      simp only [go_sem, Nat.reduceEqDiff, Nat.reduceAdd, ↓reduceIte, ↓dreduceIte, reduceCtorEq, Nat.reduceLeDiff, List.length_cons, List.length_nil, ↓reduceIte, hw2, b2, eq_true e1]
      refine jumpY_v h2 (by first | omega | (simp only [List.length_append]; omega)) _ _ _ _ _ _ fun r3 H3 nx3 h3 k3 => ?_
      simp only [go_sem]
      exact hC _ _ _ (by rw [e]; simpa only [List.append_assoc] using h3) ((k0.trans k2).trans k3)
    · simp only [go_sem, Nat.reduceEqDiff, Nat.reduceAdd, ↓reduceIte, ↓dreduceIte, reduceCtorEq, Nat.reduceLeDiff, List.getElem?_append, Nat.lt_irrefl, Nat.sub_self, List.length_cons, List.length_nil, ↓reduceIte, List.getElem?_cons_zero, Int.reduceBEq]
      refine fetch_v h1 hk (by first | omega | (simp only [List.length_append, List.length_cons, List.length_nil]; omega)) _ _ hv _ fun H2 nx2 h2 k2 => ?_
      have b2 := k2 _ _ hb (by simp)
      obtain ⟨cv2, pv2, hw2, hc2, hp2⟩ := h2.w
      simp only [go_sem, Nat.reduceEqDiff, Nat.reduceAdd, ↓reduceIte, ↓dreduceIte, reduceCtorEq, Nat.reduceLeDiff, List.length_cons, List.length_nil, ↓reduceIte, hw2, b2, beq_false_of_ne e1]
      refine jumpY_v h2 (by first | omega | (simp only [List.length_append]; omega)) _ _ _ _ _ _ fun r3 H3 nx3 h3 k3 => ?_
      have b3 := k3 _ _ b2 (by simp)
      obtain ⟨cv3, pv3, hw3, hc3, hp3⟩ := h3.w
      by_cases e2 : el = next
      · have e : endY c ⟨ins, 2, v, to, el⟩ next = fetchY c v 9 ++ [jY 20 (fetchR c v 9) c.fn to] := by
          unfold endY; simp only [Int.reduceEq, ↓reduceIte, if_neg e1, if_pos e2, List.append_nil]
        simp only [go_sem, Nat.reduceEqDiff, Nat.reduceAdd, ↓reduceIte, reduceCtorEq, List.length_cons, List.length_nil, ↓reduceIte, b3, e2, bne_self_eq_false]
        exact hC _ _ _ (by rw [e]; simpa only [List.append_assoc] using h3) ((k0.trans k2).trans k3)
      · have e : endY c ⟨ins, 2, v, to, el⟩ next = fetchY c v 9 ++ [jY 20 (fetchR c v 9) c.fn to] ++ [jY 18 0 c.fn el] := by
          unfold endY; simp only [Int.reduceEq, ↓reduceIte, if_neg e1, if_neg e2]
        simp only [go_sem, Nat.reduceEqDiff, Nat.reduceAdd, ↓reduceIte, ↓dreduceIte, reduceCtorEq, Nat.reduceLeDiff, List.length_cons, List.length_nil, ↓reduceIte, hw3, b3, eq_false e2]
        refine jumpY_v h3 (by first | omega | (simp only [List.length_append, List.length_cons, List.length_nil]; omega)) _ _ _ _ _ _ fun r4 H4 nx4 h4 k4 => ?_
        simp only [go_sem]
        exact hC _ _ _ (by rw [e]; simpa only [List.append_assoc] using h4) (((k0.trans k2).trans k3).trans k4)
  · by_cases e1 : (c.fn : Int) = (c.b.funcs.length : Int) - 1
    · have e : endY c ⟨ins, 3, v, to, el⟩ next = [pY 26 0 0 0] := if_pos e1
      simp only [go_sem, Nat.reduceEqDiff, Nat.reduceAdd, ↓reduceIte, ↓dreduceIte, reduceCtorEq, Nat.reduceLeDiff, List.length_map, List.getElem?_append, Nat.lt_irrefl, Nat.sub_self, List.length_cons, List.length_nil, ↓reduceIte, List.getElem?_cons_zero, Int.reduceBEq, w1, hw, e1]
      refine putY_v h1 (by first | omega | (simp only [List.length_append, List.length_cons, List.length_nil]; omega)) _ _ _ _ _ _ fun r2 H2 nx2 h2 k2 => ?_
      simp only [go_sem]
      exact hC _ _ _ (by rw [e]; exact h2) (k0.trans k2)
    · have e : endY c ⟨ins, 3, v, to, el⟩ next = [pY 16 12 0 (c.back + c.fn), pY 22 12 0 0] := if_neg e1
      simp only [go_sem, Nat.reduceEqDiff, Nat.reduceAdd, ↓reduceIte, ↓dreduceIte, reduceCtorEq, Nat.reduceLeDiff, List.length_map, List.getElem?_append, Nat.lt_irrefl, Nat.sub_self, List.length_cons, List.length_nil, ↓reduceIte, List.getElem?_cons_zero, Int.reduceBEq, w1, w2, hw, beq_false_of_ne e1]
      refine putY_v h1 (by first | omega | (simp only [List.length_append, List.length_cons, List.length_nil]; omega)) _ _ _ _ _ _ fun r2 H2 nx2 h2 k2 => ?_
      have b2 := k2 _ _ hb (by simp)
      obtain ⟨cv2, pv2, hw2, hc2, hp2⟩ := h2.w
      simp only [go_sem, ↓reduceIte, ↓dreduceIte, reduceCtorEq, List.length_map, ↓reduceIte, w1, w2]
      refine putY_v h2 (by first | omega | (simp only [List.length_append, List.length_cons, List.length_nil]; omega)) _ _ _ _ _ _ fun r3 H3 nx3 h3 k3 => ?_
      simp only [go_sem]
      exact hC _ _ _ (by rw [e]; simpa only [List.append_assoc, List.cons_append, List.nil_append] using h3) ((k0.trans k2).trans k3)
end
end Go.Proofs.Ytkbhfokbhkmfgaa
namespace Go.Proofs.Ytkbhfokbhkmfgaa
set_option linter.unusedSimpArgs false
set_option linter.unusedVariables false
set_option maxRecDepth 10000
open Go.V
theorem insY_len (c : Cx) (t : Tac) : (insY c t).length ≤ 4 := by
  have f := fun v s => fetchY_len c v s
  have k := fun v r => keepY_len c v r
  have f1 := f t.a 9
  have f2 := f t.b 10
  have k1 := k t.d (intoR c t.d)
  have k2 := k t.d 0
  have k3 := k t.d (fetchR c t.a 9)
  have f3 := f t.a (c.p t.d)
  unfold insY constY copyY
  repeat' split
  all_goals first | omega | (simp only [List.length_append, List.length_cons, List.length_nil]; omega)
theorem endY_len (c : Cx) (b : Bk) (n : Int) : (endY c b n).length ≤ 3 := by
  have f1 := fetchY_len c b.v 9
  unfold endY
  repeat' split
  all_goals first | omega | (simp only [List.length_append, List.length_cons, List.length_nil]; omega)
theorem flatMap_len {α β : Type} (f : α → List β) (n : Nat) (hf : ∀ a, (f a).length ≤ n) : ∀ l : List α, (l.flatMap f).length ≤ n * l.length
  | [] => by simp
  | a :: l => by
    have := hf a
    have := flatMap_len f n hf l
    simp only [List.flatMap_cons, List.length_append, List.length_cons]
    rw [Nat.mul_add]; omega
theorem blkY_len (c : Cx) (b : Bk) (n : Int) : (blkY c b n).length ≤ 4 * (b.ins.length + 1) := by
  have h1 := endY_len c b n
  have h2 := flatMap_len (insY c) 4 (insY_len c) b.ins
  unfold blkY
  rw [List.length_append]; omega
theorem blksY_len (c : Cx) : ∀ (l : List Bk) (j : Nat), (blksY c j l).length ≤ 4 * cntB l
  | [], _ => by simp [blksY, cntB]
  | b :: l, j => by
    have h1 := blkY_len c b (j + 1 : Nat)
    have h2 := blksY_len c l (j + 1)
    simp only [blksY, List.length_append, cntB, List.map_cons, List.sum_cons] at h2 ⊢
    omega
theorem zeroY_len (c : Cx) (row : List Bool) (v : Nat) : (zeroY c row v).length ≤ 1 := by
  have := keepY_len c v 0
  unfold zeroY
  repeat' split
  all_goals first | omega | (simp only [List.length_cons, List.length_nil]; omega)
theorem zerosY_len (c : Cx) (row : List Bool) (n : Nat) : (zerosY c row n).length ≤ n := by
  have := flatMap_len (zeroY c row) 1 (zeroY_len c row) (List.range n)
  unfold zerosY
  simpa using this
theorem headY_len (c : Cx) (row : List Bool) : (headY c row).length ≤ row.length + 1 := by
  have := zerosY_len c row row.length
  unfold headY
  split <;> simp only [List.length_append, List.length_cons, List.length_nil] <;> omega
theorem cntB_take (l : List Bk) (k : Nat) : cntB (l.take k) ≤ cntB l := by
  conv => rhs; rw [← List.take_append_drop k l]
  unfold cntB
  rw [List.map_append, List.sum_append]; omega
def KeepF (q : WI) (H H' : List VObj) : Prop := ∀ (i : Nat) (ob : VObj), H[i]? = some ob → ob.ty ∉ wT → i ≠ q.kE → i ≠ q.kB → H'[i]? = some ob
theorem KeepF.of {q : WI} {H H' : List VObj} (h : KeepT wT H H') : KeepF q H H' := fun i ob h1 h2 _ _ => h i ob h1 h2
theorem KeepF.trans {q : WI} {A B C : List VObj} (h : KeepF q A B) (k : KeepF q B C) : KeepF q A C := fun i ob h1 h2 h3 h4 => k i ob (h i ob h1 h2 h3 h4) h2 h3 h4
def tailC : Nat → VC → VC
  | n + 1, .seq _ y => tailC n y
  | _, c => c
structure FnOk (c : Cx) (f : BF) : Prop where
  fe : c.b.funcs.getD c.fn default = f
  fi : Fine f
  pl : c.pl.length = f.r
  n : cntB f.bks ≤ 400
  ins : ∀ b ∈ f.bks, (∀ t ∈ b.ins, InsOk c t) ∧ (b.e = 1 ∨ b.e = 2 ∨ b.e = 3) ∧ (b.e = 2 → 0 ≤ b.v ∧ b.v < c.pl.length)
def rowJ (c : Cx) (n0 : Nat) (bks : List Bk) (j : Nat) : List Int := (List.range bks.length).map fun i => if i < j then ((n0 + (blksY c 0 (bks.take i)).length : Nat) : Int) else 0
theorem rowJ_set (c : Cx) (n0 : Nat) (bks : List Bk) {j : Nat} (hj : j < bks.length) : (rowJ c n0 bks j).set j ((n0 + (blksY c 0 (bks.take j)).length : Nat) : Int) = rowJ c n0 bks (j + 1) := by
  refine List.ext_getElem (by simp [rowJ]) fun i h1 h2 => ?_
  rw [List.getElem_set]
  simp only [rowJ, List.getElem_map, List.getElem_range]
  by_cases e : j = i
  · subst e; rw [if_pos rfl, if_pos (by omega)]
  · rw [if_neg e]
    by_cases h : i < j
    · rw [if_pos h, if_pos (by omega)]
    · rw [if_neg h, if_neg (by omega)]
theorem rowJ_len (c : Cx) (n0 : Nat) (bks : List Bk) (j : Nat) : (rowJ c n0 bks j).length = bks.length := by simp [rowJ]
structure LQ where
  j : Nat
  H : List VObj
  nx : Nat
def KeepR (kr : Nat) (H H' : List VObj) : Prop := ∀ (i : Nat) (ob : VObj), H[i]? = some ob → ob.ty ∉ wT → i ≠ kr → H'[i]? = some ob
theorem KeepR.refl (kr : Nat) (H : List VObj) : KeepR kr H H := fun _ _ h _ _ => h
theorem KeepR.trans {kr : Nat} {A B C : List VObj} (h : KeepR kr A B) (k : KeepR kr B C) : KeepR kr A C := fun i ob h1 h2 h3 => k i ob (h i ob h1 h2 h3) h2 h3
theorem KeepR.of {kr : Nat} {H H' : List VObj} (h : KeepT wT H H') : KeepR kr H H' := fun i ob h1 h2 _ => h i ob h1 h2
theorem KeepR.set (kr : Nat) (H : List VObj) (o : VObj) : KeepR kr H (H.set kr o) := fun i ob h1 _ h3 => by rw [set_ne (fun e => h3 e.symm)]; exact h1
theorem WH.keepR {b : BP} {ws : List Int} {back fn : Int} {plv : AV} {q : WI} {H : List VObj} {code : List Ci} {sp : List Sp} {en : List Int} {bl : List AV} (h : WH b ws back fn plv q H code sp en bl) {k : Nat} {o : VObj} {s : Nat} {cs : List AV} (ho : H[k]? = some ⟨s, 3, 1, cs⟩) (hE : k ≠ q.kE) (hD : k ≠ q.kD) : WH b ws back fn plv q (H.set k o) code sp en bl := by
  obtain ⟨cv, pv, hw, hc, hp⟩ := h.w
  have t : ∀ {i : Nat} {ob : VObj}, H[i]? = some ob → ob.ty ≠ 3 → (H.set k o)[i]? = some ob := fun {i ob} h1 h2 => by
    rw [set_ne (fun e => by subst e; rw [ho] at h1; cases h1; exact h2 rfl)]; exact h1
  have cvk : ∀ {ty sz : Nat} {v : AV} {xs : List AV} {n : Nat}, CV H ty sz v xs n → ty ≠ 3 → CV (H.set k o) ty sz v xs n := fun {ty sz v xs n} h1 h2 => by
    obtain ⟨i, s, e1, e2⟩ := h1
    exact ⟨i, s, e1, t e2 h2⟩
  exact ⟨⟨cv, pv, t hw (by simp), cvk hc (by decide), cvk hp (by decide)⟩, by rw [set_ne hE]; exact h.e, t h.b (by simp), by rw [set_ne hD]; exact h.d⟩
end Go.Proofs.Ytkbhfokbhkmfgaa
namespace Go.Proofs.Ytkbhfokbhkmfgaa
set_option linter.unusedSimpArgs false
set_option linter.unusedVariables false
set_option maxRecDepth 10000
open Go.V
theorem cellT_at {cs : List AV} {i : Nat} {v : AV} (hi : i < cs.length) (hv : v.one = true) (e : cs.getD i .dead = v) {C : AV → Prop} : cellT cs i false 1 C .mk = C v := by
  show (partOK cs i false 1 ∧ C (partA cs i false 1)) = C v
  unfold partOK partA
  rw [e]
  simp [hv]
  intro _; omega
set_option maxHeartbeats 1000000 in
theorem fun_E {c : Cx} {q : WI} {H0 : List VObj} {l0 : List Sy} {en : List Int} {bl : List AV} {f : BF} (h : WC c q H0 l0 en bl) (hk : CxOk c) (hf : FnOk c f) (hl : l0.length ≤ 200000) {kr sr kF sF : Nat} (hbl : bl.getD c.fn .dead = .ref kr sr 0 f.bks.length) (hbn : c.fn < bl.length) (hb1 : ∀ x ∈ bl, x.one = true)
    (hr : H0[kr]? = some ⟨sr, 3, 1, (rowJ c l0.length f.bks 0).map I⟩) (hE : kr ≠ q.kE) (hD : kr ≠ q.kD) (hF : H0[kF]? = some ⟨sF, 52, 1, bfL f⟩) (nx0 : Nat) (C : AV → List VObj → Nat → Prop)
    (hC : ∀ r H' nx', WC c q H' (l0 ++ blksY c 0 f.bks) en bl → H'[kr]? = some ⟨sr, 3, 1, (rowJ c l0.length f.bks f.bks.length).map I⟩ → KeepR kr H0 H' → C r H' nx') :
    VWs Try.prog (tailC 7 c_choose_writer_function) (retQ Try.prog [] C) ⟨[(0, .ptr q.kW q.sW 0), (1, I c.fn), (6, .ptr kF sF 0)], H0, nx0⟩ := by
  have hfb := hf.fi.b1
  have h20 := hk.fs
  have hfl := hk.fl
  obtain ⟨hfe, hfi, hpl, hn, hins⟩ := hf
  have hst : ∀ j, j < f.bks.length → blksY c 0 (f.bks.take (j + 1)) = blksY c 0 (f.bks.take j) ++ blkY c (f.bks.getD j default) (j + 1 : Nat) := fun j hj => by
    have e : f.bks.take (j + 1) = f.bks.take j ++ [f.bks.getD j default] := by rw [List.take_add_one]; simp [List.getD, List.getElem?_eq_getElem hj]
    rw [e, blksY_snoc]; simp [Nat.min_eq_left (Nat.le_of_lt hj)]
  have hbd : ∀ j, (blksY c 0 (f.bks.take j)).length ≤ 1600 := fun j => by
    have := blksY_len c (f.bks.take j) 0
    have := cntB_take f.bks j
    omega
  simp only [tailC, c_choose_writer_function, go_sem, Nat.reduceEqDiff, Nat.reduceAdd, ↓reduceIte, reduceCtorEq, VWs_seq, hF, List.length_map]
  refine ⟨_, Wk.refl _, ?_⟩
  show VW Try.prog (.block 2 _) _ _
  simp only [go_sem]
  refine VW_loop (fun x : LQ => ⟨[(0, .ptr q.kW q.sW 0), (1, I c.fn), (6, .ptr kF sF 0), (99, bksA f.bks), (100, I f.bks.length), (101, I x.j)], x.H, x.nx⟩)
    (fun x => x.j ≤ f.bks.length ∧ WC c q x.H (l0 ++ blksY c 0 (f.bks.take x.j)) en bl ∧ x.H[kr]? = some ⟨sr, 3, 1, (rowJ c l0.length f.bks x.j).map I⟩ ∧ KeepR kr H0 x.H) (fun x => f.bks.length - x.j) ⟨0, H0, nx0⟩
    (Wk.mk (by simp [get_cons]) ⟨[], by simp⟩ (Nat.le_refl _)) ⟨Nat.zero_le _, by simpa [blksY] using h, hr, KeepR.refl _ _⟩ ?_
  rintro ⟨j, H, nx⟩ ⟨hj, hw0, hrow, hkeep⟩
  simp only at hj hw0 hrow hkeep
  have hrk : kr < H.length := (List.getElem?_eq_some_iff.1 hrow).1
  by_cases hlt : j < f.bks.length
  · have hbm : f.bks.getD j default ∈ f.bks := mem_getD hlt
    obtain ⟨hi1, hi2, hi3⟩ := hins _ hbm
    have hbl2 := hbd j
    have hstj := hst j hlt
    have hblk := blkY_len c (f.bks.getD j default) (j + 1 : Nat)
    have hcm := cntB_mem hbm
    obtain ⟨cv, pv, hw, ⟨k2, s2, rfl, hk2⟩, hp⟩ := hw0.w
    have hbb := hw0.b
    have n1 := ne_len hw
    have n2 := ne_len hbb
    have n3 : (H.length = kr) = False := eq_false (by omega)
    have l1 := eq_true (show q.kW < H.length + 1 by have := (List.getElem?_eq_some_iff.1 hw).1; omega)
    have l2 := eq_true (show q.kB < H.length + 1 by have := (List.getElem?_eq_some_iff.1 hbb).1; omega)
    have l3 := eq_true (show kr < H.length + 1 by omega)
    have n5 := ne_len hk2
    have n6 : (kr = H.length) = False := eq_false (by omega)
    have l4 := lt_of hk2
    have l5 : (H.length < H.length + 1) = True := eq_true (by omega)
    have es : ∀ x y : VObj, (H ++ [x]).set H.length y = H ++ [y] := fun x y => by simp
    have hset : ((rowJ c l0.length f.bks j).map I).set j (I ((l0.length + (blksY c 0 (f.bks.take j)).length : Nat) : Int)) = (rowJ c l0.length f.bks (j + 1)).map I := by
      rw [← rowJ_set c _ _ hlt, List.map_set]
    have o1 := ty_ne hrow hw (by simp)
    have o2 := ty_ne hrow hbb (by simp)
    have o3 := ty_ne hw hrow (by simp)
    have ecl : ((l0 ++ blksY c 0 (f.bks.take j)).map (·.1)).length = l0.length + (blksY c 0 (f.bks.take j)).length := by simp
    have hcell : ∀ {C : AV → Prop}, cellT bl c.fn false 1 C .mk = C (.ref kr sr 0 f.bks.length) := fun {C} => cellT_at hbn rfl hbl
    have lB := lt_of hbb
    have lW := lt_of hw
    have lR := eq_true hrk
    generalize hg : f.bks.getD j default = g at *
    simp only [go_sem, Nat.reduceEqDiff, Nat.reduceAdd, ↓reduceIte, ↓dreduceIte, reduceCtorEq, Nat.reduceLeDiff, List.length_map, eq_true (show (j : Int) < f.bks.length by omega), hg, hw, hbb, hcell, hrow, lB, lW, lR, hk2, n6, l4, es, List.getElem?_set, List.getElem?_append, List.length_append, Nat.lt_irrefl, Nat.sub_self, List.length_cons, List.length_nil, ↓reduceIte, List.getElem?_cons_zero, rowJ_len]
    repeat ((with_reducible refine And.intro ?_ ?_); · first | omega | (simp; omega) | exact ⟨by omega, by omega, rfl, rfl⟩)
    rw [hset]
    have hY : (H ++ [(⟨nx, 49, 1, bkL g⟩ : VObj)])[kr]? = some ⟨sr, 3, 1, (rowJ c l0.length f.bks j).map I⟩ := ap_old hrow _
    have hWX : WC c q ((H ++ [(⟨nx, 49, 1, bkL g⟩ : VObj)]).set kr ⟨sr, 3, 1, (rowJ c l0.length f.bks (j + 1)).map I⟩) (l0 ++ blksY c 0 (f.bks.take j)) en bl := (hw0.keep (KeepT.app _ _ _)).keepR hY hE hD
    have hRX : ((H ++ [(⟨nx, 49, 1, bkL g⟩ : VObj)]).set kr ⟨sr, 3, 1, (rowJ c l0.length f.bks (j + 1)).map I⟩)[kr]? = some ⟨sr, 3, 1, (rowJ c l0.length f.bks (j + 1)).map I⟩ := set_get hY
    have hBX : ((H ++ [(⟨nx, 49, 1, bkL g⟩ : VObj)]).set kr ⟨sr, 3, 1, (rowJ c l0.length f.bks (j + 1)).map I⟩)[H.length]? = some ⟨nx, 49, 1, bkL g⟩ := by rw [set_ne (by omega)]; simp
    have hKX : KeepR kr H ((H ++ [(⟨nx, 49, 1, bkL g⟩ : VObj)]).set kr ⟨sr, 3, 1, (rowJ c l0.length f.bks (j + 1)).map I⟩) := (KeepR.of (KeepT.app _ _ _)).trans (KeepR.set _ _ _)
    generalize (H ++ [(⟨nx, 49, 1, bkL g⟩ : VObj)]).set kr ⟨sr, 3, 1, (rowJ c l0.length f.bks (j + 1)).map I⟩ = HX at *
    have him : ∀ i, ((g.ins.take i).flatMap (insY c)).length ≤ 4 * g.ins.length := fun i => by
      have := flatMap_len (insY c) 4 (insY_len c) (g.ins.take i)
      have : (g.ins.take i).length ≤ g.ins.length := by rw [List.length_take]; exact Nat.min_le_right _ _
      omega
    have htk : ∀ i, i < g.ins.length → (g.ins.take (i + 1)).flatMap (insY c) = (g.ins.take i).flatMap (insY c) ++ insY c (g.ins.getD i default) := fun i hi => by
      have e : g.ins.take (i + 1) = g.ins.take i ++ [g.ins.getD i default] := by rw [List.take_add_one]; simp [List.getD, List.getElem?_eq_getElem hi]
      rw [e]; simp
    refine VW_loop (fun x : LQ => ⟨[(0, .ptr q.kW q.sW 0), (1, I c.fn), (6, .ptr kF sF 0), (10, I j), (11, .ptr H.length nx 0), (99, bksA f.bks), (100, I f.bks.length), (101, I j), (121, inA g.ins), (122, I g.ins.length), (123, I x.j)], x.H, x.nx⟩)
      (fun x => x.j ≤ g.ins.length ∧ WC c q x.H (l0 ++ blksY c 0 (f.bks.take j) ++ (g.ins.take x.j).flatMap (insY c)) en bl ∧ KeepT wT HX x.H) (fun x => g.ins.length - x.j) ⟨0, HX, nx + 1⟩
      (Wk.mk (by simp [get_cons]) ⟨[], by simp⟩ (Nat.le_refl _)) ⟨Nat.zero_le _, by simpa using hWX, KeepT.refl _ _⟩ ?_
    rintro ⟨i, H1, nx1⟩ ⟨hi, hw1, hk1⟩
    simp only at hi hw1 hk1
    have hB1 := hk1 _ _ hBX (by simp)
    by_cases hil : i < g.ins.length
    · have htm := hi1 _ (mem_getD hil)
      have hb3 := him i
      have hti := htk i hil
      have l6 : (H1.length < H1.length + 1) = True := eq_true (by omega)
      have es1 : ∀ x y : VObj, (H1 ++ [x]).set H1.length y = H1 ++ [y] := fun x y => by simp
      have hg1 : WC c q (H1 ++ [⟨nx1, 47, 1, tacL (g.ins.getD i default)⟩]) (l0 ++ blksY c 0 (f.bks.take j) ++ (g.ins.take i).flatMap (insY c)) en bl := hw1.keep (KeepT.app _ _ _)
      generalize hgt : g.ins.getD i default = t at *
      simp only [go_sem, Nat.reduceEqDiff, Nat.reduceAdd, ↓reduceIte, ↓dreduceIte, reduceCtorEq, eq_true (show (i : Int) < g.ins.length by omega), es1, hgt, List.getElem?_append, Nat.lt_irrefl, Nat.sub_self, List.length_cons, List.length_nil, ↓reduceIte, List.getElem?_cons_zero]
      repeat ((with_reducible refine And.intro ?_ ?_); · first | omega | (simp; omega) | exact ⟨by omega, by omega, rfl, rfl⟩)
      refine instruction_v hg1 hk (by simp only [List.length_append]; omega) _ htm _ fun x H2 nx2 h2 k2 => ?_
      simp only [go_sem, Nat.reduceEqDiff, ↓reduceIte, reduceCtorEq]
      rw [i64_in (n := (i : Int) + 1) (by omega) (by omega)]
      exact ⟨⟨i + 1, H2, nx2⟩, ⟨by simp only; omega, by simp only; rw [hti, ← List.append_assoc]; exact h2, (hk1.trans (KeepT.app _ _ _)).trans k2⟩, by simp only; omega, Wk.mk (by simp [get_cons]) ⟨[], by simp⟩ (Nat.le_refl _)⟩
    · obtain rfl : i = g.ins.length := by omega
      rw [List.take_of_length_le (Nat.le_refl _)] at hw1
      have hb3 := him g.ins.length
      rw [List.take_of_length_le (Nat.le_refl _)] at hb3
      simp only [go_sem, Nat.reduceEqDiff, Nat.reduceAdd, ↓reduceIte, ↓dreduceIte, reduceCtorEq, eq_false (show ¬ (g.ins.length : Int) < g.ins.length by omega), hB1]
      have wj : IntKind.i64.wrap ((j : Int) + 1) = ((j + 1 : Nat) : Int) := by rw [i64_in (by omega) (by omega)]; omega
      rw [wj]
      refine end_v hw1 hk (by simp only [List.length_append]; omega) _ _ (by omega) hi2 hi3 _ fun x H2 nx2 h2 k2 => ?_
      simp only [go_sem, Nat.reduceEqDiff, ↓reduceIte, reduceCtorEq]
      rw [wj]
      refine ⟨⟨j + 1, H2, nx2⟩, ⟨by simp only; omega, ?_, k2 _ _ (hk1 _ _ hRX (by simp)) (by simp), (hkeep.trans hKX).trans (KeepR.of (hk1.trans k2))⟩, by simp only; omega, Wk.mk (by simp [get_cons]) ⟨[], by simp⟩ (Nat.le_refl _)⟩
      simp only
      rw [hstj]
      unfold blkY
      simpa only [List.append_assoc] using h2
  · obtain rfl : j = f.bks.length := by omega
    rw [List.take_of_length_le (Nat.le_refl _)] at hw0
    simp only [go_sem, Nat.reduceEqDiff, ↓reduceIte, reduceCtorEq, eq_false (show ¬ (f.bks.length : Int) < f.bks.length by omega)]
    exact hC _ _ _ hw0 hrow hkeep
end Go.Proofs.Ytkbhfokbhkmfgaa
namespace Go.Proofs.Ytkbhfokbhkmfgaa
set_option linter.unusedSimpArgs false
set_option linter.unusedVariables false
set_option maxRecDepth 10000
open Go.V
theorem ba_loop (bs : ByteArray) : ∀ (n i : Nat) (r : List UInt8), bs.size - i = n → ByteArray.toList.loop bs i r = r.reverse ++ bs.data.toList.drop i := by
  intro n
  induction n with
  | zero =>
    intro i r h
    rw [ByteArray.toList.loop, if_neg (by omega), List.drop_eq_nil_of_le (by simp; omega)]; simp
  | succ n ih =>
    intro i r h
    have hi : i < bs.data.toList.length := by simp; omega
    rw [ByteArray.toList.loop, if_pos (by omega), ih (i + 1) _ (by omega), List.drop_eq_getElem_cons hi]
    have : bs.get! i = bs.data.toList[i] := by
      have hi2 : i < bs.data.size := by simpa using hi
      rw [Array.getElem_toList hi2]
      simp only [ByteArray.get!]; exact getElem!_pos bs.data i hi2
    rw [this]; simp
theorem ba_toList (bs : ByteArray) : bs.toList = bs.data.toList := by
  rw [ByteArray.toList, ba_loop bs bs.size 0 [] (by omega)]; simp
def vOp (op : Int) : Bool := decide (1 ≤ op) && decide (op ≤ 27)
def hA (op : Int) : Bool := vOp op && !(decide (op = 18) || decide (op = 26))
def hB (op : Int) : Bool := decide (op = 3) || (decide (4 ≤ op) && decide (op ≤ 17)) || decide (op = 27)
def cK (op : Int) : Int := if 4 ≤ op ∧ op ≤ 15 then 2 else if op = 1 ∨ op = 2 ∨ (16 ≤ op ∧ op ≤ 21) ∨ op = 25 ∨ op = 27 then 1 else 0
def winB (v most : Int) (named : Bool) : Bool := if named then decide (0 ≤ v) && decide (v ≤ most) else decide (v = 0)
def okI (op a b c : Int) : Bool := vOp op && winB a 15 (hA op) && winB b 15 (hB op) && winB c (if cK op = 2 then 15 else 65535) (decide (cK op ≠ 0))
abbrev shp (nm : ByteArray) (op : Int) : AV := .agg [strv nm, B (hA op), B (hB op), I (cK op)]
abbrev insA (op a b c : Int) : AV := .agg [I op, I a, I b, I c]
theorem within_c (v most : Int) (named : Bool) : Contract Try.prog 89 [I v, I most, B named] (fun r => r = B (winB v most named)) := by
  refine Contract.of_call (VCall.of_body hmix f_inst_within (by simp) ?_)
  cases named with
  | false =>
    simp only [go_sem, Nat.reduceEqDiff, Nat.reduceAdd, ↓reduceIte, reduceCtorEq, c_inst_within]
    exact ⟨_, Frz.pure rfl, by simp [winB]; rfl⟩
  | true =>
    by_cases h : 0 ≤ v
    · simp only [go_sem, Nat.reduceEqDiff, Nat.reduceAdd, ↓reduceIte, reduceCtorEq, c_inst_within, eq_true h]
      exact ⟨_, Frz.pure rfl, by simp [winB, h]⟩
    · simp only [go_sem, Nat.reduceEqDiff, Nat.reduceAdd, ↓reduceIte, reduceCtorEq, c_inst_within, eq_false h]
      exact ⟨_, Frz.pure rfl, by simp [winB, h]⟩
theorem shapeOf_c (op : Int) : Contract Try.prog 88 [I op] (fun r => ∃ nm : ByteArray, r = shp nm op ∧ (nm.toList == ByteArray.toList ⟨#[]⟩) = !(vOp op)) := by
  refine Contract.of_call (VCall.of_body hmix f_inst_shapeOf (by simp) ?_)
  simp only [go_sem, Nat.reduceEqDiff, Nat.reduceAdd, ↓reduceIte, reduceCtorEq, Nat.reduceLeDiff, c_inst_shapeOf]
  iterate 27 (refine ⟨fun h => by subst h; exact ⟨_, Frz.pure rfl, _, rfl, by simp only [ba_toList]; rfl⟩, fun _ => ?_⟩)
  have h1 : vOp op = false := by simp [vOp]; omega
  have h2 : hA op = false := by simp [hA, h1]
  have h3 : hB op = false := by simp [hB]; omega
  have h4 : cK op = 0 := by unfold cK; rw [if_neg (by omega), if_neg (by omega)]
  exact ⟨_, Frz.pure rfl, ⟨#[]⟩, by rw [shp, h2, h3, h4], by rw [h1]; simp⟩
theorem known_c (op : Int) : Contract Try.prog 87 [I op] (fun r => r = B (vOp op)) := by
  refine Contract.of_call (VCall.of_body hmix f_inst_known (by simp) ?_)
  simp only [go_sem, ↓reduceIte, ↓dreduceIte, reduceCtorEq, c_inst_known]
  refine VCall.of_contract (shapeOf_c op) (SleL.pure rfl) fun x hx => ?_
  obtain ⟨nm, rfl, hn⟩ := hx
  simp only [go_sem, Nat.reduceAdd, ↓reduceIte, Nat.reduceLeDiff, hn]
  exact ⟨_, Frz.pure rfl, by simp⟩
theorem right_c (op a b c : Int) : Contract Try.prog 76 [insA op a b c] (fun r => r = B (okI op a b c)) := by
  refine Contract.of_call (VCall.of_body hmix f_inst_Right (by simp) ?_)
  simp only [go_sem, Nat.reduceEqDiff, Nat.reduceAdd, ↓reduceIte, ↓dreduceIte, Nat.reduceLeDiff, c_inst_Right]
  refine VCall.of_contract (known_c op) (SleL.pure rfl) fun x hx => ?_
  subst hx
  cases hv : vOp op
  · simp only [go_sem, ↓reduceIte]
    exact ⟨_, Frz.pure rfl, by simp [okI, hv]⟩
  simp only [go_sem, Nat.reduceEqDiff, Nat.reduceAdd, ↓reduceIte, ↓dreduceIte, Nat.reduceLeDiff]
  refine VCall.of_contract (shapeOf_c op) (SleL.pure rfl) fun x hx => ?_
  obtain ⟨nm, rfl, hn⟩ := hx
  by_cases hk : cK op = 2
  have hk' := eq_true hk
  rotate_left
  have hk' := eq_false hk
  all_goals
    simp only [go_sem, Nat.reduceEqDiff, Nat.reduceAdd, ↓reduceIte, ↓dreduceIte, Nat.reduceLeDiff, hk']
    refine VCall.of_contract (within_c a 15 (hA op)) (SleL.pure rfl) fun x hx => ?_
    subst hx
    cases h1 : winB a 15 (hA op)
    · simp only [go_sem, Nat.reduceEqDiff, ↓reduceIte]
      exact ⟨_, Frz.pure rfl, by simp [okI, h1]⟩
    simp only [go_sem, Nat.reduceEqDiff, Nat.reduceAdd, ↓reduceIte, ↓dreduceIte, Nat.reduceLeDiff]
    refine VCall.of_contract (within_c b 15 (hB op)) (SleL.pure rfl) fun x hx => ?_
    subst hx
    cases h2 : winB b 15 (hB op)
    · simp only [go_sem, Nat.reduceEqDiff, ↓reduceIte]
      exact ⟨_, Frz.pure rfl, by simp [okI, h2]⟩
    simp only [go_sem, Nat.reduceEqDiff, Nat.reduceAdd, ↓reduceIte, ↓dreduceIte]
    refine VCall.of_contract (within_c c _ _) (SleL.pure rfl) fun x hx => ?_
    subst hx
    simp only [go_sem, Nat.reduceEqDiff, ↓reduceIte]
    refine ⟨_, Frz.pure rfl, ?_⟩
    have hn : (cK op != 0) = decide (cK op ≠ 0) := by simp [bne]; rfl
    simp [okI, h1, h2, hv, hk, hn]
theorem winB_in {v most : Int} {named : Bool} (h : winB v most named = true) (hm : 0 ≤ most) : 0 ≤ v ∧ v ≤ most := by
  unfold winB at h
  split at h
  · simp at h; exact h
  · simp at h; omega
theorem okI_in {op a b c : Int} (h : okI op a b c = true) : 1 ≤ op ∧ op ≤ 27 ∧ 0 ≤ a ∧ a ≤ 15 ∧ 0 ≤ b ∧ b ≤ 15 ∧ 0 ≤ c ∧ c ≤ 65535 ∧ (cK op = 2 → c ≤ 15) := by
  unfold okI at h
  simp only [Bool.and_eq_true] at h
  obtain ⟨⟨⟨h1, h2⟩, h3⟩, h4⟩ := h
  have h2 := winB_in h2 (by omega)
  have h3 := winB_in h3 (by omega)
  have h5 := winB_in h4 (by split <;> omega)
  simp [vOp] at h1
  split at h5 <;> omega
def encI (op a b c : Int) : Int := op * 16777216 + a * 1048576 + b * 65536 + c
theorem or_hi {x y : Int} (i : Nat) (hi : i ≤ 24) (hx : 0 ≤ x) (hx2 : x * ((2 ^ i : Nat) : Int) < 4294967296) (hy : 0 ≤ y) (hy2 : y < ((2 ^ i : Nat) : Int)) (hy3 : y < 4294967296) :
    IntKind.u32.wrap (((BitVec.ofInt 32 (x * ((2 ^ i : Nat) : Int)) ||| BitVec.ofInt 32 y).toNat : Nat) : Int) = x * ((2 ^ i : Nat) : Int) + y := by
  obtain ⟨a, rfl⟩ := Int.eq_ofNat_of_zero_le hx
  obtain ⟨b, rfl⟩ := Int.eq_ofNat_of_zero_le hy
  have e : (a : Int) * ((2 ^ i : Nat) : Int) = ((a * 2 ^ i : Nat) : Int) := by simp
  rw [e] at hx2 ⊢
  have h3 := orW_eq (a := ((a * 2 ^ i : Nat) : Int)) (b := (b : Int)) ⟨by omega, by omega⟩ ⟨by omega, by omega⟩
  unfold orW at h3
  rw [w32] at h3
  have h4 : IntKind.u32.wrap (((BitVec.ofInt 32 ((a * 2 ^ i : Nat) : Int) ||| BitVec.ofInt 32 (b : Int)).toNat : Nat) : Int) = _ := h3
  rw [h4, Int.toNat_natCast, Int.toNat_natCast, Nat.mul_comm a, ← Nat.two_pow_add_eq_or_of_lt (by omega) a]
  omega
theorem encI_c (op a b c : Int) (h : okI op a b c = true) : Contract Try.prog 54 [insA op a b c] (fun r => r = .tup [U32 (encI op a b c), I 0]) := by
  refine Contract.of_call (VCall.of_body hmix f_inst_Encode (by simp) ?_)
  have hb := okI_in h
  have c1 : IntKind.u32.wrap op = op := w32_in ⟨by omega, by omega⟩
  have c2 : IntKind.u32.wrap a = a := w32_in ⟨by omega, by omega⟩
  have c3 : IntKind.u32.wrap b = b := w32_in ⟨by omega, by omega⟩
  have c4 : IntKind.u32.wrap c = c := w32_in ⟨by omega, by omega⟩
  have s1 : IntKind.u32.wrap (op * 2 ^ min 24 32) = op * 16777216 := w32_in (n := op * 16777216) ⟨by omega, by omega⟩
  have s2 : IntKind.u32.wrap (a * 2 ^ min 20 32) = a * 1048576 := w32_in (n := a * 1048576) ⟨by omega, by omega⟩
  have s3 : IntKind.u32.wrap (b * 2 ^ min 16 32) = b * 65536 := w32_in (n := b * 65536) ⟨by omega, by omega⟩
  have o1 : IntKind.u32.wrap (((BitVec.ofInt 32 (op * 16777216) ||| BitVec.ofInt 32 (a * 1048576)).toNat : Nat) : Int) = op * 16777216 + a * 1048576 := or_hi (x := op) 24 (by omega) (by omega) (by omega) (by omega) (by omega) (by omega)
  have o2 : IntKind.u32.wrap (((BitVec.ofInt 32 (op * 16777216 + a * 1048576) ||| BitVec.ofInt 32 (b * 65536)).toNat : Nat) : Int) = op * 16777216 + a * 1048576 + b * 65536 := by
    have := or_hi (x := op * 16 + a) (y := b * 65536) 20 (by omega) (by omega) (by omega) (by omega) (by omega) (by omega)
    rw [show (op * 16 + a) * ((2 ^ 20 : Nat) : Int) = op * 16777216 + a * 1048576 by omega] at this
    exact this
  have o3 : IntKind.u32.wrap (((BitVec.ofInt 32 (op * 16777216 + a * 1048576 + b * 65536) ||| BitVec.ofInt 32 c).toNat : Nat) : Int) = op * 16777216 + a * 1048576 + b * 65536 + c := by
    have := or_hi (x := op * 256 + a * 16 + b) (y := c) 16 (by omega) (by omega) (by omega) (by omega) (by omega) (by omega)
    rw [show (op * 256 + a * 16 + b) * ((2 ^ 16 : Nat) : Int) = op * 16777216 + a * 1048576 + b * 65536 by omega] at this
    exact this
  simp only [go_sem, Nat.reduceEqDiff, Nat.reduceAdd, ↓reduceIte, ↓dreduceIte, c_inst_Encode]
  refine VCall.of_contract (right_c _ _ _ _) (SleL.pure rfl) fun x hx => ?_
  subst hx
  simp only [go_sem, Nat.reduceEqDiff, Nat.reduceAdd, ↓reduceIte, Nat.reduceLeDiff, Int.reduceToNat, Int.reduceLE, h, c1, c2, c3, c4, s1, s2, s3]
  refine ⟨_, Frz.pure rfl, ?_⟩
  unfold encI
  rw [← o3, ← o2, ← o1]
  rfl
end Go.Proofs.Ytkbhfokbhkmfgaa
namespace Go.Proofs.Ytkbhfokbhkmfgaa
set_option linter.unusedSimpArgs false
set_option linter.unusedVariables false
set_option maxRecDepth 10000
open Go.V
theorem flat_at {α : Type} [Inhabited α] (f : α → List AV) (n : Nat) (hf : ∀ a, (f a).length = n) : ∀ (l : List α) (k : Nat), k < l.length → (((l.map f).flatten).drop (k * n)).take n = f (l.getD k default)
  | [], k, h => absurd h (Nat.not_lt_zero _)
  | a :: l, 0, _ => by simp [List.take_append_of_le_length (Nat.le_of_eq (hf a).symm), List.take_of_length_le (Nat.le_of_eq (hf a))]
  | a :: l, k + 1, h => by
    have := flat_at f n hf l k (by simpa using h)
    simp only [List.map_cons, List.flatten_cons, List.getD_cons_succ]
    rw [← this, List.drop_append, show (k + 1) * n - (f a).length = k * n by rw [hf, Nat.add_mul]; omega, List.drop_eq_nil_of_le (by rw [hf, Nat.add_mul]; omega), List.nil_append]
theorem cellT_flat {α : Type} [Inhabited α] {f : α → List AV} {n : Nat} (hf : ∀ a, (f a).length = n) {l : List α} {k : Nat} {C : AV → Prop} (hk : k < l.length) : cellT (l.map f).flatten (k * n) true n C .mk = C (.agg (f (l.getD k default))) := by
  show (partOK _ _ _ _ ∧ C (partA _ _ _ _)) = _
  have hl : (l.map f).flatten.length = l.length * n := sz_flat f n hf l
  have : partOK (l.map f).flatten (k * n) true n := ⟨by rw [hl]; have := Nat.mul_le_mul_right n (show k + 1 ≤ l.length by omega); rw [Nat.add_mul] at this; omega, .inl rfl⟩
  rw [show partA (l.map f).flatten (k * n) true n = .agg (f (l.getD k default)) by unfold partA; rw [if_pos rfl, flat_at f n hf l k hk]]
  simp [this]
theorem ci_set : ∀ (l : List Ci) (k : Nat) (x : Int), k < l.length → ((l.map ciL).flatten).set (k * 4 + 3) (I x) = ((l.set k { l.getD k default with c := x }).map ciL).flatten
  | [], k, x, h => absurd h (Nat.not_lt_zero _)
  | i :: l, 0, x, _ => by simp
  | i :: l, k + 1, x, h => by
    have := ci_set l k x (by simpa using h)
    simp only [List.map_cons, List.flatten_cons, List.getD_cons_succ, List.set_cons_succ]
    rw [← this, List.set_append_right _ _ (by simp only [List.length_cons, List.length_nil]; omega)]
    simp only [List.length_cons, List.length_nil]
    rw [show (k + 1) * 4 + 3 - (0 + 1 + 1 + 1 + 1) = k * 4 + 3 by omega]
def tgt (en : List Int) (rows : List (List Int)) (p : Int × Int) : Int := if 0 ≤ p.2 then (rows.getD p.1.toNat []).getD p.2.toNat default else en.getD p.1.toNat default
def patch (en : List Int) (rows : List (List Int)) : List Ci → List Sp → List Ci
  | code, [] => code
  | code, s :: t => patch en rows (code.set s.1.toNat { code.getD s.1.toNat default with c := tgt en rows s.2 }) t
def fixY (en : List Int) (rows : List (List Int)) (l : List Sy) : List Ci := l.map fun y => match y.2 with
  | none => y.1
  | some p => { y.1 with c := tgt en rows p }
theorem patch_spot (en : List Int) (rows : List (List Int)) : ∀ (l : List Sy) (pre : List Ci), patch en rows (pre ++ l.map (·.1)) (spotL pre.length l) = pre ++ fixY en rows l
  | [], pre => by simp [spotL, patch, fixY]
  | (i, none) :: l, pre => by
    have := patch_spot en rows l (pre ++ [i])
    simp only [List.length_append, List.length_cons, List.length_nil, List.append_assoc, List.cons_append, List.nil_append, Nat.zero_add] at this
    simpa [spotL, fixY] using this
  | (i, some p) :: l, pre => by
    have := patch_spot en rows l (pre ++ [{ i with c := tgt en rows p }])
    simp only [List.length_append, List.length_cons, List.length_nil, List.append_assoc, List.cons_append, List.nil_append, Nat.zero_add] at this
    simp only [List.map_cons, spotL, patch, fixY] at this ⊢
    rw [Int.toNat_natCast, show (pre ++ i :: l.map (·.1)).getD pre.length default = i by simp [List.getD], show (pre ++ i :: l.map (·.1)).set pre.length { i with c := tgt en rows (p.1, p.2) } = pre ++ { i with c := tgt en rows p } :: l.map (·.1) by simp]
    exact this
theorem spotL_mem : ∀ (l : List Sy) (n : Nat) (s : Sp), s ∈ spotL n l → (n : Int) ≤ s.1 ∧ s.1 < ((n + l.length : Nat) : Int) ∧ ∃ i, (i, some s.2) ∈ l
  | [], n, s, h => by simp [spotL] at h
  | (i, none) :: l, n, s, h => by
    obtain ⟨h1, h2, j, h3⟩ := spotL_mem l (n + 1) s h
    exact ⟨by omega, by simp only [List.length_cons]; omega, j, List.mem_cons_of_mem _ h3⟩
  | (i, some p) :: l, n, s, h => by
    simp only [spotL, List.mem_cons] at h
    rcases h with rfl | h
    · exact ⟨by simp, by simp only [List.length_cons]; omega, i, List.mem_cons_self⟩
    · obtain ⟨h1, h2, j, h3⟩ := spotL_mem l (n + 1) s h
      exact ⟨by omega, by simp only [List.length_cons]; omega, j, List.mem_cons_of_mem _ h3⟩
structure RowsH (H : List VObj) (bl : List AV) (rows : List (List Int)) : Prop where
  len : bl.length = rows.length
  row : ∀ i < rows.length, ∃ kr sr, bl.getD i .dead = .ref kr sr 0 (rows.getD i []).length ∧ H[kr]? = some ⟨sr, 3, 1, (rows.getD i []).map I⟩
structure FQ2 where
  k : Nat
  code : List Ci
  H : List VObj
  nx : Nat
def JOk (en : List Int) (rows : List (List Int)) (l : List Sy) : Prop := ∀ i p, (i, some p) ∈ l → 0 ≤ p.1 ∧ p.1 < en.length ∧ p.1 < rows.length ∧ p.2 < (rows.getD p.1.toNat []).length
def wlJ (fx : List Ci) (i : Nat) : List Int := (List.range fx.length).map fun j => if j < i then encI (fx.getD j default).op (fx.getD j default).a (fx.getD j default).b (fx.getD j default).c else 0
theorem wlJ_zero (fx : List Ci) : wlJ fx 0 = List.replicate fx.length 0 := List.ext_getElem (by simp [wlJ]) fun i h1 h2 => by simp [wlJ]
theorem wlJ_len (fx : List Ci) (i : Nat) : (wlJ fx i).length = fx.length := by simp [wlJ]
theorem wlJ_set (fx : List Ci) {i : Nat} (hi : i < fx.length) : (wlJ fx i).set i (encI (fx.getD i default).op (fx.getD i default).a (fx.getD i default).b (fx.getD i default).c) = wlJ fx (i + 1) := by
  refine List.ext_getElem (by simp [wlJ]) fun j h1 h2 => ?_
  rw [List.getElem_set]
  simp only [wlJ, List.getElem_map, List.getElem_range]
  by_cases e : i = j
  · subst e; rw [if_pos rfl, if_pos (by omega)]
  · rw [if_neg e]
    by_cases h : j < i
    · rw [if_pos h, if_pos (by omega)]
    · rw [if_neg h, if_neg (by omega)]
theorem wlJ_all (fx : List Ci) {i : Nat} (hi : fx.length ≤ i) : wlJ fx i = fx.map fun t => encI t.op t.a t.b t.c := by
  refine List.ext_getElem (by simp [wlJ]) fun j h1 h2 => ?_
  have hj : j < fx.length := by simpa [wlJ] using h1
  simp only [wlJ, List.getElem_map, List.getElem_range]
  rw [if_pos (by omega)]
  simp [List.getD, List.getElem?_eq_getElem hj]
abbrev fT : List Nat := [115]
abbrev encW (i : Ci) : Int := encI i.op i.a i.b i.c
theorem WH.setC {b : BP} {ws : List Int} {back fn : Int} {plv : AV} {q : WI} {H : List VObj} {code code' : List Ci} {sp : List Sp} {en : List Int} {bl : List AV} (h : WH b ws back fn plv q H code sp en bl) {k s : Nat} {pv : AV} (hw : H[q.kW]? = some ⟨q.sW, 75, 1, wrL b back fn plv q (.ref k s 0 code.length) pv⟩)
    (hk : H[k]? = some ⟨s, 115, 4, (code.map ciL).flatten⟩) (hl : code'.length = code.length) : WH b ws back fn plv q (H.set k ⟨s, 115, 4, (code'.map ciL).flatten⟩) code' sp en bl := by
  obtain ⟨cv', pv', hw', hc, ⟨k2, s2, e2, hp⟩⟩ := h.w
  rw [hw] at hw'
  simp only [Option.some.injEq, VObj.mk.injEq, List.cons.injEq, true_and, and_true] at hw'
  obtain ⟨rfl, rfl⟩ := hw'
  have t : ∀ {i : Nat} {ob : VObj} {o : VObj}, H[i]? = some ob → ob.ty ≠ 115 → (H.set k o)[i]? = some ob := fun {i ob o} h1 h2 => by
    rw [set_ne (fun e => by subst e; rw [hk] at h1; cases h1; exact h2 rfl)]; exact h1
  exact ⟨⟨_, _, t hw (by simp), ⟨k, s, by rw [hl], set_get hk⟩, ⟨k2, s2, e2, t hp (by simp)⟩⟩, t h.e (by simp), t h.b (by simp), t h.d (by simp)⟩
set_option maxHeartbeats 1000000 in
theorem finish_v {b : BP} {ws : List Int} {back fn : Int} {plv : AV} {q : WI} {H0 : List VObj} {l : List Sy} {en : List Int} {bl : List AV} {rows : List (List Int)} (hp1 : plv.one = true) (h : WH b ws back fn plv q H0 (l.map (·.1)) (spotL 0 l) en bl) (hr : RowsH H0 bl rows) (hnf : bl.length = b.funcs.length) (hen : en.length = b.funcs.length) (h20 : b.funcs.length ≤ 20)
    (hj : JOk en rows l) (hl : l.length ≤ 100000) (hok : ∀ i ∈ fixY en rows l, okI i.op i.a i.b i.c = true) (nx0 : Nat) (C : AV → List VObj → Nat → Prop)
    (hC : ∀ H' nx' k s, H'[k]? = some ⟨s, 45, 1, ((fixY en rows l).map encW).map U32⟩ → KeepT wT H0 H' → C (.tup [.ref k s 0 l.length, I 0]) H' nx') :
    VCall Try.prog 32 [.ptr q.kW q.sW 0] H0 nx0 C := by
  refine VCall.of_body hmix f_choose_writer_finish (by simp) ?_
  have hmx : (200000000 : Nat) ≤ maxLen := by decide
  have hsl := spotL_len l 0
  obtain ⟨cv, pv, hw, ⟨kC, sC, rfl, hkC⟩, ⟨kP, sP, rfl, hkP⟩⟩ := h.w
  simp only [go_sem, Nat.reduceAdd, ↓reduceIte, reduceCtorEq, Nat.reduceLeDiff, c_choose_writer_finish, hw, hkP, List.length_map]
  refine VW_loop (fun x : FQ2 => ⟨[(0, .ptr q.kW q.sW 0), (15, .ref kP sP 0 (spotL 0 l).length), (16, I (spotL 0 l).length), (17, I x.k)], x.H, x.nx⟩)
    (fun x => x.k ≤ (spotL 0 l).length ∧ WH b ws back fn plv q x.H x.code (spotL 0 l) en bl ∧ x.H[kP]? = some ⟨sP, 113, 3, ((spotL 0 l).map spL).flatten⟩ ∧ patch en rows x.code ((spotL 0 l).drop x.k) = fixY en rows l ∧ x.code.length = l.length ∧ KeepT fT H0 x.H) (fun x => (spotL 0 l).length - x.k) ⟨0, l.map (·.1), H0, nx0⟩
    (Wk.mk (by simp [get_cons]) ⟨[], by simp⟩ (Nat.le_refl _)) ⟨Nat.zero_le _, h, hkP, by simpa using patch_spot en rows l [], by simp, KeepT.refl _ _⟩ ?_
  rintro ⟨k, code, H, nx⟩ ⟨hk, hwh, hP, hpa, hcl, hkp⟩
  simp only at hk hwh hP hpa hcl hkp
  by_cases hlt : k < (spotL 0 l).length
  · have hsm : (spotL 0 l).getD k default ∈ spotL 0 l := mem_getD hlt
    obtain ⟨a1, a2, i0, a3⟩ := spotL_mem l 0 _ hsm
    have hdrop : (spotL 0 l).drop k = (spotL 0 l).getD k default :: (spotL 0 l).drop (k + 1) := by
      rw [List.drop_eq_getElem_cons hlt]; simp [List.getD, List.getElem?_eq_getElem hlt]
    rw [hdrop, patch] at hpa
    obtain ⟨b1, b2, b3, b4⟩ := hj _ _ a3
    have hcF : ∀ {C : AV → Prop}, cellT ((spotL 0 l).map spL).flatten (k * 3) true 3 C .mk = C (.agg (spL ((spotL 0 l).getD k default))) := fun {C} => cellT_flat (f := spL) (n := 3) (fun _ => rfl) hlt
    generalize hs : (spotL 0 l).getD k default = s at *
    obtain ⟨at', fn', to'⟩ := s
    simp only at a1 a2 b1 b2 b3 b4
    obtain ⟨cv2, pv2, hw2, ⟨k2, s2, rfl, hk2⟩, hp2⟩ := hwh.w
    have he := hwh.e
    have hb := hwh.b
    have n1 := ne_len hP
    have n2 := ne_len hw2
    have n3 := ne_len he
    have n4 := ne_len hb
    have n5 := ne_len hk2
    have l1 := lt_of hP
    have l2 := lt_of hw2
    have l3 := lt_of he
    have l4 := lt_of hb
    have l5 := lt_of hk2
    have l6 : (H.length < H.length + 1) = True := eq_true (by omega)
    have es : ∀ x y : VObj, (H ++ [x]).set H.length y = H ++ [y] := fun x y => by simp
    obtain ⟨kr, sr, hrow1, hrow0⟩ := hr.row fn'.toNat (by omega)
    have hrow2 := hkp _ _ hrow0 (by simp)
    have hcell : ∀ {C : AV → Prop}, cellT bl fn'.toNat false 1 C .mk = C (.ref kr sr 0 (rows.getD fn'.toNat []).length) := fun {C} => cellT_at (by have := hr.len; omega) rfl hrow1
    have n6 := ne_len hrow2
    have l7 := lt_of hrow2
    have hci : ∀ x : Int, ((code.map ciL).flatten).set (at'.toNat * 4 + 3) (I x) = ((code.set at'.toNat { code.getD at'.toNat default with c := x }).map ciL).flatten := fun x => ci_set code _ x (by omega)
    have hla : (code.map ciL).flatten.length = code.length * 4 := sz_flat ciL 4 (fun _ => rfl) code
    by_cases h0 : 0 ≤ to'
    · have htg : tgt en rows (fn', to') = (rows.getD fn'.toNat []).getD to'.toNat default := if_pos h0
      simp only [go_sem, Nat.reduceEqDiff, Nat.reduceAdd, ↓reduceIte, ↓dreduceIte, reduceCtorEq, Nat.reduceLeDiff, eq_true (show (k : Int) < (spotL 0 l).length by omega), hP, hcF, hw2, he, hb, hk2, hrow2, hcell, l2, l3, l4, l5, l7, es, eq_true h0, List.getElem?_append, Nat.lt_irrefl, Nat.sub_self, List.length_cons, List.length_nil, ↓reduceIte, List.getElem?_cons_zero]
      repeat ((with_reducible refine And.intro ?_ ?_); · first | omega | (simp; omega))
      rw [hci, ← htg, i64_in (n := (k : Int) + 1) (by omega) (by omega)]
      exact ⟨⟨k + 1, code.set at'.toNat { code.getD at'.toNat default with c := tgt en rows (fn', to') }, (H ++ [(⟨nx, 113, 1, [I at', I fn', I to']⟩ : VObj)]).set k2 ⟨s2, 115, 4, ((code.set at'.toNat { code.getD at'.toNat default with c := tgt en rows (fn', to') }).map ciL).flatten⟩, nx + 1⟩,
        ⟨by simp only; omega, (hwh.keep (KeepT.app _ _ _)).setC (ap_old hw2 _) (ap_old hk2 _) (by simp), by simp only; rw [set_ne (fun e => by rw [e, hP] at hk2; simp at hk2)]; exact ap_old hP _, hpa, by simp [hcl], hkp.trans ((KeepT.app _ _ _).trans (KeepT.set (ap_old hk2 _) (by simp)))⟩, by simp only; omega, Wk.mk (by simp [get_cons]) ⟨[], by simp⟩ (Nat.le_refl _)⟩
    · have htg : tgt en rows (fn', to') = en.getD fn'.toNat default := if_neg h0
      simp only [go_sem, Nat.reduceEqDiff, Nat.reduceAdd, ↓reduceIte, reduceCtorEq, Nat.reduceLeDiff, eq_true (show (k : Int) < (spotL 0 l).length by omega), hP, hcF, hw2, he, hk2, l2, l3, l5, es, eq_false h0, List.getElem?_append, Nat.lt_irrefl, Nat.sub_self, List.length_cons, List.length_nil, ↓reduceIte, List.getElem?_cons_zero]
      repeat ((with_reducible refine And.intro ?_ ?_); · first | omega | (simp; omega))
      rw [hci, ← htg, i64_in (n := (k : Int) + 1) (by omega) (by omega)]
      exact ⟨⟨k + 1, code.set at'.toNat { code.getD at'.toNat default with c := tgt en rows (fn', to') }, (H ++ [(⟨nx, 113, 1, [I at', I fn', I to']⟩ : VObj)]).set k2 ⟨s2, 115, 4, ((code.set at'.toNat { code.getD at'.toNat default with c := tgt en rows (fn', to') }).map ciL).flatten⟩, nx + 1⟩,
        ⟨by simp only; omega, (hwh.keep (KeepT.app _ _ _)).setC (ap_old hw2 _) (ap_old hk2 _) (by simp), by simp only; rw [set_ne (fun e => by rw [e, hP] at hk2; simp at hk2)]; exact ap_old hP _, hpa, by simp [hcl], hkp.trans ((KeepT.app _ _ _).trans (KeepT.set (ap_old hk2 _) (by simp)))⟩, by simp only; omega, Wk.mk (by simp [get_cons]) ⟨[], by simp⟩ (Nat.le_refl _)⟩
  · obtain rfl : k = (spotL 0 l).length := by omega
    rw [List.drop_length, patch] at hpa
    subst hpa
    obtain ⟨cv2, pv2, hw2, ⟨k2, s2, rfl, hk2⟩, hp2⟩ := hwh.w
    have n2 := ne_len hw2
    have n5 := ne_len hk2
    have l2 := lt_of hw2
    have l5 := lt_of hk2
    rw [hcl] at hw2
    simp only [go_sem, Nat.reduceEqDiff, Nat.reduceAdd, ↓reduceIte, reduceCtorEq, Nat.reduceLeDiff, eq_false (show ¬ ((spotL 0 l).length : Int) < (spotL 0 l).length by omega), hw2, hk2, l2, l5, List.getElem?_append, List.length_cons, List.length_nil, ↓reduceIte]
    repeat ((with_reducible refine And.intro ?_ ?_); · first | omega | (simp; omega))
    rw [flat_rep, show List.replicate l.length (AV.val (.int .u32 0)) = (wlJ (fixY en rows l) 0).map U32 by rw [wlJ_zero, hcl, List.map_replicate]]
    refine VW_loop (fun x : LQ => ⟨[(7, .ref H.length nx 0 l.length), (63, .ref k2 s2 0 l.length), (64, I l.length), (65, I x.j)], x.H, x.nx⟩)
      (fun x => x.j ≤ l.length ∧ x.H[k2]? = some ⟨s2, 115, 4, ((fixY en rows l).map ciL).flatten⟩ ∧ x.H[H.length]? = some ⟨nx, 45, 1, (wlJ (fixY en rows l) x.j).map U32⟩ ∧ KeepR H.length H x.H) (fun x => l.length - x.j) ⟨0, H ++ [⟨nx, 45, 1, (wlJ (fixY en rows l) 0).map U32⟩], nx + 1⟩
      (Wk.mk (by simp [get_cons]) ⟨[], by simp⟩ (Nat.le_refl _)) ⟨Nat.zero_le _, ap_old hk2 _, by simp, KeepR.of (KeepT.app _ _ _)⟩ ?_
    rintro ⟨i, H1, nx1⟩ ⟨hi, hc1, hr1, hk1⟩
    simp only at hi hc1 hr1 hk1
    generalize hfx : fixY en rows l = fx at *
    by_cases hil : i < l.length
    · have hm1 := hok _ (mem_getD (show i < fx.length by omega))
      have hcF : ∀ {C : AV → Prop}, cellT (fx.map ciL).flatten (i * 4) true 4 C .mk = C (.agg (ciL (fx.getD i default))) := fun {C} => cellT_flat (f := ciL) (n := 4) (fun _ => rfl) (by omega)
      have hsw := wlJ_set fx (show i < fx.length by omega)
      generalize hs : fx.getD i default = t at *
      have n6 := ne_len hc1
      have n7 := ne_len hr1
      have l6 := lt_of hc1
      have l7 := lt_of hr1
      have l8 : (H1.length < H1.length + 1) = True := eq_true (by omega)
      have es : ∀ x y : VObj, (H1 ++ [x]).set H1.length y = H1 ++ [y] := fun x y => by simp
      simp only [go_sem, Nat.reduceEqDiff, Nat.reduceAdd, ↓reduceIte, ↓dreduceIte, eq_true (show (i : Int) < l.length by omega), hc1, hcF, es, List.getElem?_append, Nat.lt_irrefl, Nat.sub_self, List.length_cons, List.length_nil, ↓reduceIte, List.getElem?_cons_zero]
      repeat ((with_reducible refine And.intro ?_ ?_); · first | omega | (simp; omega))
      refine VCall.of_contract (encI_c t.op t.a t.b t.c hm1) (SleL.pure rfl) fun x hx => ?_
      subst hx
      simp only [go_sem, Nat.reduceEqDiff, Nat.reduceAdd, ↓reduceIte, Nat.reduceLT, hr1, l7, List.getElem?_append, List.length_map, ↓reduceIte, bne_self_eq_false]
      refine ⟨hil, by rw [wlJ_len]; omega, ?_⟩
      rw [show ((wlJ fx i).map U32).set i (U32 (encI t.op t.a t.b t.c)) = (wlJ fx (i + 1)).map U32 by rw [← hsw, List.map_set], i64_in (n := (i : Int) + 1) (by omega) (by omega)]
      exact ⟨⟨i + 1, (H1 ++ [(⟨nx1, 115, 1, ciL t⟩ : VObj)]).set H.length ⟨nx, 45, 1, (wlJ fx (i + 1)).map U32⟩, nx1 + 1⟩, ⟨by simp only; omega, by simp only; rw [set_ne (fun e => by rw [← e, hr1] at hc1; simp at hc1)]; exact ap_old hc1 _, set_get (ap_old hr1 _), (hk1.trans (KeepR.of (KeepT.app _ _ _))).trans (KeepR.set _ _ _)⟩, by simp only; omega, Wk.mk (by simp [get_cons]) ⟨[], by simp⟩ (Nat.le_refl _)⟩
    · obtain rfl : i = l.length := by omega
      simp only [go_sem, Nat.reduceEqDiff, ↓reduceIte, eq_false (show ¬ (l.length : Int) < l.length by omega)]
      rw [wlJ_all fx (by omega)] at hr1
      exact hC _ _ _ _ hr1 fun a ob g1 g2 => by
        have g3 := hkp a ob g1 (fun e => g2 (by simp at e; simp [e]))
        exact hk1 a ob g3 g2 (by have := (List.getElem?_eq_some_iff.1 g3).1; omega)
end Go.Proofs.Ytkbhfokbhkmfgaa
namespace Go.Proofs.Ytkbhfokbhkmfgaa
set_option linter.unusedSimpArgs false
set_option linter.unusedVariables false
set_option maxRecDepth 10000
open Go.V
theorem parts_of {f : BF} {number words : Int} (h : oneB f number words = true) : ∀ b ∈ f.bks, EndsP b f.bks.length f.regs ∧ ∀ t ∈ b.ins, FitsT t number f.regs words := by
  unfold oneB at h
  simp only [Bool.and_eq_true, decide_eq_true_eq, List.all_eq_true] at h
  intro b hb
  have h5 := h.2 b hb
  unfold blkB endsB insB fitsT at h5
  simp only [Bool.and_eq_true, decide_eq_true_eq, List.all_eq_true] at h5
  exact h5
section
variable {op a b c : Int}
theorem ok_num (ho : op = 16 ∨ op = 17) (ha : 0 ≤ a ∧ a ≤ 15) (hb : 0 ≤ b ∧ b ≤ 15) (hc : 0 ≤ c ∧ c ≤ 65535) : okI op a b c = true := by
  rcases ho with rfl | rfl <;> simp [okI, vOp, winB, hA, hB, cK] <;> omega
theorem ok_one (ho : op = 1 ∨ op = 2 ∨ op = 19 ∨ op = 20 ∨ op = 21 ∨ op = 25) (ha : 0 ≤ a ∧ a ≤ 15) (hc : 0 ≤ c ∧ c ≤ 65535) : okI op a 0 c = true := by
  rcases ho with rfl | rfl | rfl | rfl | rfl | rfl <;> simp [okI, vOp, winB, hA, hB, cK] <;> omega
theorem ok_jmp (hc : 0 ≤ c ∧ c ≤ 65535) : okI 18 0 0 c = true := by simp [okI, vOp, winB, hA, hB, cK]; omega
theorem ok_reg (ho : op = 22 ∨ op = 23 ∨ op = 24) (ha : 0 ≤ a ∧ a ≤ 15) : okI op a 0 0 = true := by
  rcases ho with rfl | rfl | rfl <;> simp [okI, vOp, winB, hA, hB, cK] <;> omega
theorem ok_mov (ha : 0 ≤ a ∧ a ≤ 15) (hb : 0 ≤ b ∧ b ≤ 15) : okI 3 a b 0 = true := by simp [okI, vOp, winB, hA, hB, cK]; omega
theorem ok_halt : okI 26 0 0 0 = true := by decide
theorem ok_op (ho : 4 ≤ op ∧ op ≤ 15) (ha : 0 ≤ a ∧ a ≤ 15) (hb : 0 ≤ b ∧ b ≤ 15) (hc : 0 ≤ c ∧ c ≤ 15) : okI op a b c = true := by
  have h1 : op ≠ 18 := by omega
  have h2 : op ≠ 26 := by omega
  have e1 : vOp op = true := by simp [vOp]; omega
  have e2 : hA op = true := by simp [hA, e1, h1, h2]
  have e3 : hB op = true := by simp [hB]; omega
  have e4 : cK op = 2 := by unfold cK; rw [if_pos ho]
  simp [okI, e1, e2, e3, e4, winB]; omega
end
def SyOk (b : BP) (y : Sy) : Prop := (y.2 = none → okI y.1.op y.1.a y.1.b y.1.c = true) ∧
  ∀ p, y.2 = some p → (∀ x, 0 ≤ x ∧ x ≤ 65535 → okI y.1.op y.1.a y.1.b x = true) ∧ 0 ≤ p.1 ∧ p.1 < b.funcs.length ∧ p.2 < ((b.funcs.getD p.1.toNat default).bks.length : Int)
theorem SyOk.p {b : BP} {op a bb c : Int} (h : okI op a bb c = true) : SyOk b (pY op a bb c) := ⟨fun _ => h, fun p hp => by simp [pY] at hp⟩
theorem SyOk.j {b : BP} {op a f to : Int} (h : ∀ x, 0 ≤ x ∧ x ≤ 65535 → okI op a 0 x = true) (h0 : 0 ≤ f) (h1 : f < b.funcs.length) (h2 : to < ((b.funcs.getD f.toNat default).bks.length : Int)) : SyOk b (jY op a f to) :=
  ⟨fun e => by simp [jY] at e, fun p hp => by simp only [jY, Option.some.injEq] at hp; subst hp; exact ⟨h, h0, h1, h2⟩⟩
structure CxS (c : Cx) : Prop where
  ok : CxOk c
  ws : gP c.ws c.fn ≤ 60000
  bk : c.back + c.fn ≤ 65535
section
variable {c : Cx}
theorem CxS.own (h : CxS c) {p : Int} (hp : -4000 ≤ p ∧ p ≤ -1) : 0 ≤ c.own p ∧ c.own p ≤ 65535 := by
  have h1 := h.ok.wv c.fn (by rw [h.ok.wl]; exact h.ok.fl)
  have h2 := h.ws
  unfold Cx.own; omega
theorem CxS.reg (h : CxS c) {v s : Int} (hv : 0 ≤ v ∧ v < c.pl.length) (hs : 0 ≤ s ∧ s ≤ 15) : 0 ≤ fetchR c v s ∧ fetchR c v s ≤ 15 := by
  have := h.ok.p hv.1 hv.2
  unfold fetchR; split <;> omega
theorem CxS.int (h : CxS c) {v : Int} (hv : 0 ≤ v ∧ v < c.pl.length) : 0 ≤ intoR c v ∧ intoR c v ≤ 15 := by
  have := h.ok.p hv.1 hv.2
  unfold intoR; split <;> omega
theorem fetch_ok (h : CxS c) {v s : Int} (hv : 0 ≤ v ∧ v < c.pl.length) (hs : 0 ≤ s ∧ s ≤ 15) : ∀ y ∈ fetchY c v s, SyOk c.b y := by
  have := h.ok.p hv.1 hv.2
  intro y hy
  unfold fetchY at hy
  split at hy
  · simp at hy
  · simp only [List.mem_singleton] at hy
    subst hy
    exact SyOk.p (ok_num (.inl rfl) hs ⟨by omega, by omega⟩ (h.own (by omega)))
theorem keep_ok (h : CxS c) {v r : Int} (hv : 0 ≤ v ∧ v < c.pl.length) (hr : 0 ≤ r ∧ r ≤ 15) : ∀ y ∈ keepY c v r, SyOk c.b y := by
  have := h.ok.p hv.1 hv.2
  intro y hy
  unfold keepY at hy
  split at hy
  · simp only [List.mem_singleton] at hy
    subst hy
    exact SyOk.p (ok_num (.inr rfl) hr ⟨by omega, by omega⟩ (h.own (by omega)))
  · simp at hy
theorem all_app {P : Sy → Prop} {l m : List Sy} (h1 : ∀ y ∈ l, P y) (h2 : ∀ y ∈ m, P y) : ∀ y ∈ l ++ m, P y := fun y hy => (List.mem_append.1 hy).elim (h1 y) (h2 y)
theorem all_one {P : Sy → Prop} {x : Sy} (h : P x) : ∀ y ∈ [x], P y := fun y hy => by rw [List.mem_singleton.1 hy]; exact h
theorem all_nil {P : Sy → Prop} : ∀ y ∈ ([] : List Sy), P y := fun y hy => by cases hy
theorem const_ok (h : CxS c) {v n : Int} (hv : 0 ≤ v ∧ v < c.pl.length) (hn : In32 n) : ∀ y ∈ constY c v n, SyOk c.b y := by
  obtain ⟨h0, h1⟩ := hn
  have hi := h.int hv
  unfold constY
  split
  · exact keep_ok h hv ⟨by omega, by omega⟩
  · refine all_app (l := [_]) (all_one (SyOk.p (ok_one (.inl rfl) hi ⟨by omega, by omega⟩))) (all_app ?_ (keep_ok h hv hi))
    split
    · exact all_nil
    · exact all_one (SyOk.p (ok_one (.inr (.inl rfl)) hi ⟨by omega, by omega⟩))
theorem copy_ok (h : CxS c) {d a : Int} (hd : 0 ≤ d ∧ d < c.pl.length) (ha : 0 ≤ a ∧ a < c.pl.length) : ∀ y ∈ copyY c d a, SyOk c.b y := by
  have hp := h.ok.p hd.1 hd.2
  unfold copyY
  split
  · exact all_nil
  split
  · refine all_app (fetch_ok h ha ⟨by omega, by omega⟩) ?_
    split
    · exact all_nil
    · exact all_one (SyOk.p (ok_mov ⟨by omega, by omega⟩ (h.reg ha ⟨by omega, by omega⟩)))
  · exact all_app (fetch_ok h ha ⟨by omega, by omega⟩) (keep_ok h hd (h.reg ha ⟨by omega, by omega⟩))
theorem ins_ok (h : CxS c) {t : Tac} (ht : InsOk c t) {words regs : Int} (hf : FitsT t c.fn regs words) (hw : words ≤ 60000) (hb : ∀ i < c.b.funcs.length, 0 < (c.b.funcs.getD i default).bks.length) : ∀ y ∈ insY c t, SyOk c.b y := by
  obtain ⟨_, _, _, _, _, _, _, hr⟩ := hf
  have ho := ht.o
  have hfl := h.ok.fl
  obtain ⟨op, d, a, b, k, base, size, n⟩ := t
  have hd := ht.d
  have ha := ht.a
  have hbb := ht.b
  have hn := ht.n
  simp only [SetsT, restT] at ho hd ha hbb hn hr
  have r9 : (0 : Int) ≤ 9 ∧ (9 : Int) ≤ 15 := ⟨by omega, by omega⟩
  have r10 : (0 : Int) ≤ 10 ∧ (10 : Int) ≤ 15 := ⟨by omega, by omega⟩
  have r0 : (0 : Int) ≤ 0 ∧ (0 : Int) ≤ 15 := ⟨by omega, by omega⟩
  have hcs : op = 1 ∨ op = 2 ∨ op = 3 ∨ op = 4 ∨ op = 5 ∨ op = 6 ∨ op = 7 ∨ op = 8 ∨ op = 9 ∨ op = 10 := by omega
  rcases hcs with rfl | rfl | rfl | rfl | rfl | rfl | rfl | rfl | rfl | rfl <;> simp only [Int.reduceEq, or_false, or_true, or_self, ↓reduceIte, forall_const, false_implies] at hd ha hbb hr
  · exact const_ok h hd hn
  · exact copy_ok h hd ha
  · exact all_app (all_app (all_app (fetch_ok h ha r9) (fetch_ok h hbb r10)) (all_one (SyOk.p (ok_op ⟨hr.1, hr.2.1⟩ (h.int hd) (h.reg ha r9) (h.reg hbb r10))))) (keep_ok h hd (h.int hd))
  · exact all_app (all_one (SyOk.p (ok_num (.inl rfl) (h.int hd) r0 ⟨by first | omega | (dsimp only; omega), by first | omega | (dsimp only; omega)⟩))) (keep_ok h hd (h.int hd))
  · exact all_app (fetch_ok h ha r9) (all_one (SyOk.p (ok_num (.inr rfl) (h.reg ha r9) r0 ⟨by first | omega | (dsimp only; omega), by first | omega | (dsimp only; omega)⟩)))
  · exact all_app (all_app (all_app (fetch_ok h ha r9) (all_one (SyOk.p (ok_one (by omega) (h.reg ha r9) ⟨by first | omega | (dsimp only; omega), by first | omega | (dsimp only; omega)⟩)))) (all_one (SyOk.p (ok_num (.inl rfl) (h.int hd) (h.reg ha r9) ⟨by first | omega | (dsimp only; omega), by first | omega | (dsimp only; omega)⟩)))) (keep_ok h hd (h.int hd))
  · exact all_app (all_app (all_app (fetch_ok h ha r9) (all_one (SyOk.p (ok_one (by omega) (h.reg ha r9) ⟨by first | omega | (dsimp only; omega), by first | omega | (dsimp only; omega)⟩)))) (fetch_ok h hbb r10)) (all_one (SyOk.p (ok_num (.inr rfl) (h.reg hbb r10) (h.reg ha r9) ⟨by first | omega | (dsimp only; omega), by first | omega | (dsimp only; omega)⟩)))
  · exact all_app (all_one (SyOk.p (ok_reg (by omega) (h.int hd)))) (keep_ok h hd (h.int hd))
  · exact all_app (fetch_ok h ha r9) (all_one (SyOk.p (ok_reg (by omega) (h.reg ha r9))))
  · exact all_one (SyOk.j (fun x hx => ok_one (by omega) ⟨by first | omega | (dsimp only; omega), by first | omega | (dsimp only; omega)⟩ hx) hr.2.1 (by dsimp only; omega) (by have := hb base.toNat (by omega); dsimp only; omega))
theorem ends_ok (h : CxS c) {f : BF} (hf : c.b.funcs.getD c.fn default = f) {b : Bk} (hE : EndsP b f.bks.length f.regs) (hr : f.regs ≤ c.pl.length) (n : Int) : ∀ y ∈ endY c b n, SyOk c.b y := by
  have hfl := h.ok.fl
  have hbk := h.ok.bk
  have hbk2 := h.bk
  have e : (c.b.funcs.getD ((c.fn : Int)).toNat default).bks.length = f.bks.length := by rw [Int.toNat_natCast, hf]
  have jm : ∀ to : Int, to < f.bks.length → SyOk c.b (jY 18 0 c.fn to) := fun to hto => SyOk.j (fun x hx => ok_jmp hx) (by omega) (by omega) (by rw [e]; exact hto)
  unfold EndsP at hE
  unfold endY
  split
  · rename_i h1
    rw [if_pos h1] at hE
    split
    · exact all_nil
    · exact all_one (jm _ hE.2.1)
  split
  · rename_i h1 h2
    rw [if_neg h1, if_pos h2] at hE
    have hv : 0 ≤ b.v ∧ b.v < c.pl.length := ⟨hE.2.2.2.2.1, by omega⟩
    have r9 : (0 : Int) ≤ 9 ∧ (9 : Int) ≤ 15 := ⟨by omega, by omega⟩
    split
    · exact all_app (fetch_ok h hv r9) (all_one (SyOk.j (fun x hx => ok_one (by omega) (h.reg hv r9) hx) (by omega) (by omega) (by rw [e]; exact hE.2.2.2.1)))
    · refine all_app (all_app (fetch_ok h hv r9) (all_one (SyOk.j (fun x hx => ok_one (by omega) (h.reg hv r9) hx) (by omega) (by omega) (by rw [e]; exact hE.2.1)))) ?_
      split
      · exact all_nil
      · exact all_one (jm _ hE.2.2.2.1)
  split
  · split
    · exact all_one (SyOk.p ok_halt)
    · exact all_app (l := [_]) (all_one (SyOk.p (ok_num (.inl rfl) ⟨by omega, by omega⟩ ⟨by omega, by omega⟩ ⟨by omega, by omega⟩))) (all_one (SyOk.p (ok_reg (by omega) ⟨by omega, by omega⟩)))
  · exact all_nil
end
end Go.Proofs.Ytkbhfokbhkmfgaa
namespace Go.Proofs.Ytkbhfokbhkmfgaa
set_option linter.unusedSimpArgs false
set_option linter.unusedVariables false
set_option maxRecDepth 10000
open Go.V
def wsO (b : BP) (ls : List (List Int)) : List Int := (List.range b.funcs.length).map fun i => b.words + totW (ls.take i)
def cxO (b : BP) (ls : List (List Int)) (i : Nat) : Cx := ⟨b, wsO b ls, b.words + totW ls, i, ls.getD i default⟩
def fO (b : BP) (i : Nat) : BF := b.funcs.getD i default
structure S3 where
  l : List Sy
  en : List Int
  rows : List (List Int)
def stepO (b : BP) (ls : List (List Int)) (rw : Nat → List Bool) (S : S3) (i : Nat) : S3 :=
  ⟨S.l ++ funY (cxO b ls i) (rw i) (fO b i), S.en.set i (S.l.length : Nat), S.rows.set i (rowJ (cxO b ls i) (S.l ++ headY (cxO b ls i) (rw i)).length (fO b i).bks (fO b i).bks.length)⟩
def runO (b : BP) (ls : List (List Int)) (rw : Nat → List Bool) (ord : List Nat) : S3 := ord.foldl (stepO b ls rw) ⟨[], List.replicate b.funcs.length 0, List.replicate b.funcs.length []⟩
def ordJ (n j : Nat) : List Nat := (n - 1) :: List.range j
def endO (b : BP) (ls : List (List Int)) (rw : Nat → List Bool) : S3 := runO b ls rw (ordJ b.funcs.length (b.funcs.length - 1))
def codeO (b : BP) (ls : List (List Int)) (rw : Nat → List Bool) : List Int := (fixY (endO b ls rw).en (endO b ls rw).rows (endO b ls rw).l).map encW
def dataO (b : BP) (ls : List (List Int)) : Int := b.words + totW ls + ((b.funcs.length : Int) - 1)
theorem runO_snoc (b : BP) (ls : List (List Int)) (rw : Nat → List Bool) (o : List Nat) (i : Nat) : runO b ls rw (o ++ [i]) = stepO b ls rw (runO b ls rw o) i := by unfold runO; rw [List.foldl_append]; rfl
theorem ordJ_succ (n j : Nat) : ordJ n (j + 1) = ordJ n j ++ [j] := by unfold ordJ; rw [List.range_succ]; rfl
theorem totW_le {ls : List (List Int)} (hw : ∀ i < ls.length, 0 ≤ wdsI (ls.getD i default) ∧ wdsI (ls.getD i default) ≤ 4000) : ∀ k, k ≤ ls.length → 0 ≤ totW (ls.take k) ∧ totW (ls.take k) ≤ 4000 * k
  | 0, _ => by simp [totW]
  | k + 1, hk => by
    have h1 := totW_le hw k (by omega)
    have h2 := hw k (by omega)
    rw [totW_step ls (by omega)]
    omega
theorem totW_mono {ls : List (List Int)} (hw : ∀ i < ls.length, 0 ≤ wdsI (ls.getD i default) ∧ wdsI (ls.getD i default) ≤ 4000) : ∀ k d, k + d ≤ ls.length → totW (ls.take k) ≤ totW (ls.take (k + d))
  | k, 0, _ => Int.le_refl _
  | k, d + 1, h => by
    have h1 := totW_mono hw k d (by omega)
    have h2 := hw (k + d) (by omega)
    rw [← Nat.add_assoc, totW_step ls (by omega)]
    omega
section
variable {b : BP} {ls : List (List Int)}
theorem FairP.words (h : FairP b ls) : 0 ≤ b.words ∧ b.words ≤ 400 ∧ 0 < b.funcs.length := by
  have hr := h.few.r
  unfold rightB at hr
  simp only [Bool.and_eq_true, decide_eq_true_eq] at hr
  have := h.few.w
  exact ⟨hr.1.1, this, List.length_pos_iff.2 hr.1.2.2⟩
theorem FairP.tot (h : FairP b ls) (k : Nat) (hk : k ≤ ls.length) : 0 ≤ totW (ls.take k) ∧ totW (ls.take k) ≤ 600 := by
  have h1 := totW_le h.hold.wds k hk
  have h2 := totW_mono h.hold.wds k (ls.length - k) (by omega)
  rw [show k + (ls.length - k) = ls.length by omega, List.take_of_length_le (Nat.le_refl _)] at h2
  have := h.wds
  omega
theorem FairP.cx (h : FairP b ls) {i : Nat} (hi : i < b.funcs.length) : CxS (cxO b ls i) := by
  have hw := h.words
  have hl := h.hold.len
  have h20 := h.few.l
  obtain ⟨hf, hr, ho⟩ := h.few.fine hi
  obtain ⟨L, hL, hA⟩ := h.hold.al i hi
  have hT := h.tot ls.length (Nat.le_refl _)
  rw [List.take_of_length_le (Nat.le_refl _)] at hT
  have hwl : (wsO b ls).length = b.funcs.length := by simp [wsO]
  have hg : ∀ k < b.funcs.length, gP (wsO b ls) k = b.words + totW (ls.take k) := fun k hk => by simp [gP, wsO, List.getD, hk]
  have hpl : (ls.getD i default).length = (b.funcs.getD i default).r := hA.len
  refine ⟨⟨hi, h20, hwl, fun k hk => ?_, ?_, ?_, fun v hv => ?_⟩, ?_, ?_⟩
  · rw [show (cxO b ls i).ws = wsO b ls from rfl] at hk ⊢
    rw [hwl] at hk
    have := h.tot k (by omega)
    rw [hg k hk]; omega
  · show 0 ≤ b.words + totW ls ∧ b.words + totW ls ≤ 100000
    omega
  · show (ls.getD i default).length ≤ 4000
    omega
  · exact hA.ok v (by rw [← hpl]; exact hv)
  · show gP (wsO b ls) i ≤ 60000
    have := h.tot i (by omega)
    rw [hg i hi]; omega
  · show b.words + totW ls + (i : Int) ≤ 65535
    omega
theorem FairP.parts (h : FairP b ls) {i : Nat} (hi : i < b.funcs.length) : ∀ k ∈ (fO b i).bks, EndsP k (fO b i).bks.length (fO b i).regs ∧ ∀ t ∈ k.ins, FitsT t i (fO b i).regs b.words := parts_of (h.few.fine hi).2.2
theorem FairP.pl (h : FairP b ls) {i : Nat} (hi : i < b.funcs.length) : ((cxO b ls i).pl.length : Int) = (fO b i).regs ∧ (cxO b ls i).pl.length = (fO b i).r := by
  obtain ⟨hf, hr, ho⟩ := h.few.fine hi
  obtain ⟨L, hL, hA⟩ := h.hold.al i hi
  have h0 := hf.r0
  have e : (cxO b ls i).pl.length = (fO b i).r := hA.len
  refine ⟨?_, e⟩
  rw [e]; unfold fO BF.r; omega
theorem FairP.insOk (h : FairP b ls) (hn : ∀ f ∈ b.funcs, ∀ k ∈ f.bks, ∀ t ∈ k.ins, In32 t.n) {i : Nat} (hi : i < b.funcs.length) {k : Bk} (hk : k ∈ (fO b i).bks) {t : Tac} (ht : t ∈ k.ins) : InsOk (cxO b ls i) t := by
  obtain ⟨o1, o2, hd, hu, _, _, _, _⟩ := (h.parts hi k hk).2 t ht
  have hp := (h.pl hi).1
  refine ⟨⟨o1, o2⟩, fun hs => ?_, fun ha => ?_, fun hb => ?_, hn _ (mem_getD hi) k hk t ht⟩
  · rw [if_pos hs] at hd; rw [hp]; exact hd
  · rw [hp]
    refine hu t.a ?_
    unfold usesL
    by_cases c1 : t.op = 2 ∨ t.op = 5 ∨ t.op = 6 ∨ t.op = 9
    · rw [if_pos c1]; simp
    · rw [if_neg c1, if_pos (by omega)]; simp
  · rw [hp]
    refine hu t.b ?_
    unfold usesL
    rw [if_neg (by omega), if_pos (by omega)]; simp
theorem FairP.fn (h : FairP b ls) (hn : ∀ f ∈ b.funcs, ∀ k ∈ f.bks, ∀ t ∈ k.ins, In32 t.n) {i : Nat} (hi : i < b.funcs.length) : FnOk (cxO b ls i) (fO b i) := by
  have hp := (h.pl hi).1
  have htot := h.few.n
  have hm := totF_mem (mem_getD hi)
  refine ⟨rfl, (h.few.fine hi).1, (h.pl hi).2, by unfold fO; omega, fun k hk => ?_⟩
  have hE := (h.parts hi k hk).1
  unfold EndsP at hE
  refine ⟨fun t ht => h.insOk hn hi hk ht, ?_, fun e2 => ?_⟩
  · by_cases e1 : k.e = 1
    · exact .inl e1
    · rw [if_neg e1] at hE
      by_cases e2 : k.e = 2
      · exact .inr (.inl e2)
      · rw [if_neg e2] at hE; exact .inr (.inr hE.1)
  · rw [if_neg (by omega), if_pos e2] at hE
    rw [hp]; exact ⟨hE.2.2.2.2.1, hE.2.2.2.2.2⟩
theorem blks_ok {c : Cx} : ∀ (l : List Bk) (j : Nat), (∀ k ∈ l, (∀ t ∈ k.ins, ∀ y ∈ insY c t, SyOk c.b y) ∧ ∀ n, ∀ y ∈ endY c k n, SyOk c.b y) → ∀ y ∈ blksY c j l, SyOk c.b y
  | [], _, _ => all_nil
  | k :: l, j, h => by
    refine all_app (all_app (fun y hy => ?_) ((h k (List.mem_cons_self)).2 _)) (blks_ok l (j + 1) fun x hx => h x (List.mem_cons_of_mem _ hx))
    obtain ⟨t, ht, hy⟩ := List.mem_flatMap.1 hy
    exact (h k List.mem_cons_self).1 t ht y hy
theorem head_ok {c : Cx} (h : CxS c) {row : List Bool} (hrow : row.length ≤ c.pl.length) : ∀ y ∈ headY c row, SyOk c.b y := by
  have hbk := h.ok.bk
  have hbk2 := h.bk
  unfold headY
  refine all_app ?_ fun y hy => ?_
  · split
    · exact all_nil
    · exact all_one (SyOk.p (ok_num (.inr rfl) ⟨by omega, by omega⟩ ⟨by omega, by omega⟩ ⟨by omega, by omega⟩))
  · obtain ⟨v, hv, hy⟩ := List.mem_flatMap.1 hy
    have hv' := List.mem_range.1 hv
    have hvp : 0 ≤ (v : Int) ∧ (v : Int) < c.pl.length := ⟨by omega, by omega⟩
    have hp := h.ok.p hvp.1 hvp.2
    unfold zeroY at hy
    split at hy
    · split at hy
      · exact all_one (SyOk.p (ok_one (.inl rfl) ⟨by omega, by omega⟩ ⟨by omega, by omega⟩)) y hy
      · exact keep_ok h hvp ⟨by omega, by omega⟩ y hy
    · cases hy
theorem FairP.funOk (h : FairP b ls) (hn : ∀ f ∈ b.funcs, ∀ k ∈ f.bks, ∀ t ∈ k.ins, In32 t.n) {i : Nat} (hi : i < b.funcs.length) {row : List Bool} (hrow : row.length ≤ (fO b i).r) : ∀ y ∈ funY (cxO b ls i) row (fO b i), SyOk b y := by
  have hc := h.cx hi
  have hp := h.pl hi
  have hw := h.words
  refine all_app (head_ok hc (by rw [hp.2]; exact hrow)) (blks_ok (c := cxO b ls i) _ 0 fun k hk => ⟨fun t ht => ?_, fun n => ?_⟩)
  · refine ins_ok hc (h.insOk hn hi hk ht) ((h.parts hi k hk).2 t ht) (by omega) fun j hj => ?_
    have := (h.few.fine hj).1.b0
    exact List.length_pos_iff.2 this
  · exact ends_ok hc rfl (h.parts hi k hk).1 (by rw [hp.1]; exact Int.le_refl _) n
structure RunP (b : BP) (S : S3) (o : List Nat) (N : Nat) : Prop where
  en : S.en.length = b.funcs.length
  rows : S.rows.length = b.funcs.length
  ok : ∀ y ∈ S.l, SyOk b y
  len : S.l.length ≤ N
  env : ∀ x ∈ S.en, 0 ≤ x ∧ x ≤ (S.l.length : Int)
  rwv : ∀ r ∈ S.rows, ∀ x ∈ r, 0 ≤ x ∧ x ≤ (S.l.length : Int)
  rwl : ∀ i ∈ o, (S.rows.getD i []).length = (fO b i).bks.length
theorem funY_len (c : Cx) (row : List Bool) (f : BF) : (funY c row f).length ≤ row.length + 1 + 4 * cntB f.bks := by
  have h1 := headY_len c row
  have h2 := blksY_len c f.bks 0
  unfold funY
  rw [List.length_append]; omega
theorem RunP.step (h : FairP b ls) (hn : ∀ f ∈ b.funcs, ∀ k ∈ f.bks, ∀ t ∈ k.ins, In32 t.n) {rw : Nat → List Bool} (hrw : ∀ i < b.funcs.length, (rw i).length ≤ (fO b i).r) {S : S3} {o : List Nat} {N i : Nat} (hS : RunP b S o N) (hi : i < b.funcs.length) :
    RunP b (stepO b ls rw S i) (o ++ [i]) (N + (31 + 4 * cntB (fO b i).bks)) := by
  have hfl := funY_len (cxO b ls i) (rw i) (fO b i)
  have hr := hrw i hi
  have hr2 : (fO b i).r ≤ 30 := (h.few.fine hi).2.1
  have hSl := hS.len
  have hrow : ∀ x ∈ rowJ (cxO b ls i) (S.l ++ headY (cxO b ls i) (rw i)).length (fO b i).bks (fO b i).bks.length, 0 ≤ x ∧ x ≤ ((S.l ++ funY (cxO b ls i) (rw i) (fO b i)).length : Int) := fun x hx => by
    unfold rowJ at hx
    obtain ⟨k, hk, rfl⟩ := List.mem_map.1 hx
    have hk' := List.mem_range.1 hk
    rw [if_pos hk']
    have e : blksY (cxO b ls i) 0 (fO b i).bks = blksY (cxO b ls i) 0 ((fO b i).bks.take k) ++ blksY (cxO b ls i) (0 + ((fO b i).bks.take k).length) ((fO b i).bks.drop k) := by
      have : ∀ (l m : List Bk) (j : Nat), blksY (cxO b ls i) j (l ++ m) = blksY (cxO b ls i) j l ++ blksY (cxO b ls i) (j + l.length) m := by
        intro l
        induction l with
        | nil => intro m j; simp [blksY]
        | cons a l ih => intro m j; simp only [List.cons_append, blksY, ih, List.append_assoc, List.length_cons]; rw [show j + 1 + l.length = j + (l.length + 1) by omega]
      rw [← this, List.take_append_drop]
    unfold funY
    rw [e]
    simp only [List.length_append]
    omega
  refine ⟨by simp [stepO, hS.en], by simp [stepO, hS.rows], all_app hS.ok (h.funOk hn hi hr), ?_, fun x hx => ?_, fun r hr x hx => ?_, fun k hk => ?_⟩
  · simp only [stepO, List.length_append]; omega
  · simp only [stepO] at hx ⊢
    rw [List.length_append]
    rcases List.mem_or_eq_of_mem_set hx with hx | rfl
    · have := hS.env x hx; omega
    · omega
  · simp only [stepO] at hr ⊢
    rcases List.mem_or_eq_of_mem_set hr with hr | rfl
    · have := hS.rwv r hr x hx
      rw [List.length_append]; omega
    · exact hrow x hx
  · simp only [stepO]
    by_cases e : i = k
    · subst e
      rw [List.getD, List.getElem?_set_self (by rw [hS.rows]; exact hi)]
      exact rowJ_len _ _ _ _
    · rw [List.getD, List.getElem?_set_ne e]
      rcases List.mem_append.1 hk with hk | hk
      · exact hS.rwl k hk
      · exact absurd (List.mem_singleton.1 hk).symm e
theorem RunP.all (h : FairP b ls) (hn : ∀ f ∈ b.funcs, ∀ k ∈ f.bks, ∀ t ∈ k.ins, In32 t.n) {rw : Nat → List Bool} (hrw : ∀ i < b.funcs.length, (rw i).length ≤ (fO b i).r) : ∀ j, j ≤ b.funcs.length - 1 →
    RunP b (runO b ls rw (ordJ b.funcs.length j)) (ordJ b.funcs.length j) (31 * (j + 1) + 4 * (cntB (fO b (b.funcs.length - 1)).bks + totF (b.funcs.take j)))
  | 0, _ => by
    have hw := h.words
    have h0 : RunP b ⟨[], List.replicate b.funcs.length 0, List.replicate b.funcs.length []⟩ [] 0 := ⟨by simp, by simp, fun y hy => (by cases hy), by simp, fun x hx => (by rw [(List.mem_replicate.1 hx).2]; simp), fun r hr x hx => (by rw [(List.mem_replicate.1 hr).2] at hx; cases hx), fun i hi => (by cases hi)⟩
    have := RunP.step h hn hrw h0 (i := b.funcs.length - 1) (by omega)
    simpa [ordJ, runO, totF] using this
  | j + 1, hj => by
    have h1 := RunP.all h hn hrw j (by omega)
    have h2 := RunP.step h hn hrw h1 (i := j) (by omega)
    rw [ordJ_succ, runO_snoc]
    have e := totF_step b.funcs (show j < b.funcs.length by omega)
    rw [e]
    have : 31 * (j + 1) + 4 * (cntB (fO b (b.funcs.length - 1)).bks + totF (b.funcs.take j)) + (31 + 4 * cntB (fO b j).bks) = 31 * (j + 1 + 1) + 4 * (cntB (fO b (b.funcs.length - 1)).bks + (totF (b.funcs.take j) + cntB (b.funcs.getD j default).bks)) := by unfold fO; omega
    rw [← this]; exact h2
theorem ordJ_mem {n i : Nat} (hi : i < n) : i ∈ ordJ n (n - 1) := by
  unfold ordJ
  by_cases e : i = n - 1
  · subst e; exact List.mem_cons_self
  · exact List.mem_cons_of_mem _ (List.mem_range.2 (by omega))
theorem tot_bound (h : FairP b ls) (j : Nat) (hj : j ≤ b.funcs.length - 1) : 31 * (j + 1) + 4 * (cntB (fO b (b.funcs.length - 1)).bks + totF (b.funcs.take j)) ≤ 3000 := by
  have hw := h.words
  have h20 := h.few.l
  have hn := h.few.n
  have e := totF_step b.funcs (show b.funcs.length - 1 < b.funcs.length by omega)
  rw [show b.funcs.length - 1 + 1 = b.funcs.length by omega, List.take_of_length_le (Nat.le_refl _)] at e
  have hm : totF (b.funcs.take j) ≤ totF (b.funcs.take (b.funcs.length - 1)) := by
    have : b.funcs.take (b.funcs.length - 1) = b.funcs.take j ++ (b.funcs.take (b.funcs.length - 1)).drop j := by
      conv => lhs; rw [← List.take_append_drop j (b.funcs.take (b.funcs.length - 1))]
      rw [List.take_take, Nat.min_eq_left hj]
    rw [this]
    unfold totF
    rw [List.map_append, List.sum_append]; omega
  unfold fO
  omega
theorem end_jok (h : FairP b ls) (hn : ∀ f ∈ b.funcs, ∀ k ∈ f.bks, ∀ t ∈ k.ins, In32 t.n) {rw : Nat → List Bool} (hrw : ∀ i < b.funcs.length, (rw i).length ≤ (fO b i).r) :
    JOk (endO b ls rw).en (endO b ls rw).rows (endO b ls rw).l ∧ ∀ i ∈ fixY (endO b ls rw).en (endO b ls rw).rows (endO b ls rw).l, okI i.op i.a i.b i.c = true := by
  have hR : RunP b (endO b ls rw) _ _ := RunP.all h hn hrw (b.funcs.length - 1) (Nat.le_refl _)
  have hB := tot_bound h (b.funcs.length - 1) (Nat.le_refl _)
  have hlen := hR.len
  have hj : JOk (endO b ls rw).en (endO b ls rw).rows (endO b ls rw).l := fun i p hp => by
    obtain ⟨_, h1⟩ := hR.ok _ hp
    obtain ⟨_, a1, a2, a3⟩ := h1 p rfl
    refine ⟨a1, by rw [show (endO b ls rw).en.length = _ from hR.en]; exact a2, by rw [show (endO b ls rw).rows.length = _ from hR.rows]; exact a2, ?_⟩
    rw [show ((endO b ls rw).rows.getD p.1.toNat []).length = _ from hR.rwl p.1.toNat (ordJ_mem (by omega))]
    exact a3
  refine ⟨hj, fun i hi => ?_⟩
  unfold fixY at hi
  obtain ⟨⟨ci, o⟩, hy, rfl⟩ := List.mem_map.1 hi
  obtain ⟨k1, k2⟩ := hR.ok _ hy
  cases o with
  | none => exact k1 rfl
  | some p =>
    obtain ⟨g1, g2, g3, g4⟩ := k2 p rfl
    obtain ⟨j1, j2, j3, j4⟩ := hj ci p hy
    have key : 0 ≤ tgt (endO b ls rw).en (endO b ls rw).rows p ∧ tgt (endO b ls rw).en (endO b ls rw).rows p ≤ 65535 := by
      unfold tgt
      by_cases h0 : 0 ≤ p.2
      · rw [if_pos h0]
        have hr := hR.rwv ((endO b ls rw).rows.getD p.1.toNat []) (by rw [List.getD, List.getElem?_eq_getElem (by omega)]; exact List.getElem_mem _) (((endO b ls rw).rows.getD p.1.toNat []).getD p.2.toNat default) (mem_getD (by omega))
        omega
      · rw [if_neg h0]
        have hr := hR.env ((endO b ls rw).en.getD p.1.toNat default) (mem_getD (by omega))
        omega
    exact g1 _ key
end
end Go.Proofs.Ytkbhfokbhkmfgaa
namespace Go.Proofs.Ytkbhfokbhkmfgaa
set_option linter.unusedSimpArgs false
set_option linter.unusedVariables false
set_option maxRecDepth 10000
open Go.V
theorem WH.setB {b : BP} {ws : List Int} {back fn : Int} {plv : AV} {q : WI} {H : List VObj} {code : List Ci} {sp : List Sp} {en : List Int} {bl : List AV} (h : WH b ws back fn plv q H code sp en bl) (bl' : List AV) : WH b ws back fn plv q (H.set q.kB ⟨q.sB, 53, 1, bl'⟩) code sp en bl' := by
  obtain ⟨cv, pv, hw, ⟨k1, s1, e1, hc⟩, ⟨k2, s2, e2, hp⟩⟩ := h.w
  have hb := h.b
  have t : ∀ {i : Nat} {ob : VObj}, H[i]? = some ob → ob.ty ≠ 53 → (H.set q.kB ⟨q.sB, 53, 1, bl'⟩)[i]? = some ob := fun {i ob} h1 h2 => by
    rw [set_ne (fun e => by subst e; rw [hb] at h1; cases h1; exact h2 rfl)]; exact h1
  exact ⟨⟨cv, pv, t hw (by simp), ⟨k1, s1, e1, t hc (by simp)⟩, ⟨k2, s2, e2, t hp (by simp)⟩⟩, t h.e (by simp), set_get hb, t h.d (by simp)⟩
theorem rowJ_zero (c : Cx) (n0 : Nat) (bks : List Bk) : rowJ c n0 bks 0 = List.replicate bks.length 0 := by
  unfold rowJ
  refine List.ext_getElem (by simp) fun i h1 h2 => by simp
theorem fun_D {c : Cx} {q : WI} {H : List VObj} {l : List Sy} {en : List Int} {bl : List AV} {f : BF} (h : WC c q H l en bl) (hk : CxOk c) (hf : FnOk c f) (hl : l.length ≤ 200000) (hbl : bl.length = c.b.funcs.length) (hb1 : ∀ x ∈ bl, x.one = true)
    {kF sF : Nat} (hF : H[kF]? = some ⟨sF, 52, 1, bfL f⟩) (nx : Nat) (C : AV → List VObj → Nat → Prop)
    (hC : ∀ r H' nx' kr sr, WC c q H' (l ++ blksY c 0 f.bks) en (bl.set c.fn (.ref kr sr 0 f.bks.length)) → H'[kr]? = some ⟨sr, 3, 1, (rowJ c l.length f.bks f.bks.length).map I⟩ → kr ≠ q.kE → KeepF q H H' → C r H' nx') :
    VWs Try.prog (tailC 6 c_choose_writer_function) (retQ Try.prog [] C) ⟨[(0, .ptr q.kW q.sW 0), (1, I c.fn), (6, .ptr kF sF 0)], H, nx⟩ := by
  have hmx : (200000 : Nat) ≤ maxLen := by decide
  have hfb := hf.fi.b1
  have hfl := hk.fl
  obtain ⟨cv, pv, hw, ⟨k2, s2, rfl, hk2⟩, hp⟩ := h.w
  have hbb := h.b
  have n1 := ne_len hw
  have n2 := ne_len hbb
  have n3 := ne_len hF
  have l1 := lt_of hw
  have l2 := lt_of hbb
  have l3 := lt_of hF
  simp only [tailC, c_choose_writer_function, go_sem, Nat.reduceEqDiff, Nat.reduceAdd, ↓reduceIte, reduceCtorEq, Nat.reduceLeDiff, VWs_seq, hF, hw, hbb, l1, l2, l3, List.length_map, List.getElem?_append, List.length_cons, List.length_nil, ↓reduceIte]
  repeat ((with_reducible refine And.intro ?_ ?_); · first | omega | (simp; omega) | exact ⟨by omega, by omega, rfl, rfl⟩)
  have hfx : bl.length = c.b.funcs.length := hbl
  have eR : (List.replicate f.bks.length [AV.val (.int .i64 0)]).flatten = (rowJ c l.length f.bks 0).map I := by rw [flat_rep, rowJ_zero, List.map_replicate]
  rw [eR]
  have hfin := fun_E (kr := H.length) (sr := nx) (kF := kF) (sF := sF) (f := f) (H0 := (H ++ [(⟨nx, 3, 1, (rowJ c l.length f.bks 0).map I⟩ : VObj)]).set q.kB ⟨q.sB, 53, 1, bl.set c.fn (.ref H.length nx 0 f.bks.length)⟩) ((h.keep (KeepT.app _ _ _)).setB (bl.set c.fn (.ref H.length nx 0 f.bks.length))) hk hf hl
    (by rw [List.getD, List.getElem?_set_self (by omega)]; rfl) (by rw [List.length_set]; omega) (fun x hx => by rcases List.mem_or_eq_of_mem_set hx with hx | rfl; exact hb1 x hx; rfl) (by rw [set_ne (by have := of_eq_true l2; omega)]; simp) (by have := (List.getElem?_eq_some_iff.1 h.e).1; omega) (by have := (List.getElem?_eq_some_iff.1 h.d).1; omega)
    (by rw [set_ne (fun e => by rw [e] at hbb; rw [hF] at hbb; cases hbb)]; exact ap_old hF _) (nx + 1) C (fun r H' nx' h1 h2 h3 => hC r H' nx' H.length nx h1 h2 (by have := (List.getElem?_eq_some_iff.1 h.e).1; omega) fun i ob i1 i2 i3 i4 => h3 i ob (by rw [set_ne (fun e => i4 e.symm)]; exact ap_old i1 _) i2 (by have := (List.getElem?_eq_some_iff.1 i1).1; omega))
  simp only [tailC, c_choose_writer_function] at hfin
  refine ⟨_, ?_, hfin⟩
  exact Wk.mk (by simp [get_cons]) ⟨[], by simp⟩ (Nat.le_refl _)
theorem fun_C {c : Cx} {q : WI} {H0 : List VObj} {l : List Sy} {en : List Int} {bl : List AV} {f : BF} (h : WC c q H0 l en bl) (hk : CxOk c) (hf : FnOk c f) (hr : f.r ≤ 64) {L : LD} (hL : Least f L) (hl : l.length ≤ 110000) (hbl : bl.length = c.b.funcs.length) (hb1 : ∀ x ∈ bl, x.one = true)
    {kF sF : Nat} (hF : H0[kF]? = some ⟨sF, 52, 1, bfL f⟩) (nx0 : Nat) (C : AV → List VObj → Nat → Prop)
    (hC : ∀ r H' nx' kr sr, WC c q H' (l ++ zerosY c (L.inn.getD 0 default) (L.inn.getD 0 default).length ++ blksY c 0 f.bks) en (bl.set c.fn (.ref kr sr 0 f.bks.length)) → H'[kr]? = some ⟨sr, 3, 1, (rowJ c (l ++ zerosY c (L.inn.getD 0 default) (L.inn.getD 0 default).length).length f.bks f.bks.length).map I⟩ → kr ≠ q.kE → KeepF q H0 H' → C r H' nx') :
    VWs Try.prog (tailC 5 c_choose_writer_function) (retQ Try.prog [] C) ⟨[(0, .ptr q.kW q.sW 0), (1, I c.fn), (6, .ptr kF sF 0)], H0, nx0⟩ := by
  have hfi := hf.fi
  have hn0 : 0 < f.n := List.length_pos_iff.2 hfi.b0
  have hil : L.inn.length = f.n := hL.cl.sz.i
  have hrow : (L.inn.getD 0 default).length = f.r := hL.cl.sz.il hn0
  have hpl := hf.pl
  have h40 := hk.pl
  simp only [tailC, c_choose_writer_function, go_sem, Nat.reduceEqDiff, Nat.reduceAdd, ↓reduceIte, ↓dreduceIte, reduceCtorEq, VWs_seq, hF]
  refine VCall.of_contract (live_of_c f hfi hr L hL) (SleL.pure rfl) fun x hx => ?_
  subst hx
  simp only [go_sem, Nat.reduceAdd, ↓reduceIte, Nat.reduceLeDiff, Int.reduceLE, List.length_map]
  refine ⟨by omega, ?_⟩
  generalize L.inn.getD 0 default = row at *
  refine VW_loop (fun x : LQ => ⟨[(0, .ptr q.kW q.sW 0), (1, I c.fn), (6, .ptr kF sF 0), (63, bools row), (64, I row.length), (65, I x.j)], x.H, x.nx⟩)
    (fun x => x.j ≤ row.length ∧ WC c q x.H (l ++ zerosY c row x.j) en bl ∧ KeepT wT H0 x.H) (fun x => row.length - x.j) ⟨0, H0, nx0⟩
    (Wk.mk (by simp [get_cons]) ⟨[], by simp⟩ (Nat.le_refl _)) ⟨Nat.zero_le _, by simpa [zerosY] using h, KeepT.refl _ _⟩ ?_
  rintro ⟨j, H, nx⟩ ⟨hj, hw0, hkp⟩
  simp only at hj hw0 hkp
  have hzl := zerosY_len c row j
  by_cases hlt : j < row.length
  · have hzs := zerosY_succ c row j
    have hz1 := zeroY_len c row j
    obtain ⟨cv, pv, hw, ⟨k2, s2, rfl, hk2⟩, hp⟩ := hw0.w
    have hpv := hk.pv j (by omega)
    have g : c.pl.getD j default = gP c.pl j := rfl
    have wj : IntKind.i64.wrap ((j : Int) + 1) = (j : Int) + 1 := i64_in (by omega) (by omega)
    have hvj : 0 ≤ (j : Int) ∧ (j : Int) < c.pl.length := ⟨by omega, by omega⟩
    have next : ∀ H' nx', WC c q H' (l ++ zerosY c row j ++ zeroY c row j) en bl → KeepT wT H H' → ∃ s' : LQ, (s'.j ≤ row.length ∧ WC c q s'.H (l ++ zerosY c row s'.j) en bl ∧ KeepT wT H0 s'.H) ∧ row.length - s'.j < row.length - j ∧ s' = ⟨j + 1, H', nx'⟩ := fun H' nx' h1 h2 =>
      ⟨⟨j + 1, H', nx'⟩, ⟨by simp only; omega, by simp only; rw [hzs, ← List.append_assoc]; exact h1, hkp.trans h2⟩, by simp only; omega, rfl⟩
    by_cases hb : gB row j = true
    · have hzy : zeroY c row j = if 0 < gP c.pl j then [pY 1 (gP c.pl j) 0 0] else keepY c j 0 := by unfold zeroY; rw [if_pos hb, p_nat]
      by_cases h0 : 0 < gP c.pl j
      · rw [if_pos h0] at hzy
        simp only [go_sem, Nat.reduceEqDiff, Nat.reduceAdd, ↓reduceIte, ↓dreduceIte, reduceCtorEq, List.length_map, eq_true (show (j : Int) < row.length by omega), hw, gB_getD, hb, g, eq_true h0]
        repeat ((with_reducible refine And.intro ?_ ?_); · first | omega | (simp; omega))
        refine putY_v hw0 (by rw [List.length_append]; omega) _ _ _ _ _ _ fun r H2 nx2 h2 k2 => ?_
        simp only [go_sem, Nat.reduceEqDiff, ↓reduceIte, reduceCtorEq, wj]
        obtain ⟨s', a1, a2, rfl⟩ := next H2 nx2 (by rw [hzy]; exact h2) k2
        exact ⟨_, a1, a2, Wk.mk (by simp [get_cons]) ⟨[], by simp⟩ (Nat.le_refl _)⟩
      · rw [if_neg h0] at hzy
        simp only [go_sem, Nat.reduceEqDiff, Nat.reduceAdd, ↓reduceIte, ↓dreduceIte, reduceCtorEq, List.length_map, eq_true (show (j : Int) < row.length by omega), hw, gB_getD, hb, g, eq_false h0]
        repeat ((with_reducible refine And.intro ?_ ?_); · first | omega | (simp; omega))
        refine keep_v hw0 hk (by rw [List.length_append]; omega) _ _ hvj _ fun r H2 nx2 h2 k2 => ?_
        simp only [go_sem, Nat.reduceEqDiff, ↓reduceIte, reduceCtorEq, wj]
        obtain ⟨s', a1, a2, rfl⟩ := next H2 nx2 (by rw [hzy]; exact h2) k2
        exact ⟨_, a1, a2, Wk.mk (by simp [get_cons]) ⟨[], by simp⟩ (Nat.le_refl _)⟩
    · have hzy : zeroY c row j = [] := by unfold zeroY; rw [if_neg hb]
      have hbf : gB row j = false := by simpa using hb
      simp only [go_sem, Nat.reduceEqDiff, ↓reduceIte, reduceCtorEq, eq_true (show (j : Int) < row.length by omega), gB_getD, hbf]
      repeat ((with_reducible refine And.intro ?_ ?_); · first | omega | (simp; omega))
      rw [wj]
      obtain ⟨s', a1, a2, rfl⟩ := next H nx (by rw [hzy, List.append_nil]; exact hw0) (KeepT.refl _ _)
      exact ⟨_, a1, a2, Wk.mk (by simp [get_cons]) ⟨[], by simp⟩ (Nat.le_refl _)⟩
  · obtain rfl : j = row.length := by omega
    simp only [go_sem, Nat.reduceEqDiff, ↓reduceIte, reduceCtorEq, eq_false (show ¬ (row.length : Int) < row.length by omega)]
    have hfin := fun_D hw0 hk hf (by rw [List.length_append]; omega) hbl hb1 (hkp _ _ hF (by simp)) nx C (fun r H' nx' kr sr h1 h2 h3 h4 => hC r H' nx' kr sr h1 h2 h3 ((KeepF.of hkp).trans h4))
    simp only [tailC, c_choose_writer_function] at hfin
    refine ⟨_, ?_, hfin⟩
    exact Wk.mk (by simp [get_cons]) ⟨[], by simp⟩ (Nat.le_refl _)
theorem fun_B {c : Cx} {q : WI} {H0 : List VObj} {l : List Sy} {en : List Int} {bl : List AV} {f : BF} (h : WC c q H0 l en bl) (hk : CxOk c) (hf : FnOk c f) (hr : f.r ≤ 64) {L : LD} (hL : Least f L) (hl : l.length ≤ 100000) (hbl : bl.length = c.b.funcs.length) (hb1 : ∀ x ∈ bl, x.one = true)
    {kF sF : Nat} (hF : H0[kF]? = some ⟨sF, 52, 1, bfL f⟩) (nx0 : Nat) (C : AV → List VObj → Nat → Prop)
    (hC : ∀ r H' nx' kr sr, WC c q H' (l ++ funY c (L.inn.getD 0 default) f) en (bl.set c.fn (.ref kr sr 0 f.bks.length)) → H'[kr]? = some ⟨sr, 3, 1, (rowJ c (l ++ headY c (L.inn.getD 0 default)).length f.bks f.bks.length).map I⟩ → kr ≠ q.kE → KeepF q H0 H' → C r H' nx') :
    VWs Try.prog (tailC 4 c_choose_writer_function) (retQ Try.prog [] C) ⟨[(0, .ptr q.kW q.sW 0), (1, I c.fn), (6, .ptr kF sF 0)], H0, nx0⟩ := by
  have h20 := hk.fs
  have hfl := hk.fl
  have hbk := hk.bk
  have w1 : IntKind.i64.wrap ((c.b.funcs.length : Int) - 1) = (c.b.funcs.length : Int) - 1 := i64_in (by omega) (by omega)
  have w2 : IntKind.i64.wrap (c.back + c.fn) = c.back + c.fn := i64_in (by omega) (by omega)
  obtain ⟨cv, pv, hw, hcc, hp⟩ := h.w
  generalize hrow : L.inn.getD 0 default = row at *
  by_cases hlast : (c.fn : Int) = (c.b.funcs.length : Int) - 1
  · have eh : headY c row = zerosY c row row.length := by unfold headY; rw [if_pos hlast]; rfl
    simp only [tailC, c_choose_writer_function, go_sem, Nat.reduceEqDiff, Nat.reduceAdd, ↓reduceIte, reduceCtorEq, Nat.reduceLeDiff, VWs_seq, hw, List.length_map, w1, show ((c.fn : Int) != (c.b.funcs.length : Int) - 1) = false from by simp [hlast]]
    have hfin := fun_C h hk hf hr hL (by omega) hbl hb1 hF nx0 C (fun r H' nx' kr sr h1 h2 h3 h4 => by
      rw [hrow] at h1 h2
      rw [← eh] at h1 h2
      exact hC r H' nx' kr sr (by unfold funY; rw [← List.append_assoc]; exact h1) h2 h3 h4)
    simp only [tailC, c_choose_writer_function] at hfin
    refine ⟨_, ?_, hfin⟩
    exact Wk.mk (by simp [get_cons]) ⟨[], by simp⟩ (Nat.le_refl _)
  · have eh : headY c row = [pY 17 12 0 (c.back + c.fn)] ++ zerosY c row row.length := by unfold headY; rw [if_neg hlast]
    simp only [tailC, c_choose_writer_function, go_sem, Nat.reduceEqDiff, Nat.reduceAdd, ↓reduceIte, ↓dreduceIte, reduceCtorEq, Nat.reduceLeDiff, VWs_seq, hw, List.length_map, w1, w2, eq_false hlast]
    refine putY_v h (by omega) _ _ _ _ _ _ fun r H2 nx2 h2 k2 => ?_
    simp only [go_sem]
    have hfin := fun_C h2 hk hf hr hL (by simp; omega) hbl hb1 (k2 _ _ hF (by simp)) nx2 C (fun r H' nx' kr sr h1 h2 h3 h4 => by
      rw [hrow] at h1 h2
      rw [List.append_assoc l, ← eh] at h1 h2
      exact hC r H' nx' kr sr (by unfold funY; rw [← List.append_assoc]; exact h1) h2 h3 ((KeepF.of k2).trans h4))
    simp only [tailC, c_choose_writer_function] at hfin
    refine ⟨_, ?_, hfin⟩
    exact Wk.mk (by simp [get_cons]) ⟨[], by simp⟩ (Nat.le_refl _)
theorem WH.setW {b : BP} {ws : List Int} {back fn fn' : Int} {plv plv' : AV} {q : WI} {H : List VObj} {code : List Ci} {sp : List Sp} {en : List Int} {bl : List AV} (h : WH b ws back fn plv q H code sp en bl) {cv pv : AV} (hw : H[q.kW]? = some ⟨q.sW, 75, 1, wrL b back fn plv q cv pv⟩) :
    WH b ws back fn' plv' q (H.set q.kW ⟨q.sW, 75, 1, wrL b back fn' plv' q cv pv⟩) code sp en bl := by
  obtain ⟨cv', pv', hw', ⟨k1, s1, e1, hc⟩, ⟨k2, s2, e2, hp⟩⟩ := h.w
  rw [hw] at hw'
  simp only [Option.some.injEq, VObj.mk.injEq, List.cons.injEq, true_and, and_true] at hw'
  obtain ⟨rfl, rfl⟩ := hw'
  have t : ∀ {i : Nat} {ob : VObj} {o : VObj}, H[i]? = some ob → ob.ty ≠ 75 → (H.set q.kW o)[i]? = some ob := fun {i ob o} h1 h2 => by
    rw [set_ne (fun e => by subst e; rw [hw] at h1; cases h1; exact h2 rfl)]; exact h1
  exact ⟨⟨cv, pv, set_get hw, ⟨k1, s1, e1, t hc (by simp)⟩, ⟨k2, s2, e2, t hp (by simp)⟩⟩, t h.e (by simp), t h.b (by simp), t h.d (by simp)⟩
theorem WH.setE {b : BP} {ws : List Int} {back fn : Int} {plv : AV} {q : WI} {H : List VObj} {code : List Ci} {sp : List Sp} {en : List Int} {bl : List AV} (h : WH b ws back fn plv q H code sp en bl) (hD : q.kE ≠ q.kD) (en' : List Int) :
    WH b ws back fn plv q (H.set q.kE ⟨q.sE, 3, 1, en'.map I⟩) code sp en' bl := by
  obtain ⟨cv, pv, hw, ⟨k1, s1, e1, hc⟩, ⟨k2, s2, e2, hp⟩⟩ := h.w
  have he := h.e
  have t : ∀ {i : Nat} {ob : VObj} {o : VObj}, H[i]? = some ob → ob.ty ≠ 3 → (H.set q.kE o)[i]? = some ob := fun {i ob o} h1 h2 => by
    rw [set_ne (fun e => by subst e; rw [he] at h1; cases h1; exact h2 rfl)]; exact h1
  exact ⟨⟨cv, pv, t hw (by simp), ⟨k1, s1, e1, t hc (by simp)⟩, ⟨k2, s2, e2, t hp (by simp)⟩⟩, set_get he, t h.b (by simp), by rw [set_ne hD]; exact h.d⟩
theorem function_v {fn0 : Int} {plv0 : AV} {c : Cx} {q : WI} {H : List VObj} {l : List Sy} {en : List Int} {bl : List AV} {f : BF} (h0 : plv0.one = true) (h : WH c.b c.ws c.back fn0 plv0 q H (l.map (·.1)) (spotL 0 l) en bl) (hk : CxOk c) (hf : FnOk c f) (hr : f.r ≤ 64) {L : LD} (hL : Least f L) (hl : l.length ≤ 100000)
    (hen : en.length = c.b.funcs.length) (hbl : bl.length = c.b.funcs.length) (hb1 : ∀ x ∈ bl, x.one = true) (hED : q.kE ≠ q.kD) (nx : Nat) (C : AV → List VObj → Nat → Prop)
    (hC : ∀ r H' nx' kr sr, WC c q H' (l ++ funY c (L.inn.getD 0 default) f) (en.set c.fn (l.length : Nat)) (bl.set c.fn (.ref kr sr 0 f.bks.length)) → H'[kr]? = some ⟨sr, 3, 1, (rowJ c (l ++ headY c (L.inn.getD 0 default)).length f.bks f.bks.length).map I⟩ → kr ≠ q.kE → KeepF q H H' → C r H' nx') :
    VCall Try.prog 31 [.ptr q.kW q.sW 0, I c.fn, alA c.pl] H nx C := by
  have hq := f_choose_writer_function
  unfold compF compFp at hq
  refine VCall.of_bodyS (pt := false) (pf := false) hmix hq (by simp) ?_
  have hfl := hk.fl
  obtain ⟨cv, pv, hw, hcc, hp⟩ := h.w
  have n1 := ne_len hw
  have n2 := ne_len' hw
  have l1 := lt_of hw
  simp only [c_choose_writer_function, go_sem, Nat.reduceEqDiff, Nat.reduceAdd, ↓reduceIte, reduceCtorEq, VWs_seq]
  refine ⟨_, Wk.refl _, ?_⟩
  simp only [go_sem, Nat.reduceEqDiff, Nat.reduceAdd, ↓reduceIte, reduceCtorEq, Nat.reduceLeDiff, VWs_seq, l1, hw, hf.fe, List.getElem?_append, List.length_append, Nat.lt_irrefl, Nat.sub_self, List.length_cons, List.length_nil, ↓reduceIte, List.getElem?_cons_zero]
  refine ⟨hfl, ?_⟩
  have eH : ∀ x y z : VObj, (H ++ [x] ++ [y]).set (H.length + 1) z = H ++ [x] ++ [z] := fun x y z => by simp
  rw [eH]
  have hA : (H ++ [(⟨nx, 55, 1, [ints c.pl]⟩ : VObj)] ++ [⟨nx + 1, 52, 1, bfL f⟩])[H.length]? = some ⟨nx, 55, 1, [ints c.pl]⟩ := ap_old (by simp) _
  have hF : (H ++ [(⟨nx, 55, 1, [ints c.pl]⟩ : VObj)] ++ [⟨nx + 1, 52, 1, bfL f⟩])[H.length + 1]? = some ⟨nx + 1, 52, 1, bfL f⟩ := ap_new _ _ _
  have hK : KeepT [] H (H ++ [(⟨nx, 55, 1, [ints c.pl]⟩ : VObj)] ++ [⟨nx + 1, 52, 1, bfL f⟩]) := (KeepT.app _ _ _).trans (KeepT.app _ _ _)
  have hW1 := h.keep hK
  have hw1 := hK _ _ hw (by simp)
  generalize (H ++ [(⟨nx, 55, 1, [ints c.pl]⟩ : VObj)] ++ [⟨nx + 1, 52, 1, bfL f⟩]) = H1 at *
  refine ⟨⟨[(0, .ptr q.kW q.sW 0), (1, I c.fn), (5, .ptr H.length nx 0), (6, .ptr (H.length + 1) (nx + 1) 0)], H1, nx + 1 + 1⟩, Wk.mk (by simp [get_cons]) ⟨[], by simp⟩ (Nat.le_refl _), ?_⟩
  generalize H.length = kA at *
  have l2 := lt_of hw1
  have o1 := ty_ne hw1 hA (by simp)
  have o2 := ty_ne hA hw1 (by simp)
  simp only [go_sem, Nat.reduceEqDiff, Nat.reduceAdd, ↓reduceIte, reduceCtorEq, Nat.reduceLeDiff, VWs_seq, l2, o1, hw1, hA, List.getElem?_set, List.length_cons, List.length_nil, ↓reduceIte]
  have hW2 : WC c q (H1.set q.kW ⟨q.sW, 75, 1, wrL c.b c.back c.fn (ints c.pl) q cv pv⟩) l en bl := hW1.setW hw1
  have hF2 : (H1.set q.kW ⟨q.sW, 75, 1, wrL c.b c.back c.fn (ints c.pl) q cv pv⟩)[kA + 1]? = some ⟨nx + 1, 52, 1, bfL f⟩ := by
    rw [set_ne (fun e => by rw [e] at hw1; rw [hF] at hw1; simp at hw1)]; exact hF
  have hK2 : KeepT wT H (H1.set q.kW ⟨q.sW, 75, 1, wrL c.b c.back c.fn (ints c.pl) q cv pv⟩) := (hK.mono (by simp)).trans (KeepT.set hw1 (by simp))
  have fin : VWs Try.prog (tailC 3 c_choose_writer_function) (retQ Try.prog [] C) ⟨[(0, .ptr q.kW q.sW 0), (1, I c.fn), (6, .ptr (kA + 1) (nx + 1) 0)], H1.set q.kW ⟨q.sW, 75, 1, wrL c.b c.back c.fn (ints c.pl) q cv pv⟩, nx + 1 + 1⟩ := by
    generalize H1.set q.kW ⟨q.sW, 75, 1, wrL c.b c.back c.fn (ints c.pl) q cv pv⟩ = H2 at *
    obtain ⟨cw, pw, hw2, ⟨k2, s2, rfl, hk2⟩, hp2⟩ := hW2.w
    have he2 := hW2.e
    have l3 := lt_of he2
    have l4 := lt_of hw2
    simp only [tailC, c_choose_writer_function, go_sem, Nat.reduceEqDiff, Nat.reduceAdd, ↓reduceIte, reduceCtorEq, Nat.reduceLeDiff, VWs_seq, he2, hw2, hk2, List.length_map, List.length_cons, List.length_nil, ↓reduceIte]
    repeat ((with_reducible refine And.intro ?_ ?_); · first | omega | (simp; omega) | exact ⟨by omega, by omega, rfl, rfl⟩)
    rw [← List.map_set]
    have hfin := fun_B (f := f) (kF := kA + 1) (sF := nx + 1) (H0 := H2.set q.kE ⟨q.sE, 3, 1, (en.set c.fn (l.length : Nat)).map I⟩) (hW2.setE hED (en.set c.fn (l.length : Nat))) hk hf hr hL hl hbl hb1 (by rw [set_ne (fun e => by rw [e] at he2; rw [hF2] at he2; simp at he2)]; exact hF2) (nx + 1 + 1) C (fun r H' nx' kr sr h1 h2 h3 h4 => hC r H' nx' kr sr h1 h2 h3 fun i ob i1 i2 i3 i4 => h4 i ob (by rw [set_ne (fun e => i3 e.symm)]; exact hK2 _ _ i1 i2) i2 i3 i4)
    simp only [tailC, c_choose_writer_function] at hfin
    refine ⟨_, ?_, hfin⟩
    exact Wk.mk (by simp [get_cons]) ⟨[], by simp⟩ (Nat.le_refl _)
  simp only [tailC, c_choose_writer_function] at fin
  constructor
  all_goals
    rw [List.set_set]
    refine ⟨_, ?_, fin⟩
    exact Wk.mk (by simp [get_cons]) ⟨[], by simp⟩ (Nat.le_refl _)
end Go.Proofs.Ytkbhfokbhkmfgaa
namespace Go.Proofs.Ytkbhfokbhkmfgaa
set_option linter.unusedSimpArgs false
set_option linter.unusedVariables false
set_option maxRecDepth 10000
open Go.V
theorem frzN_words {H : List VObj} {nx id s ty : Nat} {l : List Int} {len : Nat} (ho : H[id]? = some ⟨s, ty, 1, l.map U32⟩) (hlen : len = l.length) : FrzN H nx (.ref id s 0 len) (.imm 1 (l.map U32)) :=
  frzN_map (f := fun n => .int .u32 n) ho hlen fun _ => rfl
abbrev imgC (code : List Int) (data : Int) : AV := .agg [.imm 1 (code.map U32), I data]
abbrev ofA (b : BP) (ls : List (List Int)) (rw : Nat → List Bool) : AV := .tup [imgC (codeO b ls rw) (dataO b ls), I 0]
abbrev ofC (b : BP) (ls : List (List Int)) (rw : Nat → List Bool) : AV → List VObj → Nat → Prop := fun r H nx => ∃ y, FrzN H nx r y ∧ y = ofA b ls rw
structure OfH (b : BP) (ls : List (List Int)) (rw : Nat → List Bool) : Prop where
  f : FairP b ls
  n : ∀ f ∈ b.funcs, ∀ k ∈ f.bks, ∀ t ∈ k.ins, In32 t.n
  r : ∀ i < b.funcs.length, ∃ L, Least (fO b i) L ∧ rw i = L.inn.getD 0 default
  p : ∀ pl ∈ ls, pl.length ≤ 140737488355328
theorem OfH.rl {b : BP} {ls : List (List Int)} {rw : Nat → List Bool} (h : OfH b ls rw) : ∀ i < b.funcs.length, (rw i).length ≤ (fO b i).r := fun i hi => by
  obtain ⟨L, hL, e⟩ := h.r i hi
  rw [e, show (L.inn.getD 0 default).length = (fO b i).r from hL.cl.sz.il (List.length_pos_iff.2 (h.f.few.fine hi).1.b0)]
  exact Nat.le_refl _
structure OI (b : BP) (ls : List (List Int)) (rw : Nat → List Bool) (q : WI) (H : List VObj) (bl : List AV) (o : List Nat) : Prop where
  w : ∃ fn plv, plv.one = true ∧ WH b (wsO b ls) (b.words + totW ls) fn plv q H ((runO b ls rw o).l.map (·.1)) (spotL 0 (runO b ls rw o).l) (runO b ls rw o).en bl
  bln : bl.length = b.funcs.length
  one : ∀ x ∈ bl, x.one = true
  rows : ∀ i ∈ o, ∃ kr sr, bl.getD i .dead = .ref kr sr 0 ((runO b ls rw o).rows.getD i []).length ∧ H[kr]? = some ⟨sr, 3, 1, ((runO b ls rw o).rows.getD i []).map I⟩ ∧ kr ≠ q.kE
  im : H[1]? = some ⟨1, 30, 1, [nilv, I 0]⟩
section
variable {b : BP} {ls : List (List Int)} {rw : Nat → List Bool}
set_option maxHeartbeats 1000000 in
theorem of_E (h : OfH b ls rw) {q : WI} {H : List VObj} {bl : List AV} (hO : OI b ls rw q H bl (ordJ b.funcs.length (b.funcs.length - 1))) (nx : Nat) :
    VWs Try.prog (tailC 11 c_choose_Of) (retQ Try.prog [.cell 4 true 2, .tmp 5] (ofC b ls rw)) ⟨[(4, .ptr 1 1 0), (6, .ptr q.kW q.sW 0), (7, I (dataO b ls))], H, nx⟩ := by
  obtain ⟨hj, hok⟩ := end_jok h.f h.n h.rl
  obtain ⟨fn, plv, hp1, hw⟩ := hO.w
  have hR : RunP b (endO b ls rw) _ _ := RunP.all h.f h.n h.rl (b.funcs.length - 1) (Nat.le_refl _)
  have hB := tot_bound h.f (b.funcs.length - 1) (Nat.le_refl _)
  have hlen := hR.len
  have hrows : RowsH H bl (endO b ls rw).rows := ⟨by rw [hO.bln, hR.rows], fun i hi => by
    obtain ⟨kr, sr, e1, e2, _⟩ := hO.rows i (ordJ_mem (by rw [← hR.rows]; exact hi))
    exact ⟨kr, sr, e1, e2⟩⟩
  have him := hO.im
  simp only [tailC, c_choose_Of, go_sem, Nat.reduceEqDiff, ↓reduceIte, VWs_seq]
  refine finish_v (l := (endO b ls rw).l) (en := (endO b ls rw).en) (rows := (endO b ls rw).rows) hp1 hw hrows hO.bln hR.en h.f.few.l hj (by omega) hok nx _ fun H' nx' k s hk kp => ?_
  have him' := kp _ _ him (by simp)
  simp only [go_sem, Nat.reduceEqDiff, Nat.reduceAdd, ↓reduceIte, Nat.reduceLT]
  refine ⟨_, Wk.refl _, ?_⟩
  simp only [go_sem, ↓reduceIte, VWs_seq, bne_self_eq_false]
  refine ⟨_, Wk.refl _, ?_⟩
  have l1 := lt_of him'
  simp only [go_sem, Nat.reduceEqDiff, Nat.reduceAdd, ↓reduceIte, Nat.reduceLeDiff, VWs_seq, him', ↓reduceIte]
  have hk1 : (H'.set 1 ⟨1, 30, 1, [.ref k s 0 (endO b ls rw).l.length, I (dataO b ls)]⟩)[k]? = some ⟨s, 45, 1, (codeO b ls rw).map U32⟩ := by
    rw [set_ne (fun e => by rw [← e, him'] at hk; simp at hk)]; exact hk
  have hk2 : (H'.set 1 ⟨1, 30, 1, [.ref k s 0 (endO b ls rw).l.length, I (dataO b ls)]⟩)[1]? = some ⟨1, 30, 1, [.ref k s 0 (endO b ls rw).l.length, I (dataO b ls)]⟩ := set_get him'
  have hcl : (endO b ls rw).l.length = (codeO b ls rw).length := by simp [codeO, fixY]
  generalize H'.set 1 ⟨1, 30, 1, [.ref k s 0 (endO b ls rw).l.length, I (dataO b ls)]⟩ = HX at *
  refine ⟨_, Wk.refl _, ?_⟩
  simp only [go_sem, Nat.reduceEqDiff, Nat.reduceAdd, ↓reduceIte, VWs_ret, hk2]
  exact ⟨_, FrzN.tup ⟨_, _, rfl, FrzN.agg ⟨_, _, rfl, frzN_words hk1 hcl, _, _, rfl, FrzN.val, rfl⟩, _, _, rfl, FrzN.val, rfl⟩, rfl⟩
structure OfQ where
  j : Nat
  H : List VObj
  nx : Nat
  bl : List AV
theorem OI.step (h : OfH b ls rw) {q : WI} {H : List VObj} {bl : List AV} {o : List Nat} (hO : OI b ls rw q H bl o) (hED : q.kE ≠ q.kD) (h1B : 1 ≠ q.kB) (h1E : 1 ≠ q.kE) {i : Nat} (hi : i < b.funcs.length) (hol : (runO b ls rw o).l.length ≤ 100000) (hoe : (runO b ls rw o).en.length = b.funcs.length) (hor : (runO b ls rw o).rows.length = b.funcs.length) (nx : Nat) (C : AV → List VObj → Nat → Prop)
    (hC : ∀ r H' nx' bl', OI b ls rw q H' bl' (o ++ [i]) → H'[0]? = H'[0]? → (∀ ob, H[0]? = some ob → ob.ty ∉ wT → 0 ≠ q.kE → 0 ≠ q.kB → H'[0]? = some ob) → C r H' nx') :
    VCall Try.prog 31 [.ptr q.kW q.sW 0, I (i : Nat), alA (ls.getD i default)] H nx C := by
  obtain ⟨fn, plv, hp1, hw⟩ := hO.w
  obtain ⟨L, hL, hrow⟩ := h.r i hi
  have hcx := h.f.cx hi
  refine function_v (c := cxO b ls i) hp1 hw hcx.ok (h.f.fn h.n hi) (by have := (h.f.few.fine hi).2.1; show (b.funcs.getD i default).r ≤ 64; omega) hL hol hoe hO.bln hO.one hED nx C fun r H' nx' kr sr w1 w2 w3 w4 => ?_
  rw [← hrow] at w1 w2
  have hrowlen : (rowJ (cxO b ls i) ((runO b ls rw o).l ++ headY (cxO b ls i) (rw i)).length (fO b i).bks (fO b i).bks.length).length = (fO b i).bks.length := rowJ_len _ _ _ _
  refine hC r H' nx' _ ⟨⟨_, _, rfl, by rw [runO_snoc]; exact w1⟩, by rw [List.length_set]; exact hO.bln, fun x hx => ?_, fun j hj => ?_, w4 _ _ hO.im (by simp) h1E h1B⟩ rfl fun ob g1 g2 g3 g4 => w4 _ _ g1 g2 g3 g4
  · rcases List.mem_or_eq_of_mem_set hx with hx | rfl
    · exact hO.one x hx
    · rfl
  · rw [runO_snoc]
    simp only [stepO]
    by_cases e : i = j
    · subst e
      refine ⟨kr, sr, ?_, ?_, w3⟩
      · have eb : (bl.set (cxO b ls i).fn (AV.ref kr sr 0 (fO b i).bks.length)).getD i .dead = .ref kr sr 0 (fO b i).bks.length := by
          show ((bl.set i _)[i]?).getD _ = _
          rw [List.getElem?_set_self (by rw [hO.bln]; exact hi)]; rfl
        rw [eb, List.getD, List.getElem?_set_self (by rw [hor]; exact hi), Option.getD_some, hrowlen]
      · rw [List.getD, List.getElem?_set_self (by rw [hor]; exact hi), Option.getD_some]; exact w2
    · have hj' : j ∈ o := by
        rcases List.mem_append.1 hj with hj | hj
        · exact hj
        · exact absurd (List.mem_singleton.1 hj).symm e
      obtain ⟨kr', sr', e1, e2, e3⟩ := hO.rows j hj'
      refine ⟨kr', sr', ?_, ?_, e3⟩
      · have eb : (bl.set (cxO b ls i).fn (AV.ref kr sr 0 (fO b i).bks.length)).getD j .dead = bl.getD j .dead := by
          show ((bl.set i _)[j]?).getD _ = _
          rw [List.getElem?_set_ne e]; rfl
        rw [eb, e1, List.getD, List.getD, List.getElem?_set_ne e]
      · rw [List.getD, List.getElem?_set_ne e]
        exact w4 _ _ e2 (by simp) e3 (fun eb => by
          obtain ⟨_, _, _, hww⟩ := hO.w
          have hb := hww.b
          rw [← eb, e2] at hb; simp at hb)
set_option maxHeartbeats 1000000 in
theorem of_D (h : OfH b ls rw) {q : WI} {H0 : List VObj} {bl0 : List AV} (hO : OI b ls rw q H0 bl0 (ordJ b.funcs.length 0)) (hED : q.kE ≠ q.kD) (h1B : 1 ≠ q.kB) (h1E : 1 ≠ q.kE) (nx0 : Nat) :
    VWs Try.prog (tailC 9 c_choose_Of) (retQ Try.prog [.cell 4 true 2, .tmp 5] (ofC b ls rw)) ⟨[(1, alsA ls), (4, .ptr 1 1 0), (6, .ptr q.kW q.sW 0), (7, I (dataO b ls)), (9, I ((b.funcs.length : Int) - 1))], H0, nx0⟩ := by
  have h20 := h.f.few.l
  have hw0 := h.f.words
  have hll := h.f.hold.len
  simp only [tailC, c_choose_Of, go_sem, VWs_seq]
  refine VW_loop (fun x : OfQ => ⟨[(1, alsA ls), (4, .ptr 1 1 0), (6, .ptr q.kW q.sW 0), (7, I (dataO b ls)), (9, I ((b.funcs.length : Int) - 1)), (10, I x.j)], x.H, x.nx⟩)
    (fun x => x.j ≤ b.funcs.length - 1 ∧ OI b ls rw q x.H x.bl (ordJ b.funcs.length x.j)) (fun x => b.funcs.length - 1 - x.j) ⟨0, H0, nx0, bl0⟩
    (Wk.mk (by simp [get_cons]) ⟨[], by simp⟩ (Nat.le_refl _)) ⟨Nat.zero_le _, hO⟩ ?_
  rintro ⟨j, H, nx, bl⟩ ⟨hj, hO⟩
  simp only at hj hO
  have hR := RunP.all h.f h.n h.rl j hj
  have hB := tot_bound h.f j hj
  have hlen := hR.len
  by_cases hlt : j < b.funcs.length - 1
  · simp only [go_sem, Nat.reduceEqDiff, ↓reduceIte, ↓dreduceIte, eq_true (show (j : Int) < (b.funcs.length : Int) - 1 by omega)]
    repeat ((with_reducible refine And.intro ?_ ?_); · first | omega | (simp; omega))
    refine hO.step h hED h1B h1E (by omega) (by omega) hR.en hR.rows _ _ fun r H' nx' bl' hO' _ _ => ?_
    have hR' := RunP.all h.f h.n h.rl (j + 1) (by omega)
    have hB' := tot_bound h.f (j + 1) (by omega)
    have hlen' := hR'.len
    rw [← ordJ_succ] at hO'
    obtain ⟨fn, plv, hp1, hw⟩ := hO'.w
    obtain ⟨cv, pv, hww, ⟨kC, sC, rfl, hkC⟩, hp⟩ := hw.w
    have hml : ((runO b ls rw (ordJ b.funcs.length (j + 1))).l.map (·.1)).length = (runO b ls rw (ordJ b.funcs.length (j + 1))).l.length := by simp
    simp only [go_sem, Nat.reduceEqDiff, Nat.reduceAdd, ↓reduceIte, Nat.reduceLeDiff, hww, hkC, List.length_map, eq_false (show ¬ 16384 < (((runO b ls rw (ordJ b.funcs.length (j + 1))).l.length : Nat) : Int) by omega)]
    rw [i64_in (n := (j : Int) + 1) (by omega) (by omega)]
    exact ⟨⟨j + 1, H', nx', bl'⟩, ⟨by simp only; omega, hO'⟩, by simp only; omega, Wk.mk (by simp [get_cons]) ⟨[], by simp⟩ (Nat.le_refl _)⟩
  · obtain rfl : j = b.funcs.length - 1 := by omega
    simp only [go_sem, Nat.reduceEqDiff, ↓reduceIte, eq_false (show ¬ ((b.funcs.length - 1 : Nat) : Int) < (b.funcs.length : Int) - 1 by omega)]
    refine ⟨_, Wk.refl _, ?_⟩
    obtain ⟨fn, plv, hp1, hw⟩ := hO.w
    obtain ⟨cv, pv, hww, ⟨kC, sC, rfl, hkC⟩, hp⟩ := hw.w
    simp only [go_sem, Nat.reduceEqDiff, Nat.reduceAdd, ↓reduceIte, Nat.reduceLeDiff, VWs_seq, hww, hkC, List.length_map, eq_false (show ¬ 16384 < (((runO b ls rw (ordJ b.funcs.length (b.funcs.length - 1))).l.length : Nat) : Int) by omega)]
    have hfin := of_E h hO nx
    simp only [tailC, c_choose_Of] at hfin
    refine ⟨_, ?_, hfin⟩
    exact Wk.mk (by simp [get_cons]) ⟨[], by simp⟩ (Nat.le_refl _)
end
end Go.Proofs.Ytkbhfokbhkmfgaa
namespace Go.Proofs.Ytkbhfokbhkmfgaa
set_option linter.unusedSimpArgs false
set_option linter.unusedVariables false
set_option maxRecDepth 10000
open Go.V
section
variable {b : BP} {ls : List (List Int)} {rw : Nat → List Bool}
theorem of_C (h : OfH b ls rw) {q : WI} {H : List VObj} {bl : List AV} (hO : OI b ls rw q H bl []) (hED : q.kE ≠ q.kD) (h1B : 1 ≠ q.kB) (h1E : 1 ≠ q.kE) (h0 : H[0]? = some ⟨0, 24, 1, [I b.words, .imm 2 (b.funcs.map bfA)]⟩) (nx : Nat) :
    VWs Try.prog (tailC 7 c_choose_Of) (retQ Try.prog [.cell 4 true 2, .tmp 5] (ofC b ls rw)) ⟨[(1, alsA ls), (2, .ptr 0 0 0), (4, .ptr 1 1 0), (6, .ptr q.kW q.sW 0), (7, I (dataO b ls))], H, nx⟩ := by
  have h20 := h.f.few.l
  have hw0 := h.f.words
  have hll := h.f.hold.len
  have w1 : IntKind.i64.wrap ((b.funcs.length : Int) - 1) = (b.funcs.length : Int) - 1 := i64_in (by omega) (by omega)
  have e1 : ((b.funcs.length : Int) - 1).toNat = b.funcs.length - 1 := by omega
  have e2 : (b.funcs.length : Int) - 1 = ((b.funcs.length - 1 : Nat) : Int) := by omega
  simp only [tailC, c_choose_Of, go_sem, Nat.reduceEqDiff, Nat.reduceAdd, ↓reduceIte, VWs_seq, h0, List.length_map, w1]
  refine ⟨_, Wk.refl _, ?_⟩
  simp only [go_sem, Nat.reduceEqDiff, ↓reduceIte, ↓dreduceIte, VWs_seq, e1]
  repeat ((with_reducible refine And.intro ?_ ?_); · first | omega | (simp; omega))
  rw [e2]
  refine hO.step h hED h1B h1E (i := b.funcs.length - 1) (by omega) (by simp [runO]) (by simp [runO]) (by simp [runO]) _ _ fun r H' nx' bl' hO' _ _ => ?_
  have hfin := of_D h (show OI b ls rw q H' bl' (ordJ b.funcs.length 0) from hO') hED h1B h1E nx'
  rw [e2] at hfin
  simp only [go_sem]
  simp only [tailC, c_choose_Of] at hfin
  refine ⟨_, ?_, hfin⟩
  exact Wk.mk (by simp [get_cons]) ⟨[], by simp⟩ (Nat.le_refl _)
def wsJ (b : BP) (ls : List (List Int)) (k : Nat) : List Int := (List.range b.funcs.length).map fun i => if i < k then b.words + totW (ls.take i) else 0
theorem wsJ_len (k : Nat) : (wsJ b ls k).length = b.funcs.length := by simp [wsJ]
theorem wsJ_set {k : Nat} (hk : k < b.funcs.length) : (wsJ b ls k).set k (b.words + totW (ls.take k)) = wsJ b ls (k + 1) := by
  refine List.ext_getElem (by simp [wsJ]) fun j h1 h2 => ?_
  rw [List.getElem_set]
  simp only [wsJ, List.getElem_map, List.getElem_range]
  by_cases e : k = j
  · subst e; rw [if_pos rfl, if_pos (by omega)]
  · rw [if_neg e]
    by_cases h : j < k
    · rw [if_pos h, if_pos (by omega)]
    · rw [if_neg h, if_neg (by omega)]
theorem wsJ_all : wsJ b ls b.funcs.length = wsO b ls := List.ext_getElem (by simp [wsJ, wsO]) fun j h1 h2 => by
  have hj : j < b.funcs.length := by simpa [wsJ] using h1
  simp [wsJ, wsO, hj]
theorem wsJ_zero : wsJ b ls 0 = List.replicate b.funcs.length 0 := List.ext_getElem (by simp [wsJ]) fun j h1 h2 => by simp [wsJ]
theorem WH.setD {ws ws' : List Int} {back fn : Int} {plv : AV} {q : WI} {H : List VObj} {code : List Ci} {sp : List Sp} {en : List Int} {bl : List AV} (h : WH b ws back fn plv q H code sp en bl) (hD : q.kE ≠ q.kD) : WH b ws' back fn plv q (H.set q.kD ⟨q.sD, 3, 1, ws'.map I⟩) code sp en bl := by
  obtain ⟨cv, pv, hw, ⟨k1, s1, e1, hc⟩, ⟨k2, s2, e2, hp⟩⟩ := h.w
  have hd := h.d
  have t : ∀ {i : Nat} {ob : VObj} {o : VObj}, H[i]? = some ob → ob.ty ≠ 3 → (H.set q.kD o)[i]? = some ob := fun {i ob o} h1 h2 => by
    rw [set_ne (fun e => by subst e; rw [hd] at h1; cases h1; exact h2 rfl)]; exact h1
  exact ⟨⟨cv, pv, t hw (by simp), ⟨k1, s1, e1, t hc (by simp)⟩, ⟨k2, s2, e2, t hp (by simp)⟩⟩, by rw [set_ne (fun e => hD e.symm)]; exact h.e, t h.b (by simp), set_get hd⟩
theorem WH.setBack {ws : List Int} {back back' fn : Int} {plv : AV} {q : WI} {H : List VObj} {code : List Ci} {sp : List Sp} {en : List Int} {bl : List AV} (h : WH b ws back fn plv q H code sp en bl) {cv pv : AV} (hw : H[q.kW]? = some ⟨q.sW, 75, 1, wrL b back fn plv q cv pv⟩) :
    WH b ws back' fn plv q (H.set q.kW ⟨q.sW, 75, 1, wrL b back' fn plv q cv pv⟩) code sp en bl := by
  obtain ⟨cv', pv', hw', ⟨k1, s1, e1, hc⟩, ⟨k2, s2, e2, hp⟩⟩ := h.w
  rw [hw] at hw'
  simp only [Option.some.injEq, VObj.mk.injEq, List.cons.injEq, true_and, and_true] at hw'
  obtain ⟨rfl, rfl⟩ := hw'
  have t : ∀ {i : Nat} {ob : VObj} {o : VObj}, H[i]? = some ob → ob.ty ≠ 75 → (H.set q.kW o)[i]? = some ob := fun {i ob o} h1 h2 => by
    rw [set_ne (fun e => by subst e; rw [hw] at h1; cases h1; exact h2 rfl)]; exact h1
  exact ⟨⟨cv, pv, set_get hw, ⟨k1, s1, e1, t hc (by simp)⟩, ⟨k2, s2, e2, t hp (by simp)⟩⟩, t h.e (by simp), t h.b (by simp), t h.d (by simp)⟩
set_option maxHeartbeats 1000000 in
theorem of_B (h : OfH b ls rw) {q : WI} {H0 : List VObj} (hW : WH b (List.replicate b.funcs.length 0) 0 0 nilv q H0 [] [] (List.replicate b.funcs.length 0) (List.replicate b.funcs.length nilv)) (hED : q.kE ≠ q.kD) (h1B : 1 ≠ q.kB) (h1E : 1 ≠ q.kE) (h1D : 1 ≠ q.kD) (h0D : 0 ≠ q.kD)
    (h0 : H0[0]? = some ⟨0, 24, 1, [I b.words, .imm 2 (b.funcs.map bfA)]⟩) (h1 : H0[1]? = some ⟨1, 30, 1, [nilv, I 0]⟩) (nx0 : Nat) :
    VWs Try.prog (tailC 2 c_choose_Of) (retQ Try.prog [.cell 4 true 2, .tmp 5] (ofC b ls rw)) ⟨[(1, alsA ls), (2, .ptr 0 0 0), (4, .ptr 1 1 0), (6, .ptr q.kW q.sW 0)], H0, nx0⟩ := by
  have h20 := h.f.few.l
  have hw0 := h.f.words
  have hll := h.f.hold.len
  simp only [tailC, c_choose_Of, go_sem, Nat.reduceEqDiff, Nat.reduceAdd, ↓reduceIte, Nat.reduceLeDiff, VWs_seq, h0]
  refine ⟨_, Wk.refl _, ?_⟩
  simp only [go_sem, Nat.reduceEqDiff, Nat.reduceAdd, ↓reduceIte, VWs_seq, h0, List.length_map]
  refine VW_loop (fun x : LQ => ⟨[(1, alsA ls), (2, .ptr 0 0 0), (4, .ptr 1 1 0), (6, .ptr q.kW q.sW 0), (7, I (b.words + totW (ls.take x.j))), (31, I b.funcs.length), (32, I x.j)], x.H, x.nx⟩)
    (fun x => x.j ≤ b.funcs.length ∧ WH b (wsJ b ls x.j) 0 0 nilv q x.H [] [] (List.replicate b.funcs.length 0) (List.replicate b.funcs.length nilv) ∧ x.H[0]? = some ⟨0, 24, 1, [I b.words, .imm 2 (b.funcs.map bfA)]⟩ ∧ x.H[1]? = some ⟨1, 30, 1, [nilv, I 0]⟩) (fun x => b.funcs.length - x.j) ⟨0, H0, nx0⟩
    (Wk.mk (by simp [get_cons, totW]) ⟨[], by simp⟩ (Nat.le_refl _)) ⟨Nat.zero_le _, by rw [wsJ_zero]; exact hW, h0, h1⟩ ?_
  rintro ⟨j, H, nx⟩ ⟨hj, hwj, g0, g1⟩
  simp only at hj hwj g0 g1
  obtain ⟨cv, pv, hw, hcc, hp⟩ := hwj.w
  have hd := hwj.d
  have l1 := lt_of hd
  have ht := h.f.tot j (by omega)
  by_cases hlt : j < b.funcs.length
  · have hst := totW_step ls (show j < ls.length by omega)
    have ht' := h.f.tot (j + 1) (by omega)
    have hwd := h.f.hold.wds j (by omega)
    simp only [go_sem, Nat.reduceEqDiff, Nat.reduceAdd, ↓reduceIte, ↓dreduceIte, Nat.reduceLeDiff, List.length_map, eq_true (show (j : Int) < b.funcs.length by omega), hw, hd, wsJ_len]
    repeat ((with_reducible refine And.intro ?_ ?_); · first | omega | (simp; omega) | exact ⟨by omega, by omega, rfl, rfl⟩)
    refine VCall.of_contract (awords_c (ls.getD j default) (h.p _ (mem_getD (by omega)))) (SleL.pure rfl) fun x hx => ?_
    subst hx
    simp only [go_sem, Nat.reduceEqDiff, ↓reduceIte]
    rw [i64_in (n := (j : Int) + 1) (by omega) (by omega), i64_in (n := b.words + totW (ls.take j) + _) (by omega) (by omega), show ((wsJ b ls j).map I).set j (I (b.words + totW (ls.take j))) = (wsJ b ls (j + 1)).map I by rw [← wsJ_set hlt, List.map_set]]
    refine ⟨⟨j + 1, H.set q.kD ⟨q.sD, 3, 1, (wsJ b ls (j + 1)).map I⟩, nx⟩, ⟨by simp only; omega, hwj.setD hED, by simp only; rw [set_ne (fun e => h0D e.symm)]; exact g0, by simp only; rw [set_ne (fun e => h1D e.symm)]; exact g1⟩, by simp only; omega, ?_⟩
    exact Wk.mk (by simp [get_cons, hst]; omega) ⟨[], by simp⟩ (Nat.le_refl _)
  · obtain rfl : j = b.funcs.length := by omega
    rw [wsJ_all] at hwj
    have htT : totW (ls.take b.funcs.length) = totW ls := by rw [List.take_of_length_le (by omega)]
    rw [htT] at ht
    have lW := lt_of hw
    have hwb := hwj.setBack (back' := b.words + totW ls) hw
    have w1 : IntKind.i64.wrap ((b.funcs.length : Int) - 1) = (b.funcs.length : Int) - 1 := i64_in (by omega) (by omega)
    have w2 : IntKind.i64.wrap (b.words + totW ls + ((b.funcs.length : Int) - 1)) = dataO b ls := by unfold dataO; exact i64_in (by omega) (by omega)
    have o0 : (q.kW = 0) = False := eq_false (fun e => by rw [e, g0] at hw; simp at hw)
    simp only [go_sem, Nat.reduceEqDiff, ↓reduceIte, eq_false (show ¬ (b.funcs.length : Int) < b.funcs.length by omega), htT]
    refine ⟨_, Wk.refl _, ?_⟩
    simp only [go_sem, Nat.reduceEqDiff, Nat.reduceAdd, ↓reduceIte, Nat.reduceLeDiff, VWs_seq, hw]
    have hdO : dataO b ls = b.words + totW ls + ((b.funcs.length : Int) - 1) := rfl
    have g0' : (H.set q.kW ⟨q.sW, 75, 1, wrL b (b.words + totW ls) 0 nilv q cv pv⟩)[0]? = some ⟨0, 24, 1, [I b.words, .imm 2 (b.funcs.map bfA)]⟩ := by
      rw [set_ne (fun e => by rw [e, g0] at hw; simp at hw)]; exact g0
    have g1' : (H.set q.kW ⟨q.sW, 75, 1, wrL b (b.words + totW ls) 0 nilv q cv pv⟩)[1]? = some ⟨1, 30, 1, [nilv, I 0]⟩ := by
      rw [set_ne (fun e => by rw [e, g1] at hw; simp at hw)]; exact g1
    generalize H.set q.kW ⟨q.sW, 75, 1, wrL b (b.words + totW ls) 0 nilv q cv pv⟩ = HX at *
    refine ⟨_, Wk.refl _, ?_⟩
    simp only [go_sem, Nat.reduceEqDiff, Nat.reduceAdd, ↓reduceIte, VWs_seq, List.length_map, g0', w1, w2]
    refine ⟨_, Wk.refl _, ?_⟩
    simp only [go_sem, ↓reduceIte, VWs_seq, eq_false (show ¬ 32768 < dataO b ls by omega)]
    have hO : OI b ls rw q HX (List.replicate b.funcs.length nilv) [] := ⟨⟨0, nilv, rfl, hwb⟩, by simp, fun x hx => by rw [(List.mem_replicate.1 hx).2]; rfl, fun i hi => (by cases hi), g1'⟩
    have hfin := of_C h hO hED h1B h1E g0' nx
    simp only [tailC, c_choose_Of] at hfin
    refine ⟨_, ?_, hfin⟩
    exact Wk.mk (by simp [get_cons]) ⟨[], by simp⟩ (Nat.le_refl _)
end
end Go.Proofs.Ytkbhfokbhkmfgaa
