/-
  The search's beginning: contract. No condition.
-/
import Derived.Test.YtjdeediehmhdoaaBO
import Derived.Test.YtjdeediehmhdoaaBM
namespace Go.Proofs.Ytjdeediehmhdoaa
set_option linter.unusedSimpArgs false
set_option linter.unusedVariables false
set_option maxRecDepth 10000
open Go.V

structure WQ2 where
  k : Nat
  H : List VObj
  wv : AV
  nx : Nat
/-- What was gathered is the search's beginning, no one waiting yet. -/
theorem SB.HS {f : BF} {ka kw : Nat} {o0 o1 : VObj} {x : BQ} (h : SB f ka kw o0 o1 (predJ f f.n 0) x) (hb : x.b = f.n) :
    HS f x.H ⟨5, 5, 8, x.s8, 9, x.s9, kw, kw, ka, ka, 6, x.s6, 7, x.s7, fun c => (10 + c, x.sp c), x.ri, x.ro⟩ nilv ⟨List.replicate f.n (List.replicate f.r false), List.replicate f.n (List.replicate f.r false), []⟩ := by
  have hrep : ∀ b, b < f.n → (List.replicate f.n (List.replicate f.r false)).getD b [] = List.replicate f.r false := fun b hb => by simp [List.getD, hb]
  have htk : f.bks.take f.n = f.bks := List.take_of_length_le (Nat.le_refl _)
  have hpl : predJ f f.n 0 = predL f := funext fun c => predJ_all f c
  have hso := h.so
  have h6 := h.r6
  have h7 := h.r7
  have h8 := h.r8
  have h9 := h.r9
  rw [hb] at hso h6 h7 h8 h9
  rw [htk] at h6 h7
  have hah := h.ah
  have hpr := h.pr
  rw [hpl] at hah hpr
  have hfl : flags f.n [] = List.replicate f.n false := gB_ext (by simp [flags]) fun v hv => by
    have hv' : v < f.n := by simpa [flags] using hv
    rw [flags_get hv', gB_rep]; simp
  exact ⟨hso, h8, h9, fun b hb' => by rw [hrep b hb']; exact h.ri b (by omega), fun b hb' => by rw [hrep b hb']; exact h.ro b (by omega), by rw [hfl]; exact h.w, .inl ⟨rfl, rfl⟩, hah, h6, h7, hpr, fun b hb' c hc => h.dI b (by omega) c (by omega), fun b hb' c hc => h.dO b (by omega) c (by omega), fun b hb' c hc => h.dIO b (by omega) c (by omega)⟩
structure PQ where
  j : Nat
  H : List VObj
  sp : Nat → Nat
  nx : Nat
theorem lt_succ' {a n : Nat} (h : a < n) : (a < n + 1) = True := eq_true (by omega)
theorem app_at {α : Type} {H R : List α} {i : Nat} (h : i < H.length) : (H ++ R)[i]? = H[i]? := List.getElem?_append_left h
theorem app_end {α : Type} {H : List α} {a : α} : (H ++ [a])[H.length]? = some a := by simp
theorem app_endn {α : Type} {H : List α} {a : α} {k : Nat} (h : k = H.length) : (H ++ [a])[k]? = some a := by subst h; simp
theorem set_at {α : Type} {H : List α} {a : α} {i : Nat} (h : i < H.length) : (H.set i a)[i]? = some a := by simp [h]
theorem set_off {α : Type} {H : List α} {a : α} {i j : Nat} (h : (i = j) = False) : (H.set i a)[j]? = H[j]? := List.getElem?_set_ne (fun e => by rw [e] at h; simp at h)
theorem push_at {H : List VObj} {t x y a : VObj} {k i : Nat} (h : H[i]? = some a) (hk : k ≠ i) (h5 : 5 ≠ i) : (((H ++ [t]).set k x).set 5 y)[i]? = some a := by rw [set_ne h5, set_ne hk]; exact app_old h _
theorem push_5 {H : List VObj} {t x y a : VObj} {k : Nat} (h : H[5]? = some a) : (((H ++ [t]).set k x).set 5 y)[5]? = some y := by
  have := (List.getElem?_eq_some_iff.1 h).1
  rw [List.getElem?_set_self (by simp; omega)]
theorem push_k {H : List VObj} {t x y a : VObj} {k : Nat} (h : H[k]? = some a) (h5 : 5 ≠ k) : (((H ++ [t]).set k x).set 5 y)[k]? = some x := by
  rw [set_ne h5]; exact set_get (app_old h _)
theorem push_keep {H : List VObj} {t x y a z : VObj} {k : Nat} (h : H[k]? = some a) (h5 : H[5]? = some z) (ha : a.ty = 70) (hz : z.ty = 66) : KeepT [70, 66] H (((H ++ [t]).set k x).set 5 y) := fun i ob hi ho => by
  have f1 : k ≠ i := fun e => by subst e; rw [h] at hi; cases hi; exact ho (by simp [ha])
  have f2 : 5 ≠ i := fun e => by subst e; rw [h5] at hi; cases hi; exact ho (by simp [hz])
  exact push_at hi f1 f2
theorem rowsL_succ (n r : Nat) (ri : Nat → Nat × Nat) (q : Nat × Nat) : rowsL n r ri ++ [AV.ref q.1 q.2 0 (rl r)] = rowsL (n + 1) r (fun c => if c = n then q else ri c) := by
  unfold rowsL
  rw [List.range_succ, List.map_append]
  congr 1
  · refine List.map_congr_left fun c hc => ?_
    have : c ≠ n := by have := List.mem_range.1 hc; omega
    simp only [if_neg this]
  · simp
theorem SB.row {f : BF} {ka kw : Nat} {o0 o1 : VObj} {pl : Nat → List Nat} {x : BQ} (h : SB f ka kw o0 o1 pl x) (t0 : o0.ty = 24) (t1 : o1.ty = 29) (hb : x.b < f.n)
    {H4 H6 H7 : List VObj} {y1 u1 u2 a5 : VObj} {s6' s7' s8' s9' n4 n6 nx' : Nat}
    (k4 : KeepT [70, 66] x.H H4) (g5 : H4[5]? = some a5) (g5t : a5.ty = 66)
    (g6 : H4[6]? = some ⟨s6', 70, 1, (f.bks.take (x.b + 1)).map fun b => .imm 1 (rowC64 (readL b f.r))⟩)
    (g7 : H4[7]? = some ⟨s7', 70, 1, (f.bks.take (x.b + 1)).map fun b => .imm 1 (rowC64 (setL b f.r))⟩)
    (g8 : H4[8]? = some ⟨x.s8, 70, 1, rowsL x.b f.r x.ri⟩) (g9 : H4[9]? = some ⟨x.s9, 70, 1, rowsL x.b f.r x.ro⟩)
    (y1t : y1.ty = 66)
    (e6 : H6 = (((H4 ++ [VObj.mk n4 88 1 (rowC64 (List.replicate f.r false))]) ++ [u1]).set 8 (VObj.mk s8' 70 1 (rowsL x.b f.r x.ri ++ [AV.ref H4.length n4 0 (rl f.r)]))).set 5 y1)
    (e7 : H7 = (((H6 ++ [VObj.mk n6 88 1 (rowC64 (List.replicate f.r false))]) ++ [u2]).set 9 (VObj.mk s9' 70 1 (rowsL x.b f.r x.ro ++ [AV.ref H6.length n6 0 (rl f.r)]))).set 5 (VObj.mk 5 66 1 (slB f ka kw (x.b + 1) s6' s7' s8' s9'))) :
    SB f ka kw o0 o1 pl ⟨x.b + 1, H7, s6', s7', s8', s9', x.sp, fun c => if c = x.b then (H4.length, n4) else x.ri c, fun c => if c = x.b then (H6.length, n6) else x.ro c, nx'⟩ := by
  have k5 : KeepT [70, 66] (H4 ++ [⟨n4, 88, 1, rowC64 (List.replicate f.r false)⟩]) H6 := by
    rw [e6]; exact push_keep (app_old g8 _) (app_old g5 _) rfl g5t
  have k6 := (KeepT.app [70, 66] H4 [⟨n4, 88, 1, rowC64 (List.replicate f.r false)⟩]).trans k5
  have j5 : H6[5]? = some y1 := by rw [e6]; exact push_5 (app_old g5 _)
  have j6 : H6[6]? = some _ := (congrArg (fun l : List VObj => l[(6 : Nat)]?) e6).trans (push_at (app_old g6 _) (by decide) (by decide))
  have j7 : H6[7]? = some _ := (congrArg (fun l : List VObj => l[(7 : Nat)]?) e6).trans (push_at (app_old g7 _) (by decide) (by decide))
  have j8 : H6[8]? = some _ := (congrArg (fun l : List VObj => l[(8 : Nat)]?) e6).trans (push_k (app_old g8 _) (by decide))
  have j9 : H6[9]? = some _ := (congrArg (fun l : List VObj => l[(9 : Nat)]?) e6).trans (push_at (app_old g9 _) (by decide) (by decide))
  have k7' : KeepT [70, 66] (H6 ++ [⟨n6, 88, 1, rowC64 (List.replicate f.r false)⟩]) H7 := by
    rw [e7]; exact push_keep (app_old j9 _) (app_old j5 _) rfl y1t
  have k7 := (KeepT.app [70, 66] H6 [⟨n6, 88, 1, rowC64 (List.replicate f.r false)⟩]).trans k7'
  have k := (k4.trans k6).trans k7
  have li : ∀ c < x.b, (x.ri c).1 < H4.length := fun c hc => (List.getElem?_eq_some_iff.1 (k4 _ _ (h.ri c hc) (by simp))).1
  have lo : ∀ c < x.b, (x.ro c).1 < H4.length := fun c hc => (List.getElem?_eq_some_iff.1 (k4 _ _ (h.ro c hc) (by simp))).1
  have l46 : H4.length < H6.length := by rw [e6]; simp
  refine ⟨k _ _ h.h0 (by rw [t0]; simp), k _ _ h.h1 (by rw [t1]; simp), k _ _ h.h2 (by simp), ?_, k _ _ h.ah (by simp), fun c hc => k _ _ (h.pr c hc) (by simp), ?_, ?_, ?_, ?_, fun c hc => ?_, fun c hc => ?_, k _ _ h.w (by simp), fun c hc d hd => ?_, fun c hc d hd => ?_, fun c hc d hd => ?_⟩
  · rw [e7]; exact push_5 (app_old j5 _)
  · rw [e7]; exact push_at (app_old j6 _) (by decide) (by decide)
  · rw [e7]; exact push_at (app_old j7 _) (by decide) (by decide)
  · rw [← rowsL_succ, e7]; exact push_at (app_old j8 _) (by decide) (by decide)
  · rw [← rowsL_succ, e7]; exact push_k (app_old j9 _) (by decide)
  · simp only at hc ⊢
    by_cases e : c = x.b
    · rw [if_pos e]; exact k7 _ _ (k5 _ _ app_end (by simp)) (by simp)
    · rw [if_neg e]; exact k _ _ (h.ri c (by omega)) (by simp)
  · simp only at hc ⊢
    by_cases e : c = x.b
    · rw [if_pos e]; exact k7' _ _ app_end (by simp)
    · rw [if_neg e]; exact k _ _ (h.ro c (by omega)) (by simp)
  · simp only at hc hd ⊢
    by_cases e : c = x.b
    · by_cases e2 : d = x.b
      · intro _; omega
      · rw [if_pos e, if_neg e2]; intro he; have := li d (by omega); simp only at he; omega
    · by_cases e2 : d = x.b
      · rw [if_neg e, if_pos e2]; intro he; have := li c (by omega); simp only at he; omega
      · rw [if_neg e, if_neg e2]; exact h.dI c (by omega) d (by omega)
  · simp only at hc hd ⊢
    by_cases e : c = x.b
    · by_cases e2 : d = x.b
      · intro _; omega
      · rw [if_pos e, if_neg e2]; intro he; have := lo d (by omega); simp only at he; omega
    · by_cases e2 : d = x.b
      · rw [if_neg e, if_pos e2]; intro he; have := lo c (by omega); simp only at he; omega
      · rw [if_neg e, if_neg e2]; exact h.dO c (by omega) d (by omega)
  · simp only at hc hd ⊢
    by_cases e : c = x.b
    · by_cases e2 : d = x.b
      · rw [if_pos e, if_pos e2]; intro he; simp only at he; omega
      · rw [if_pos e, if_neg e2]; intro he; have := lo d (by omega); simp only at he; omega
    · by_cases e2 : d = x.b
      · rw [if_neg e, if_pos e2]; intro he; have := li c (by omega); simp only at he; omega
      · rw [if_neg e, if_neg e2]; exact h.dIO c (by omega) d (by omega)
theorem takeL_succ {f : BF} {b : Nat} (hb : b < f.n) (g : Bk → AV) : List.take b (List.map g (List.take b f.bks)) ++ [g (f.bk b)] = (f.bks.take (b + 1)).map g := by
  have : f.bks[b]? = some (f.bk b) := by
    have h : b < f.bks.length := hb
    unfold BF.bk; simp [List.getD, h]
  rw [List.take_of_length_le (by simp; omega), List.take_add_one, this]
  simp
theorem solver_tail (f : BF) (hf : Fine f) (hr : f.r ≤ 64) (ka kw : Nat) (hk : (ka = 3 ∧ kw = 4) ∨ (ka = 4 ∧ kw = 3)) (o0 o1 : VObj) (t0 : o0.ty = 24) (t1 : o1.ty = 29) (env : List (Nat × AV)) (he1 : get env 1 = .ptr 2 2 0) (he3 : get env 3 = I f.n) (he4 : get env 4 = .ptr 5 5 0)
    (H : List VObj) (hl : H.length = 6) (h0 : H[0]? = some o0) (h1 : H[1]? = some o1)
    (h2 : H[2]? = some ⟨2, 24, 1, bfL f⟩) (hS : H[5]? = some ⟨5, 66, 1, [nextA f, .ref ka ka 0 f.n, nilv, nilv, nilv, nilv, nilv, .ref kw kw 0 f.n]⟩)
    (ha : H[ka]? = some ⟨ka, 43, 1, List.replicate f.n nilv⟩) (hw : H[kw]? = some ⟨kw, 4, 1, (List.replicate f.n false).map B⟩) (C : AV → List VObj → Nat → Prop)
    (hC : ∀ q H nx wv, HS f H q wv (beginS f) → H[0]? = some o0 → H[1]? = some o1 → C (.ptr q.kS q.sS 0) H nx) : VW Try.prog c_live_solverOf.tl.tl.tl (retQ Try.prog [VR.tmp 2] C) ⟨env, H, 6⟩ := by
  have hr0 := hf.r0
  have hregs : f.regs = (f.r : Int) := by unfold BF.r; omega
  have hn5 : f.n ≤ 500 := hf.b1
  have hlen : f.bks.length = f.n := rfl
  have hmx : (200000 : Nat) ≤ maxLen := by decide
  simp only [go_sem,Nat.reduceEqDiff,Nat.reduceAdd,Nat.reduceMul,↓reduceIte,↓dreduceIte,reduceCtorEq,Nat.reduceLeDiff,Nat.reduceLT,Nat.reduceSub,Int.reduceToNat,Int.reduceLE,Int.reduceLT, c_live_solverOf, VC.tl, he1, he3, he4, hS, List.length_map, hlen]
  obtain ⟨H', nx', hwk, hsb⟩ := begin_virt f ka kw hk o0 o1 [(1, .ptr 2 2 0), (3, I f.n), (4, .ptr 5 5 0), (26, nextA f), (27, I f.n), (28, I ((0 : Nat) : Int))] (by simp [get_cons]) H hl h0 h1 h2 hS ha hw
  refine VW_loop (fun x : BQ => ⟨[(1, .ptr 2 2 0), (3, I f.n), (4, .ptr 5 5 0), (26, nextA f), (27, I f.n), (28, I x.b)], x.H, x.nx⟩) (fun x => x.b ≤ f.n ∧ SB f ka kw o0 o1 (predJ f x.b 0) x) (fun x => f.n - x.b) ⟨0, H', 6, 7, 8, 9, fun c => 10 + c, fun _ => (0, 0), fun _ => (0, 0), nx'⟩
    (by refine Wk.trans ?_ hwk; exact Wk.mk (by simp [get_cons, he1, he3, he4]) ⟨[], by simp⟩ (Nat.le_refl _)) ⟨Nat.zero_le _, hsb⟩ ?_
  clear hsb hwk h0 h1 h2 hS ha hw hl
  rintro ⟨b, H, s6, s7, s8, s9, sp, ri, ro, nx⟩ ⟨hb, h⟩
  simp only at hb h
  have hka : ka = 3 ∨ ka = 4 := by omega
  have hkw : kw = 3 ∨ kw = 4 := by omega
  have hne : ka ≠ kw := by omega
  by_cases hlt : b < f.n
  · have hbk : f.bks.getD b default = f.bk b := rfl
    have hnl := nxt_len (f.bk b)
    have hto := hf.to _ (BF.mem hlt)
    simp only [go_sem,Nat.reduceEqDiff,Nat.reduceAdd,Nat.reduceMul,↓reduceIte,↓dreduceIte,reduceCtorEq,Nat.reduceLeDiff,Nat.reduceLT,Nat.reduceSub,Int.reduceToNat,Int.reduceLE,Int.reduceLT, one_imm, one_ref, hbk, List.length_map, hlen, eq_true (show (b : Int) < f.n by omega)]
    repeat ((with_reducible refine And.intro ?_ ?_); · omega)
    refine VW_loop (fun y : PQ => ⟨[(1, .ptr 2 2 0), (3, I f.n), (4, .ptr 5 5 0), (26, nextA f), (27, I f.n), (28, I b), (5, I b), (33, ints (nxt (f.bk b))), (34, I (nxt (f.bk b)).length), (35, I y.j)], y.H, y.nx⟩)
      (fun y => y.j ≤ (nxt (f.bk b)).length ∧ SB f ka kw o0 o1 (predJ f b y.j) ⟨b, y.H, s6, s7, s8, s9, y.sp, ri, ro, y.nx⟩) (fun y => (nxt (f.bk b)).length - y.j) ⟨0, H, sp, nx⟩ (Wk.mk (by simp [get_cons]) ⟨[], by simp⟩ (Nat.le_refl _)) ⟨Nat.zero_le _, h⟩ ?_
    clear h
    rintro ⟨j, H, sp, nx⟩ ⟨hj, h⟩
    simp only at hj h
    have hso := h.so
    have hah := h.ah
    simp only at hso hah
    have l5 := lt_of hso
    have lka := lt_of hah
    by_cases hl2 : j < (nxt (f.bk b)).length
    · have hkk := hto _ (mem_getD hl2)
      have hps := fun c => predJ_step f b c hl2
      obtain ⟨k, hkd⟩ : ∃ k, k = ((nxt (f.bk b)).getD j default).toNat := ⟨_, rfl⟩
      have hki : (nxt (f.bk b)).getD j default = (k : Int) := by omega
      have hkn : k < f.n := by unfold BF.n; omega
      have hpr := h.pr k hkn
      have hpl := predJ_len f b j k
      simp only at hpr
      have lk := lt_of hpr
      have m1 := eq_true (show 5 < H.length + 1 by have := of_eq_true l5; omega)
      have m2 := eq_true (show ka < H.length + 1 by have := of_eq_true lka; omega)
      have m3 := eq_true (show 10 + k < H.length + 1 by have := of_eq_true lk; omega)
      have f1 : (10 + k = ka) = False := eq_false (by omega)
      have f2 : (10 + k = 5) = False := eq_false (by omega)
      have f3 : (5 = ka) = False := eq_false (by omega)
      have f4 : (ka = 5) = False := eq_false (by omega)
      have f5 : (ka = 10 + k) = False := eq_false (by omega)
      simp only [go_sem,Nat.reduceEqDiff,Nat.reduceAdd,Nat.reduceMul,↓reduceIte,↓dreduceIte,reduceCtorEq,Nat.reduceLeDiff,Nat.reduceLT,Nat.reduceSub,Int.reduceToNat,Int.reduceLE,Int.reduceLT, hso, hah, hpr, one_imm, one_ref, hki, cellT_ah, eq_true (show (j : Int) < (nxt (f.bk b)).length by omega), List.getElem?_set, List.getElem?_append, List.length_set, List.length_append, l5, lka, lk, m1, m2, m3, f1, f2, f3, f4, f5, Nat.lt_irrefl, Nat.sub_self]
      repeat' (with_reducible apply And.intro)
      all_goals first | omega | exact ⟨rfl, rfl, rfl⟩ | (simp only [List.length_range]; omega) | skip
      all_goals
        have hpn : (fun c => if c = k then predJ f b j k ++ [b] else predJ f b j c) = predJ f b (j + 1) := by
          funext c
          rw [hps c, hki, Int.toNat_natCast]
          by_cases e : c = k
          · subst e; simp
          · rw [if_neg e, if_neg (fun h => e h.symm)]
        have hadd := h.add hka hkw hne t0 t1 hkn (predJ f b j k ++ [b]) (nx + 1) ⟨nx, 3, 1, [I b]⟩ (nx + 1 + 1)
        rw [hpn] at hadd
        refine ⟨⟨j + 1, ((H ++ [(⟨nx, 3, 1, [I b]⟩ : VObj)]).set (10 + k) (⟨nx + 1, 3, 1, natsL (predJ f b j k ++ [b])⟩ : VObj)).set ka (⟨ka, 43, 1, ahC f.n (fun c => if c = k then nx + 1 else sp c) (predJ f b (j + 1))⟩ : VObj), fun c => if c = k then nx + 1 else sp c, nx + 1 + 1⟩, ⟨by show j + 1 ≤ _; omega, hadd⟩, by show _ - (j + 1) < _ - j; omega, ?_⟩
        rw [ahC_set hkn (predJ f b j k ++ [b]) (by simp), hpn, show List.take (predJ f b j k).length (natsL (predJ f b j k)) ++ [I (b : Int)] = natsL (predJ f b j k ++ [b]) by simp [natsL, List.take_of_length_le]]
        rw [i64_in (by omega) (by omega)]
        exact Wk.mk (by simp [get_cons]) ⟨[], by simp⟩ (Nat.le_refl _)
    · have hje : j = (nxt (f.bk b)).length := by omega
      subst hje
      rw [show predJ f b (nxt (f.bk b)).length = predJ f (b + 1) 0 from funext fun c => predJ_next f b c] at h
      have h6 := h.r6
      have h7 := h.r7
      have h8 := h.r8
      have h9 := h.r9
      have h2 := h.h2
      simp only at h6 h7 h8 h9 h2
      have l2 := lt_of h2
      have l6 := lt_of h6
      have l7 := lt_of h7
      have l8 := lt_of h8
      have l9 := lt_of h9
      simp only [go_sem,Nat.reduceEqDiff,Nat.reduceAdd,Nat.reduceMul,↓reduceIte,↓dreduceIte,reduceCtorEq,Nat.reduceLeDiff,Nat.reduceLT,Nat.reduceSub,Int.reduceToNat,Int.reduceLE,Int.reduceLT, h2, hso, one_imm, one_ref, hbk, List.length_map, hlen, eq_false (show ¬ ((nxt (f.bk b)).length : Int) < (nxt (f.bk b)).length by omega)]
      have hbm := BF.mem hlt
      have hro := hf.v _ hbm
      have hrt := hf.ins _ hbm
      rw [hregs] at hro hrt
      refine ⟨hlt, ECall.of (touch_c (f.bk b) f.r hr (by have := hf.len _ hbm; omega) hro hrt) (by rw [hregs]; exact SleL.pure rfl) ⟨_, fun _ => Iff.rfl⟩ fun x hx => ?_⟩
      subst hx
      have e56 : (5 = 6) = False := by simp
      have e57 : (5 = 7) = False := by simp
      have e58 : (5 = 8) = False := by simp
      have e59 : (5 = 9) = False := by simp
      have e65 : (6 = 5) = False := by simp
      have e75 : (7 = 5) = False := by simp
      have e76 : (7 = 6) = False := by simp
      have e67 : (6 = 7) = False := by simp
      simp only [go_sem,Nat.reduceEqDiff,Nat.reduceAdd,Nat.reduceMul,↓reduceIte,↓dreduceIte,reduceCtorEq,Nat.reduceLeDiff,Nat.reduceLT,Nat.reduceSub,Int.reduceToNat,Int.reduceLE,Int.reduceLT, hso, h6, h7, h8, h9, h2, one_imm, one_ref, List.length_set, List.length_append, l2, l5, l6, l7, l8, l9, lt_succ', app_at, app_end, app_endn, set_at, set_off, List.length_cons, List.length_nil, Nat.zero_add, e56, e57, e58, e59, e65, e75, e76, e67, List.length_map, List.length_take, hlen]
      repeat ((with_reducible refine And.intro ?_ ?_); · first | omega | exact ⟨rfl, rfl, rfl⟩)
      obtain ⟨H4, e4⟩ : ∃ H4, H4 = (((((H ++ [((VObj.mk (nx) 70 1 ([AV.imm 1 (rowC64 (readL (f.bk b) f.r))])))]).set 6 (VObj.mk (nx + 1) 70 1 (List.take b (List.map (fun b => AV.imm 1 (rowC64 (readL b f.r))) (List.take b f.bks)) ++ [AV.imm 1 (rowC64 (readL (f.bk b) f.r))]))).set 5 (VObj.mk (5) 66 1 ([nextA f, AV.ref ka ka 0 f.n, AV.ref 6 (nx + 1) 0 (b + 1), AV.ref 7 s7 0 b, AV.ref 8 s8 0 b, AV.ref 9 s9 0 b, nilv, AV.ref kw kw 0 f.n])) ++ [(VObj.mk (nx + 1 + 1) 70 1 ([AV.imm 1 (rowC64 (setL (f.bk b) f.r))]))]).set 7 (VObj.mk (nx + 1 + 1 + 1) 70 1 (List.take b (List.map (fun b => AV.imm 1 (rowC64 (setL b f.r))) (List.take b f.bks)) ++ [AV.imm 1 (rowC64 (setL (f.bk b) f.r))]))).set 5 (VObj.mk (5) 66 1 ([nextA f, AV.ref ka ka 0 f.n, AV.ref 6 (nx + 1) 0 (b + 1), AV.ref 7 (nx + 1 + 1 + 1) 0 (b + 1), AV.ref 8 s8 0 b, AV.ref 9 s9 0 b, nilv, AV.ref kw kw 0 f.n]))) := ⟨_, rfl⟩
      rw [← e4]
      have k4 : KeepT [70, 66] H H4 := by
        rw [e4]
        exact (push_keep h6 hso rfl rfl).trans (push_keep (push_at h7 (by decide) (by decide)) (push_5 hso) rfl rfl)
      have h45 : H4[5]? = some ⟨5, 66, 1, [nextA f, AV.ref ka ka 0 f.n, AV.ref 6 (nx + 1) 0 (b + 1), AV.ref 7 (nx + 1 + 1 + 1) 0 (b + 1), AV.ref 8 s8 0 b, AV.ref 9 s9 0 b, nilv, AV.ref kw kw 0 f.n]⟩ := by rw [e4]; exact push_5 (push_5 hso)
      have h42 : H4[2]? = some ⟨2, 24, 1, bfL f⟩ := k4 _ _ h2 (by simp)
      have h48 : H4[8]? = some ⟨s8, 70, 1, rowsL b f.r ri⟩ := by rw [e4]; exact push_at (push_at h8 (by decide) (by decide)) (by decide) (by decide)
      have h49 : H4[9]? = some ⟨s9, 70, 1, rowsL b f.r ro⟩ := by rw [e4]; exact push_at (push_at h9 (by decide) (by decide)) (by decide) (by decide)
      have l45 := lt_of h45
      have l42 := lt_of h42
      have l48 := lt_of h48
      have l49 := lt_of h49
      have e85 : (8 = 5) = False := by simp
      have e89 : (8 = 9) = False := by simp
      have e98 : (9 = 8) = False := by simp
      have e95 : (9 = 5) = False := by simp
      simp only [go_sem,Nat.reduceEqDiff,Nat.reduceAdd,Nat.reduceMul,↓reduceIte,↓dreduceIte,reduceCtorEq,Nat.reduceLeDiff,Nat.reduceLT,Nat.reduceSub,Int.reduceToNat,Int.reduceLE,Int.reduceLT, h45, h42, h48, h49, one_imm, one_ref, List.length_set, List.length_append, l45, l42, l48, l49, lt_succ', app_at, app_end, app_endn, set_at, set_off, e85, e89, e98, e95, List.length_cons, List.length_nil, Nat.zero_add, e58, e59]
      rw [← e4, hregs]
      refine ⟨?_, ?_⟩
      all_goals
        unfold VCallT
        refine rowOf_v f.r hr _ _ _ ?_
        refine ⟨?_, ?_⟩
        · simp only [go_sem,Nat.reduceEqDiff,Nat.reduceAdd,Nat.reduceMul,↓reduceIte,↓dreduceIte,reduceCtorEq,Nat.reduceLeDiff,Nat.reduceLT,Nat.reduceSub,Int.reduceToNat,Int.reduceLE,Int.reduceLT, List.length_set, List.length_append, app_at, app_end, app_endn, set_at, set_off, List.length_cons, List.length_nil, Nat.zero_add]
          rw [← e4]
          exact stab_app _ _
        simp only [go_sem,Nat.reduceEqDiff,Nat.reduceAdd,Nat.reduceMul,↓reduceIte,↓dreduceIte,reduceCtorEq,Nat.reduceLeDiff,Nat.reduceLT,Nat.reduceSub,Int.reduceToNat,Int.reduceLE,Int.reduceLT, h45, h42, h48, h49, one_imm, one_ref, List.length_set, List.length_append, l45, l42, l48, l49, lt_succ', app_at, app_end, app_endn, set_at, set_off, e85, e89, e98, e95, List.length_cons, List.length_nil, Nat.zero_add, e58, e59]
        repeat ((with_reducible refine And.intro ?_ ?_); · omega)
        obtain ⟨n4, en4⟩ : ∃ n4, n4 = nx + 1 + 1 + 1 + 1 := ⟨_, rfl⟩
        rw [← en4]
        have htk : List.take b (rowsL b f.r ri) = rowsL b f.r ri := List.take_of_length_le (by simp)
        have htk2 : List.take b (rowsL b f.r ro) = rowsL b f.r ro := List.take_of_length_le (by simp)
        rw [htk]
        obtain ⟨H6, e6⟩ : ∃ H6, H6 = (((H4 ++ [VObj.mk n4 88 1 (rowC64 (List.replicate f.r false))]) ++ [VObj.mk (n4 + 1) 70 1 [AV.ref H4.length n4 0 (rl f.r)]]).set 8 (VObj.mk (n4 + 1 + 1) 70 1 (rowsL b f.r ri ++ [AV.ref H4.length n4 0 (rl f.r)]))).set 5 (VObj.mk 5 66 1 [nextA f, AV.ref ka ka 0 f.n, AV.ref 6 (nx + 1) 0 (b + 1), AV.ref 7 (nx + 1 + 1 + 1) 0 (b + 1), AV.ref 8 (n4 + 1 + 1) 0 (b + 1), AV.ref 9 s9 0 b, nilv, AV.ref kw kw 0 f.n]) := ⟨_, rfl⟩
        rw [← e6]
        have k64 : KeepT [70, 66] H4 H6 := by
          rw [e6]; exact (KeepT.app _ _ _).trans (push_keep (app_old h48 _) (app_old h45 _) rfl rfl)
        have h65 : H6[5]? = some _ := (congrArg (fun l : List VObj => l[(5 : Nat)]?) e6).trans (push_5 (app_old h45 _))
        have h62 := k64 _ _ h42 (by simp)
        have h69 : H6[9]? = some _ := (congrArg (fun l : List VObj => l[(9 : Nat)]?) e6).trans (push_at (app_old h49 _) (by decide) (by decide))
        have l65 := lt_of h65
        have l62 := lt_of h62
        have l69 := lt_of h69
        simp only [go_sem,Nat.reduceEqDiff,Nat.reduceAdd,Nat.reduceMul,↓reduceIte,↓dreduceIte,reduceCtorEq,Nat.reduceLeDiff,Nat.reduceLT,Nat.reduceSub,Int.reduceToNat,Int.reduceLE,Int.reduceLT, h65, h62, h69, one_imm, one_ref, List.length_set, List.length_append, l65, l62, l69, lt_succ', app_at, app_end, app_endn, set_at, set_off, e89, e98, e95, List.length_cons, List.length_nil, Nat.zero_add, e59]
        rw [htk, ← e6, hregs]
        refine ⟨?_, ?_⟩
        all_goals
          unfold VCallT
          refine rowOf_v f.r hr _ _ _ ?_
          refine ⟨?_, ?_⟩
          · simp only [go_sem,Nat.reduceEqDiff,Nat.reduceAdd,Nat.reduceMul,↓reduceIte,↓dreduceIte,reduceCtorEq,Nat.reduceLeDiff,Nat.reduceLT,Nat.reduceSub,Int.reduceToNat,Int.reduceLE,Int.reduceLT, List.length_set, List.length_append, app_at, app_end, app_endn, set_at, set_off, List.length_cons, List.length_nil, Nat.zero_add]
            rw [htk, ← e6]
            exact stab_app _ _
          simp only [go_sem,Nat.reduceEqDiff,Nat.reduceAdd,Nat.reduceMul,↓reduceIte,↓dreduceIte,reduceCtorEq,Nat.reduceLeDiff,Nat.reduceLT,Nat.reduceSub,Int.reduceToNat,Int.reduceLE,Int.reduceLT, h65, h62, h69, one_imm, one_ref, List.length_set, List.length_append, l65, l62, l69, lt_succ', app_at, app_end, app_endn, set_at, set_off, e89, e98, e95, List.length_cons, List.length_nil, Nat.zero_add, e59]
          repeat ((with_reducible refine And.intro ?_ ?_); · omega)
          rw [htk2]
          have g6 : H4[6]? = some ⟨nx + 1, 70, 1, (f.bks.take (b + 1)).map fun b => .imm 1 (rowC64 (readL b f.r))⟩ := by
            rw [← takeL_succ hlt (fun b => .imm 1 (rowC64 (readL b f.r))), e4]
            exact push_at (push_k h6 (by decide)) (by decide) (by decide)
          have g7 : H4[7]? = some ⟨nx + 1 + 1 + 1, 70, 1, (f.bks.take (b + 1)).map fun b => .imm 1 (rowC64 (setL b f.r))⟩ := by
            rw [← takeL_succ hlt (fun b => .imm 1 (rowC64 (setL b f.r))), e4]
            exact push_k (push_at h7 (by decide) (by decide)) (by decide)
          have hrow := fun nx' H7 e7 => h.row (H7 := H7) (u2 := VObj.mk (n4 + 1 + 1 + 1 + 1) 70 1 [AV.ref H6.length (n4 + 1 + 1 + 1) 0 (rl f.r)]) (s9' := n4 + 1 + 1 + 1 + 1 + 1) (n6 := n4 + 1 + 1 + 1) (nx' := nx') t0 t1 hlt k4 h45 rfl g6 g7 h48 h49 rfl e6 e7
          refine ⟨⟨b + 1, _, nx + 1, nx + 1 + 1 + 1, n4 + 1 + 1, n4 + 1 + 1 + 1 + 1 + 1, sp, _, _, _⟩, ⟨by show b + 1 ≤ _; omega, hrow (n4 + 1 + 1 + 1 + 1 + 1 + 1) _ rfl⟩, by show f.n - (b + 1) < f.n - b; omega, ?_⟩
          rw [i64_in (by omega) (by omega)]
          exact Wk.mk (by simp [get_cons]) ⟨[], by simp⟩ (Nat.le_refl _)
  · have hbe : b = f.n := by omega
    subst hbe
    have hs := h.HS rfl
    have hg0 := h.h0
    have hg1 := h.h1
    simp only at hs hg0 hg1
    obtain ⟨q, hq⟩ : ∃ q : Ids, q = ⟨5, 5, 8, s8, 9, s9, kw, kw, ka, ka, 6, s6, 7, s7, fun c => (10 + c, sp c), ri, ro⟩ := ⟨_, rfl⟩
    rw [← hq] at hs
    have hqS : AV.ptr 5 5 0 = .ptr q.kS q.sS 0 := by rw [hq]
    clear hq h
    simp only [go_sem,Nat.reduceEqDiff,Nat.reduceAdd,Nat.reduceMul,↓reduceIte,↓dreduceIte,reduceCtorEq,Nat.reduceLeDiff,Nat.reduceLT,Nat.reduceSub,Int.reduceToNat,Int.reduceLE,Int.reduceLT, one_imm, one_ref, List.length_map, hlen, eq_false (show ¬ ((f.n : Nat) : Int) < f.n by omega), hqS]
    refine VW_loop (fun y : WQ2 => ⟨[(4, .ptr q.kS q.sS 0), (112, I f.n), (113, I y.k)], y.H, y.nx⟩) (fun y => y.k ≤ f.n ∧ HS f y.H q y.wv ⟨List.replicate f.n (List.replicate f.r false), List.replicate f.n (List.replicate f.r false), List.range y.k⟩ ∧ y.H[0]? = some o0 ∧ y.H[1]? = some o1) (fun y => f.n - y.k) ⟨0, H, nilv, nx⟩ (Wk.mk (by simp [get_cons]) ⟨[], by simp⟩ (Nat.le_refl _)) ⟨Nat.zero_le _, hs, hg0, hg1⟩ ?_
    clear hs hg0 hg1
    rintro ⟨k, H, wv, nx⟩ ⟨hk1, hs, hg0, hg1⟩
    simp only at hk1 hs hg0 hg1
    by_cases hl3 : k < f.n
    · simp only [go_sem,Nat.reduceEqDiff,Nat.reduceAdd,Nat.reduceMul,↓reduceIte,↓dreduceIte,reduceCtorEq,Nat.reduceLeDiff,Nat.reduceLT,Nat.reduceSub,Int.reduceToNat,Int.reduceLE,Int.reduceLT, one_imm, one_ref, eq_true (show (k : Int) < f.n by omega)]
      refine wait_v hs _ _ hl3 hn5 (by simp; omega) _ ?_
      intro r H' nx' wv' hs' hkeep
      have hw : waitS (List.range k) k = List.range (k + 1) := by
        unfold waitS
        rw [if_neg (by simp), List.range_succ]
      simp only [hw] at hs'
      simp only [go_sem,Nat.reduceEqDiff,Nat.reduceAdd,Nat.reduceMul,↓reduceIte,↓dreduceIte,reduceCtorEq,Nat.reduceLeDiff,Nat.reduceLT,Nat.reduceSub,Int.reduceToNat,Int.reduceLE,Int.reduceLT, one_imm, one_ref]
      refine ⟨⟨k + 1, H', wv', nx'⟩, ⟨by show k + 1 ≤ _; omega, hs', hkeep _ _ hg0 (by rw [t0]; simp), hkeep _ _ hg1 (by rw [t1]; simp)⟩, by show f.n - (k + 1) < f.n - k; omega, ?_⟩
      rw [i64_in (by omega) (by omega)]
      exact Wk.mk (by simp [get_cons]) ⟨[], by simp⟩ (Nat.le_refl _)
    · have hke : k = f.n := by omega
      subst hke
      simp only [go_sem,Nat.reduceEqDiff,Nat.reduceAdd,Nat.reduceMul,↓reduceIte,↓dreduceIte,reduceCtorEq,Nat.reduceLeDiff,Nat.reduceLT,Nat.reduceSub,Int.reduceToNat,Int.reduceLE,Int.reduceLT, one_imm, one_ref, eq_false (show ¬ ((f.n : Nat) : Int) < f.n by omega)]
      exact hC q H nx wv hs hg0 hg1
end Go.Proofs.Ytjdeediehmhdoaa
