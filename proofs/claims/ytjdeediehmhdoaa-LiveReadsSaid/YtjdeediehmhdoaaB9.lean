/-
  Tables put together; great tables: contracts; what is closed stays closed. No condition.
-/
import Derived.Test.YtjdeediehmhdoaaB7
import Derived.Test.YtjdeediehmhdoaaB8
namespace Go.Proofs.Ytjdeediehmhdoaa
set_option linter.unusedSimpArgs false
set_option linter.unusedVariables false
set_option maxRecDepth 10000
open Go.V

theorem CW.snoc {n : Nat} {H : List VObj} {nx : Nat} {xs : List AV} {x y : AV} (h : Frz n H nx x y) : CW n H nx (xs ++ [x]) (xs ++ [y]) := by
  refine ⟨by simp, fun i a b ha hb => ?_⟩
  by_cases hi : i < xs.length
  · rw [List.getElem?_append_left hi] at ha hb
    rw [ha] at hb; exact .inl (Option.some.inj hb)
  · rw [List.getElem?_append_right (by omega)] at ha hb
    by_cases h0 : i - xs.length = 0
    · rw [h0] at ha hb; simp at ha hb; subst ha; subst hb; exact .inr h
    · rw [List.getElem?_eq_none (by simp; omega)] at ha; cases ha

def greatB (L : LD) : Bool := decide (20 < L.inn.length ∨ 20 < L.out.length) || !(L.inn.all fun l => decide (l.length ≤ 60)) || !(L.out.all fun l => decide (l.length ≤ 60))
theorem great_c (L : LD) (hL : LOK L) : Contract Try.prog 18 [liveA L] (fun x => x = B (greatB L)) := by
  refine Contract.of_call (VCall.of_body hmix f_sclaw27_great (by simp) ?_)
  by_cases h1 : 20 < L.inn.length
  · simp only [go_sem,Nat.reduceEqDiff,Nat.reduceAdd,Nat.reduceMul,↓reduceIte,↓dreduceIte,reduceCtorEq,Nat.reduceLeDiff,Nat.reduceLT,Nat.reduceSub,Int.reduceToNat,Int.reduceLE,Int.reduceLT, c_sclaw27_great, one_imm, List.length_map, eq_true (show (20 : Int) < L.inn.length by omega)]
    exact ⟨_, Frz.pure rfl, by simp [greatB, h1]⟩
  by_cases h2 : 20 < L.out.length
  · simp only [go_sem,Nat.reduceEqDiff,Nat.reduceAdd,Nat.reduceMul,↓reduceIte,↓dreduceIte,reduceCtorEq,Nat.reduceLeDiff,Nat.reduceLT,Nat.reduceSub,Int.reduceToNat,Int.reduceLE,Int.reduceLT, c_sclaw27_great, one_imm, List.length_map, eq_false (show ¬ (20 : Int) < L.inn.length by omega), eq_true (show (20 : Int) < L.out.length by omega)]
    exact ⟨_, Frz.pure rfl, by simp [greatB, h2]⟩
  simp only [go_sem,Nat.reduceEqDiff,Nat.reduceAdd,Nat.reduceMul,↓reduceIte,↓dreduceIte,reduceCtorEq,Nat.reduceLeDiff,Nat.reduceLT,Nat.reduceSub,Int.reduceToNat,Int.reduceLE,Int.reduceLT, c_sclaw27_great, one_imm, List.length_map, eq_false (show ¬ (20 : Int) < L.inn.length by omega), eq_false (show ¬ (20 : Int) < L.out.length by omega)]
  refine VW_loop (fun k : Nat => ⟨[(1, .ptr 0 0 0), (3, I k)], [⟨0, 29, 1, [rowsA L.inn, rowsA L.out]⟩], 1⟩) (fun k => k ≤ L.inn.length ∧ (L.inn.take k).all (fun l => decide (l.length ≤ 60)) = true) (fun k => L.inn.length - k) 0 (Wk.mk (by simp [get_cons]) ⟨[], rfl⟩ (Nat.le_refl _)) ⟨by omega, rfl⟩ ?_
  rintro k ⟨hk, hp⟩
  by_cases hlt : k < L.inn.length
  · by_cases h3 : (L.inn.getD k default).length ≤ 60
    · simp only [go_sem,Nat.reduceEqDiff,Nat.reduceAdd,Nat.reduceMul,↓reduceIte,↓dreduceIte,reduceCtorEq,Nat.reduceLeDiff,Nat.reduceLT,Nat.reduceSub,Int.reduceToNat,Int.reduceLE,Int.reduceLT, one_imm, List.length_map, eq_true (show (k : Int) < L.inn.length by omega), eq_false (show ¬ (60 : Int) < (L.inn.getD k default).length by omega)]
      rw [i64_in (by omega) (by omega)]
      exact ⟨by omega, k + 1, ⟨by omega, all_step hlt hp (decide_eq_true h3)⟩, by omega, Wk.mk (by simp [get_cons]) ⟨[], rfl⟩ (Nat.le_refl _)⟩
    · simp only [go_sem,Nat.reduceEqDiff,Nat.reduceAdd,Nat.reduceMul,↓reduceIte,↓dreduceIte,reduceCtorEq,Nat.reduceLeDiff,Nat.reduceLT,Nat.reduceSub,Int.reduceToNat,Int.reduceLE,Int.reduceLT, one_imm, List.length_map, eq_true (show (k : Int) < L.inn.length by omega), eq_true (show (60 : Int) < (L.inn.getD k default).length by omega)]
      refine ⟨by omega, _, Frz.pure rfl, ?_⟩
      unfold greatB; rw [all_stop hlt (decide_eq_false h3)]; simp
  · simp only [go_sem,Nat.reduceEqDiff,Nat.reduceAdd,Nat.reduceMul,↓reduceIte,↓dreduceIte,reduceCtorEq,Nat.reduceLeDiff,Nat.reduceLT,Nat.reduceSub,Int.reduceToNat,Int.reduceLE,Int.reduceLT, one_imm, List.length_map, eq_false (show ¬ (k : Int) < L.inn.length by omega)]
    have hi := all_end (by omega) hp
    refine VW_loop (fun k : Nat => ⟨[(1, .ptr 0 0 0), (4, I k)], [⟨0, 29, 1, [rowsA L.inn, rowsA L.out]⟩], 1⟩) (fun k => k ≤ L.out.length ∧ (L.out.take k).all (fun l => decide (l.length ≤ 60)) = true) (fun k => L.out.length - k) 0 (Wk.mk (by simp [get_cons]) ⟨[], rfl⟩ (Nat.le_refl _)) ⟨by omega, rfl⟩ ?_
    rintro k ⟨hk, hp⟩
    by_cases hlt : k < L.out.length
    · by_cases h3 : (L.out.getD k default).length ≤ 60
      · simp only [go_sem,Nat.reduceEqDiff,Nat.reduceAdd,Nat.reduceMul,↓reduceIte,↓dreduceIte,reduceCtorEq,Nat.reduceLeDiff,Nat.reduceLT,Nat.reduceSub,Int.reduceToNat,Int.reduceLE,Int.reduceLT, one_imm, List.length_map, eq_true (show (k : Int) < L.out.length by omega), eq_false (show ¬ (60 : Int) < (L.out.getD k default).length by omega)]
        rw [i64_in (by omega) (by omega)]
        exact ⟨by omega, k + 1, ⟨by omega, all_step hlt hp (decide_eq_true h3)⟩, by omega, Wk.mk (by simp [get_cons]) ⟨[], rfl⟩ (Nat.le_refl _)⟩
      · simp only [go_sem,Nat.reduceEqDiff,Nat.reduceAdd,Nat.reduceMul,↓reduceIte,↓dreduceIte,reduceCtorEq,Nat.reduceLeDiff,Nat.reduceLT,Nat.reduceSub,Int.reduceToNat,Int.reduceLE,Int.reduceLT, one_imm, List.length_map, eq_true (show (k : Int) < L.out.length by omega), eq_true (show (60 : Int) < (L.out.getD k default).length by omega)]
        refine ⟨by omega, _, Frz.pure rfl, ?_⟩
        unfold greatB; rw [all_stop hlt (decide_eq_false h3)]; simp
    · simp only [go_sem,Nat.reduceEqDiff,Nat.reduceAdd,Nat.reduceMul,↓reduceIte,↓dreduceIte,reduceCtorEq,Nat.reduceLeDiff,Nat.reduceLT,Nat.reduceSub,Int.reduceToNat,Int.reduceLE,Int.reduceLT, one_imm, List.length_map, eq_false (show ¬ (k : Int) < L.out.length by omega)]
      refine ⟨_, Frz.pure rfl, ?_⟩
      unfold greatB; rw [hi, all_end (by omega) hp]; simp; omega

/-- What either says, or what both say. -/
def bothR (e : Bool) (x y : List Bool) (j : Nat) : List Bool := (List.range x.length).map fun v => if v < j then gB x v && gB y v || e && (gB x v || gB y v) else false
def bothL (e : Bool) (a b : List (List Bool)) : List (List Bool) := (List.range a.length).map fun i => bothR e (a.getD i default) (b.getD i default) (a.getD i default).length
theorem bothR_len (e : Bool) (x y : List Bool) (j : Nat) : (bothR e x y j).length = x.length := by simp [bothR]
theorem bothR_zero (e : Bool) (x y : List Bool) : bothR e x y 0 = List.replicate x.length false := by
  refine List.ext_getElem (by simp [bothR]) fun i h1 h2 => ?_
  simp [bothR]
theorem bothR_set (e : Bool) (x y : List Bool) {j : Nat} (hj : j < x.length) {w : Bool} (hw : w = (gB x j && gB y j || e && (gB x j || gB y j))) : (bothR e x y j).set j w = bothR e x y (j + 1) := by
  subst hw
  refine List.ext_getElem (by simp [bothR]) fun i h1 h2 => ?_
  rw [List.getElem_set]
  simp only [bothR, List.getElem_map, List.getElem_range]
  by_cases h : j = i
  · subst h; simp
  · rw [if_neg h]
    by_cases h3 : i < j
    · rw [if_pos h3, if_pos (by omega)]
    · rw [if_neg h3, if_neg (by omega)]
theorem bothL_take (e : Bool) (a b : List (List Bool)) {k : Nat} (hk : k < a.length) : (bothL e a b).take (k + 1) = (bothL e a b).take k ++ [bothR e (a.getD k default) (b.getD k default) (a.getD k default).length] := by
  rw [List.take_add_one]
  simp [bothL, hk]
theorem bothL_len (e : Bool) (a b : List (List Bool)) : (bothL e a b).length = a.length := by simp [bothL]

structure TS where
  k : Nat
  s : Nat
  nx : Nat
theorem both_c (a b : List (List Bool)) (e : Bool) (hl : a.length = b.length) (ha : a.length ≤ 500) (hr : ∀ i < a.length, (a.getD i default).length ≤ 4000 ∧ (b.getD i default).length = (a.getD i default).length) :
    Contract Try.prog 26 [rowsA a, rowsA b, B e] (fun x => x = rowsA (bothL e a b)) := by
  refine Contract.of_call (VCall.of_body hmix f_sclaw27_both (by simp) ?_)
  have hmx : (200000 : Nat) ≤ maxLen := by decide
  simp only [go_sem,Nat.reduceEqDiff,Nat.reduceAdd,Nat.reduceMul,↓reduceIte,↓dreduceIte,reduceCtorEq,Nat.reduceLeDiff,Nat.reduceLT,Nat.reduceSub,Int.reduceToNat,Int.reduceLE,Int.reduceLT, c_sclaw27_both, one_imm, one_ref]
  refine VW_loop (fun q : TS => ⟨[(0, rowsA a), (1, rowsA b), (2, B e), (7, .ref 0 q.s 0 q.k), (8, I q.k)], [⟨q.s, 39, 1, ((bothL e a b).take q.k).map bools⟩], q.nx⟩)
    (fun q => q.k ≤ a.length) (fun q => a.length - q.k) ⟨0, 0, 1⟩ (Wk.virt 39 1 (by decide) (by simp [get_cons]) ⟨[], rfl, rfl, by simp⟩ rfl) (Nat.zero_le _) ?_
  rintro ⟨k, s, nx⟩ hk
  simp only at hk
  by_cases hlt : k < a.length
  · obtain ⟨hx4, hxy⟩ := hr k hlt
    have htk := bothL_take e a b hlt
    have htl : ((bothL e a b).take k).length = k := by rw [List.length_take, bothL_len]; omega
    generalize hx : a.getD k default = x at hx4 hxy htk
    generalize hy : b.getD k default = y at hxy htk
    simp only [go_sem,Nat.reduceEqDiff,Nat.reduceAdd,Nat.reduceMul,↓reduceIte,↓dreduceIte,reduceCtorEq,Nat.reduceLeDiff,Nat.reduceLT,Nat.reduceSub,Int.reduceToNat,Int.reduceLE,Int.reduceLT, one_imm, one_ref, List.length_map, eq_true (show (k : Int) < a.length by omega), hx]
    repeat ((with_reducible refine And.intro ?_ ?_); · omega)
    refine VW_loop (fun j : Nat => ⟨[(0, rowsA a), (1, rowsA b), (2, B e), (7, .ref 0 s 0 k), (8, I k), (9, .ref 1 nx 0 x.length), (10, I j)], [⟨s, 39, 1, ((bothL e a b).take k).map bools⟩, ⟨nx, 4, 1, (bothR e x y j).map B⟩], nx + 1⟩)
      (fun j => j ≤ x.length) (fun j => x.length - j) 0 (Wk.mk (by simp [get_cons]) ⟨[], by simp [bothR_zero]⟩ (Nat.le_refl _)) (by omega) ?_
    intro j hj
    by_cases hl2 : j < x.length
    · cases e <;> cases h5 : gB x j <;> cases h6 : gB y j
      all_goals
        simp only [go_sem,Nat.reduceEqDiff,Nat.reduceAdd,Nat.reduceMul,↓reduceIte,↓dreduceIte,reduceCtorEq,Nat.reduceLeDiff,Nat.reduceLT,Nat.reduceSub,Int.reduceToNat,Int.reduceLE,Int.reduceLT, one_imm, one_ref, List.length_map, eq_true (show (j : Int) < x.length by omega), hx, hy, gB_getD, h5, h6, set_B, bothR_len]
        repeat ((with_reducible refine And.intro ?_ ?_); · first | omega | (rw [bothR_len]; omega))
        rw [i64_in (by omega) (by omega), bothR_set _ x y hl2 (by rw [h5, h6]; rfl)]
        exact ⟨j + 1, by omega, by omega, Wk.mk (by simp [get_cons]) ⟨[], rfl⟩ (Nat.le_refl _)⟩
    · obtain rfl : j = x.length := by omega
      simp only [go_sem,Nat.reduceEqDiff,Nat.reduceAdd,Nat.reduceMul,↓reduceIte,↓dreduceIte,reduceCtorEq,Nat.reduceLeDiff,Nat.reduceLT,Nat.reduceSub,Int.reduceToNat,Int.reduceLE,Int.reduceLT, one_imm, one_ref, List.length_map, eq_false (show ¬ (x.length : Int) < x.length by omega)]
      rw [i64_in (by omega) (by omega)]
      refine ⟨by omega, by omega, ⟨k + 1, nx + 1 + 1, nx + 1 + 1 + 1⟩, by simp only; omega, by simp only; omega, Wk.give (by simp [get_cons]) ?_ (Nat.le_refl _)⟩
      rw [show List.take k (((bothL e a b).take k).map bools) = ((bothL e a b).take k).map bools from List.take_of_length_le (by rw [List.length_map, htl]; omega), htk, List.map_append]
      exact ⟨rfl, rfl, rfl, by simp, CW.snoc (frz_bools (by simp) rfl (by rw [bothR_len])), trivial⟩
  · obtain rfl : k = a.length := by omega
    simp only [go_sem,Nat.reduceEqDiff,Nat.reduceAdd,Nat.reduceMul,↓reduceIte,↓dreduceIte,reduceCtorEq,Nat.reduceLeDiff,Nat.reduceLT,Nat.reduceSub,Int.reduceToNat,Int.reduceLE,Int.reduceLT, one_imm, one_ref, List.length_map, eq_false (show ¬ (a.length : Int) < a.length by omega)]
    refine ⟨_, rows_frz (m := bothL e a b) (Nat.zero_le _) (by rw [List.take_of_length_le (by rw [bothL_len]; omega)]; rfl) (by rw [bothL_len]), rfl⟩

theorem bothL_row (e : Bool) (a b : List (List Bool)) {i : Nat} (h : i < a.length) : (bothL e a b).getD i [] = bothR e (a.getD i default) (b.getD i default) (a.getD i default).length := by
  simp [bothL, List.getD, h]
theorem bothR_get (e : Bool) (x y : List Bool) {v : Nat} (hv : v < x.length) : gB (bothR e x y x.length) v = (gB x v && gB y v || e && (gB x v || gB y v)) := by
  unfold bothR
  rw [gB, List.getD]
  simp [hv]
def bothD (e : Bool) (L M : LD) : LD := ⟨bothL e L.inn M.inn, bothL e L.out M.out⟩
theorem both_closed {f : BF} (hf : Fine f) {L M : LD} (hL : ClosedP f L) (hM : ClosedP f M) (e : Bool) : ClosedP f (bothD e L M) := by
  have hs : SizedP f (bothD e L M) := by
    refine ⟨by show (bothL _ _ _).length = _; rw [bothL_len, hL.sz.i], by show (bothL _ _ _).length = _; rw [bothL_len, hL.sz.o], fun l hl => ?_, fun l hl => ?_⟩
    · simp only [bothD, bothL, List.mem_map, List.mem_range] at hl
      obtain ⟨i, hi, rfl⟩ := hl
      rw [bothR_len]; exact hL.sz.ir _ (getD_nil hi)
    · simp only [bothD, bothL, List.mem_map, List.mem_range] at hl
      obtain ⟨i, hi, rfl⟩ := hl
      rw [bothR_len]; exact hL.sz.or _ (getD_nil hi)
  have hI : ∀ b < f.n, ∀ v < f.r, (L.I b v && M.I b v || e && (L.I b v || M.I b v)) = (bothD e L M).I b v := fun b hb v hv => by
    show _ = gB ((bothL e L.inn M.inn).getD b []) v
    rw [bothL_row e _ _ (by rw [hL.sz.i]; exact hb), bothR_get e _ _ (by show v < (L.inn.getD b []).length; rw [hL.sz.il hb]; exact hv)]; rfl
  have hO : ∀ b < f.n, ∀ v < f.r, (L.O b v && M.O b v || e && (L.O b v || M.O b v)) = (bothD e L M).O b v := fun b hb v hv => by
    show _ = gB ((bothL e L.out M.out).getD b []) v
    rw [bothL_row e _ _ (by rw [hL.sz.o]; exact hb), bothR_get e _ _ (by show v < (L.out.getD b []).length; rw [hL.sz.ol hb]; exact hv)]; rfl
  refine ⟨hs, Closed.congr hf hI hO ⟨fun b hb k hk v hv h => ?_, fun b hb v hv h => ?_⟩⟩
  · have h1 := hL.cl.way b hb k hk v hv
    have h2 := hM.cl.way b hb k hk v hv
    cases hx : L.I k.toNat v <;> cases hy : M.I k.toNat v <;> cases e <;> simp_all
  · have h1 := hL.cl.ahead b hb v hv
    have h2 := hM.cl.ahead b hb v hv
    have ht := Tri.ahead1 (f.bk b) v
    rw [ht.or, ht.and] at h
    have mL : ahead1 (f.bk b) v false = true → L.I b v = true := fun g => h1 (ht.mono (by simp) g)
    have mM : ahead1 (f.bk b) v false = true → M.I b v = true := fun g => h2 (ht.mono (by simp) g)
    clear hI hO hs
    cases e
    · simp only [Bool.false_and, Bool.or_false] at h ⊢
      rw [Bool.or_eq_true, Bool.and_eq_true] at h
      rcases h with ⟨g1, g2⟩ | g
      · rw [h1 g1, h2 g2]; rfl
      · rw [mL g, mM g]; rfl
    · simp only [Bool.true_and] at h ⊢
      rw [ht.or, Bool.or_eq_true, Bool.and_eq_true, Bool.or_eq_true] at h
      rcases h with ⟨g1, g2⟩ | g | g
      · rw [h1 g1, h2 g2]; rfl
      · rw [h1 g]; simp
      · rw [h2 g]; simp
end Go.Proofs.Ytjdeediehmhdoaa
