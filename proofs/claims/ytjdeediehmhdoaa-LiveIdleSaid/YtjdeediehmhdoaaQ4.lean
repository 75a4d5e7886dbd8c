/-
  Tables put together; great tables: contracts; what is closed stays closed. No condition. Live registers: the examples, awake. No condition. LiveOf: the row. No condition. Words as numbers, plainly: bits, and what the operations make of them. No condition. The document's run of blocks, plainly: what an instruction, a block, a function, a program does. No condition. The document's words: contracts: bits, shifts, what the operations make of two words. No condition. The document's words: what the operations make of two words is what the program makes of them. No condition. The document's run of blocks: an instruction, a function: contracts. No condition. Blocks' programs that may be, plainly: what their parts are; states stay well. No condition. The document's run of blocks: a function, a program: contracts. No condition. Two runs of blocks whose registers agree where they matter: one instruction, plainly. No condition.
-/
import Derived.Test.YtjdeediehmhdoaaQ3
import Derived.Test.YtjdeediehmhdoaaVY
namespace Go.Proofs.Ytjdeediehmhdoaa
set_option linter.unusedSimpArgs false
set_option linter.unusedVariables false
set_option maxRecDepth 10000
open Go.V

theorem CW.snoc {n : Nat} {H : List VObj} {nx : Nat} {xs : List AV} {x y : AV} (h : Frz n H nx x y) : CW n H nx (xs ++ [x]) (xs ++ [y]) := by
  refine ⟨by simp, fun i a b ha hb => ?_⟩
  by_cases hi : i < xs.length
  · rw [List.getElem?_append_left hi] at ha hb
    rw [ha] at hb; exact .inl (Option.some.inj hb)
  · rw [List.getElem?_append_right (by omega)] at ha hb
    by_cases h0 : i - xs.length = 0
    · rw [h0] at ha hb; simp at ha hb; subst ha; subst hb; exact .inr h
    · rw [List.getElem?_eq_none (by simp; omega)] at ha; cases ha

def greatB (L : LD) : Bool := decide (20 < L.inn.length ∨ 20 < L.out.length) || !(L.inn.all fun l => decide (l.length ≤ 60)) || !(L.out.all fun l => decide (l.length ≤ 60))
theorem great_c (L : LD) (hL : LOK L) : Contract Try.prog 18 [liveA L] (fun x => x = B (greatB L)) := by
  refine Contract.of_call (VCall.of_body hmix f_sclaw27_great (by simp) ?_)
  by_cases h1 : 20 < L.inn.length
  · simp only [go_sem,Nat.reduceEqDiff,Nat.reduceAdd,Nat.reduceMul,↓reduceIte,↓dreduceIte,reduceCtorEq,Nat.reduceLeDiff,Nat.reduceLT,Nat.reduceSub,Int.reduceToNat,Int.reduceLE,Int.reduceLT, c_sclaw27_great, one_imm, List.length_map, eq_true (show (20 : Int) < L.inn.length by omega)]
    exact ⟨_, Frz.pure rfl, by simp [greatB, h1]⟩
  by_cases h2 : 20 < L.out.length
  · simp only [go_sem,Nat.reduceEqDiff,Nat.reduceAdd,Nat.reduceMul,↓reduceIte,↓dreduceIte,reduceCtorEq,Nat.reduceLeDiff,Nat.reduceLT,Nat.reduceSub,Int.reduceToNat,Int.reduceLE,Int.reduceLT, c_sclaw27_great, one_imm, List.length_map, eq_false (show ¬ (20 : Int) < L.inn.length by omega), eq_true (show (20 : Int) < L.out.length by omega)]
    exact ⟨_, Frz.pure rfl, by simp [greatB, h2]⟩
  simp only [go_sem,Nat.reduceEqDiff,Nat.reduceAdd,Nat.reduceMul,↓reduceIte,↓dreduceIte,reduceCtorEq,Nat.reduceLeDiff,Nat.reduceLT,Nat.reduceSub,Int.reduceToNat,Int.reduceLE,Int.reduceLT, c_sclaw27_great, one_imm, List.length_map, eq_false (show ¬ (20 : Int) < L.inn.length by omega), eq_false (show ¬ (20 : Int) < L.out.length by omega)]
  refine VW_loop (fun k : Nat => ⟨[(1, .ptr 0 0 0), (3, I k)], [⟨0, 29, 1, [rowsA L.inn, rowsA L.out]⟩], 1⟩) (fun k => k ≤ L.inn.length ∧ (L.inn.take k).all (fun l => decide (l.length ≤ 60)) = true) (fun k => L.inn.length - k) 0 (Wk.mk (by simp [get_cons]) ⟨[], rfl⟩ (Nat.le_refl _)) ⟨by omega, rfl⟩ ?_
  rintro k ⟨hk, hp⟩
  by_cases hlt : k < L.inn.length
  · by_cases h3 : (L.inn.getD k default).length ≤ 60
    · simp only [go_sem,Nat.reduceEqDiff,Nat.reduceAdd,Nat.reduceMul,↓reduceIte,↓dreduceIte,reduceCtorEq,Nat.reduceLeDiff,Nat.reduceLT,Nat.reduceSub,Int.reduceToNat,Int.reduceLE,Int.reduceLT, one_imm, List.length_map, eq_true (show (k : Int) < L.inn.length by omega), eq_false (show ¬ (60 : Int) < (L.inn.getD k default).length by omega)]
      rw [i64_in (by omega) (by omega)]
      exact ⟨by omega, k + 1, ⟨by omega, all_step hlt hp (decide_eq_true h3)⟩, by omega, Wk.mk (by simp [get_cons]) ⟨[], rfl⟩ (Nat.le_refl _)⟩
    · simp only [go_sem,Nat.reduceEqDiff,Nat.reduceAdd,Nat.reduceMul,↓reduceIte,↓dreduceIte,reduceCtorEq,Nat.reduceLeDiff,Nat.reduceLT,Nat.reduceSub,Int.reduceToNat,Int.reduceLE,Int.reduceLT, one_imm, List.length_map, eq_true (show (k : Int) < L.inn.length by omega), eq_true (show (60 : Int) < (L.inn.getD k default).length by omega)]
      refine ⟨by omega, _, Frz.pure rfl, ?_⟩
      unfold greatB; rw [all_stop hlt (decide_eq_false h3)]; simp
  · simp only [go_sem,Nat.reduceEqDiff,Nat.reduceAdd,Nat.reduceMul,↓reduceIte,↓dreduceIte,reduceCtorEq,Nat.reduceLeDiff,Nat.reduceLT,Nat.reduceSub,Int.reduceToNat,Int.reduceLE,Int.reduceLT, one_imm, List.length_map, eq_false (show ¬ (k : Int) < L.inn.length by omega)]
    have hi := all_end (by omega) hp
    refine VW_loop (fun k : Nat => ⟨[(1, .ptr 0 0 0), (4, I k)], [⟨0, 29, 1, [rowsA L.inn, rowsA L.out]⟩], 1⟩) (fun k => k ≤ L.out.length ∧ (L.out.take k).all (fun l => decide (l.length ≤ 60)) = true) (fun k => L.out.length - k) 0 (Wk.mk (by simp [get_cons]) ⟨[], rfl⟩ (Nat.le_refl _)) ⟨by omega, rfl⟩ ?_
    rintro k ⟨hk, hp⟩
    by_cases hlt : k < L.out.length
    · by_cases h3 : (L.out.getD k default).length ≤ 60
      · simp only [go_sem,Nat.reduceEqDiff,Nat.reduceAdd,Nat.reduceMul,↓reduceIte,↓dreduceIte,reduceCtorEq,Nat.reduceLeDiff,Nat.reduceLT,Nat.reduceSub,Int.reduceToNat,Int.reduceLE,Int.reduceLT, one_imm, List.length_map, eq_true (show (k : Int) < L.out.length by omega), eq_false (show ¬ (60 : Int) < (L.out.getD k default).length by omega)]
        rw [i64_in (by omega) (by omega)]
        exact ⟨by omega, k + 1, ⟨by omega, all_step hlt hp (decide_eq_true h3)⟩, by omega, Wk.mk (by simp [get_cons]) ⟨[], rfl⟩ (Nat.le_refl _)⟩
      · simp only [go_sem,Nat.reduceEqDiff,Nat.reduceAdd,Nat.reduceMul,↓reduceIte,↓dreduceIte,reduceCtorEq,Nat.reduceLeDiff,Nat.reduceLT,Nat.reduceSub,Int.reduceToNat,Int.reduceLE,Int.reduceLT, one_imm, List.length_map, eq_true (show (k : Int) < L.out.length by omega), eq_true (show (60 : Int) < (L.out.getD k default).length by omega)]
        refine ⟨by omega, _, Frz.pure rfl, ?_⟩
        unfold greatB; rw [all_stop hlt (decide_eq_false h3)]; simp
    · simp only [go_sem,Nat.reduceEqDiff,Nat.reduceAdd,Nat.reduceMul,↓reduceIte,↓dreduceIte,reduceCtorEq,Nat.reduceLeDiff,Nat.reduceLT,Nat.reduceSub,Int.reduceToNat,Int.reduceLE,Int.reduceLT, one_imm, List.length_map, eq_false (show ¬ (k : Int) < L.out.length by omega)]
      refine ⟨_, Frz.pure rfl, ?_⟩
      unfold greatB; rw [hi, all_end (by omega) hp]; simp; omega

/-- What either says, or what both say. -/
def bothR (e : Bool) (x y : List Bool) (j : Nat) : List Bool := (List.range x.length).map fun v => if v < j then gB x v && gB y v || e && (gB x v || gB y v) else false
def bothL (e : Bool) (a b : List (List Bool)) : List (List Bool) := (List.range a.length).map fun i => bothR e (a.getD i default) (b.getD i default) (a.getD i default).length
theorem bothR_len (e : Bool) (x y : List Bool) (j : Nat) : (bothR e x y j).length = x.length := by simp [bothR]
theorem bothR_zero (e : Bool) (x y : List Bool) : bothR e x y 0 = List.replicate x.length false := by
  refine List.ext_getElem (by simp [bothR]) fun i h1 h2 => ?_
  simp [bothR]
theorem bothR_set (e : Bool) (x y : List Bool) {j : Nat} (hj : j < x.length) {w : Bool} (hw : w = (gB x j && gB y j || e && (gB x j || gB y j))) : (bothR e x y j).set j w = bothR e x y (j + 1) := by
  subst hw
  refine List.ext_getElem (by simp [bothR]) fun i h1 h2 => ?_
  rw [List.getElem_set]
  simp only [bothR, List.getElem_map, List.getElem_range]
  by_cases h : j = i
  · subst h; simp
  · rw [if_neg h]
    by_cases h3 : i < j
    · rw [if_pos h3, if_pos (by omega)]
    · rw [if_neg h3, if_neg (by omega)]
theorem bothL_take (e : Bool) (a b : List (List Bool)) {k : Nat} (hk : k < a.length) : (bothL e a b).take (k + 1) = (bothL e a b).take k ++ [bothR e (a.getD k default) (b.getD k default) (a.getD k default).length] := by
  rw [List.take_add_one]
  simp [bothL, hk]
theorem bothL_len (e : Bool) (a b : List (List Bool)) : (bothL e a b).length = a.length := by simp [bothL]

structure TS where
  k : Nat
  s : Nat
  nx : Nat
theorem both_c (a b : List (List Bool)) (e : Bool) (hl : a.length = b.length) (ha : a.length ≤ 500) (hr : ∀ i < a.length, (a.getD i default).length ≤ 4000 ∧ (b.getD i default).length = (a.getD i default).length) :
    Contract Try.prog 26 [rowsA a, rowsA b, B e] (fun x => x = rowsA (bothL e a b)) := by
  refine Contract.of_call (VCall.of_body hmix f_sclaw27_both (by simp) ?_)
  have hmx : (200000 : Nat) ≤ maxLen := by decide
  simp only [go_sem,Nat.reduceEqDiff,Nat.reduceAdd,Nat.reduceMul,↓reduceIte,↓dreduceIte,reduceCtorEq,Nat.reduceLeDiff,Nat.reduceLT,Nat.reduceSub,Int.reduceToNat,Int.reduceLE,Int.reduceLT, c_sclaw27_both, one_imm, one_ref]
  refine VW_loop (fun q : TS => ⟨[(0, rowsA a), (1, rowsA b), (2, B e), (7, .ref 0 q.s 0 q.k), (8, I q.k)], [⟨q.s, 39, 1, ((bothL e a b).take q.k).map bools⟩], q.nx⟩)
    (fun q => q.k ≤ a.length) (fun q => a.length - q.k) ⟨0, 0, 1⟩ (Wk.virt 39 1 (by decide) (by simp [get_cons]) ⟨[], rfl, rfl, by simp⟩ rfl) (Nat.zero_le _) ?_
  rintro ⟨k, s, nx⟩ hk
  simp only at hk
  by_cases hlt : k < a.length
  · obtain ⟨hx4, hxy⟩ := hr k hlt
    have htk := bothL_take e a b hlt
    have htl : ((bothL e a b).take k).length = k := by rw [List.length_take, bothL_len]; omega
    generalize hx : a.getD k default = x at hx4 hxy htk
    generalize hy : b.getD k default = y at hxy htk
    simp only [go_sem,Nat.reduceEqDiff,Nat.reduceAdd,Nat.reduceMul,↓reduceIte,↓dreduceIte,reduceCtorEq,Nat.reduceLeDiff,Nat.reduceLT,Nat.reduceSub,Int.reduceToNat,Int.reduceLE,Int.reduceLT, one_imm, one_ref, List.length_map, eq_true (show (k : Int) < a.length by omega), hx]
    repeat ((with_reducible refine And.intro ?_ ?_); · omega)
    refine VW_loop (fun j : Nat => ⟨[(0, rowsA a), (1, rowsA b), (2, B e), (7, .ref 0 s 0 k), (8, I k), (9, .ref 1 nx 0 x.length), (10, I j)], [⟨s, 39, 1, ((bothL e a b).take k).map bools⟩, ⟨nx, 4, 1, (bothR e x y j).map B⟩], nx + 1⟩)
      (fun j => j ≤ x.length) (fun j => x.length - j) 0 (Wk.mk (by simp [get_cons]) ⟨[], by simp [bothR_zero]⟩ (Nat.le_refl _)) (by omega) ?_
    intro j hj
    by_cases hl2 : j < x.length
    · cases e <;> cases h5 : gB x j <;> cases h6 : gB y j
      all_goals
        simp only [go_sem,Nat.reduceEqDiff,Nat.reduceAdd,Nat.reduceMul,↓reduceIte,↓dreduceIte,reduceCtorEq,Nat.reduceLeDiff,Nat.reduceLT,Nat.reduceSub,Int.reduceToNat,Int.reduceLE,Int.reduceLT, one_imm, one_ref, List.length_map, eq_true (show (j : Int) < x.length by omega), hx, hy, gB_getD, h5, h6, set_B, bothR_len]
        repeat ((with_reducible refine And.intro ?_ ?_); · first | omega | (rw [bothR_len]; omega))
        rw [i64_in (by omega) (by omega), bothR_set _ x y hl2 (by rw [h5, h6]; rfl)]
        exact ⟨j + 1, by omega, by omega, Wk.mk (by simp [get_cons]) ⟨[], rfl⟩ (Nat.le_refl _)⟩
    · obtain rfl : j = x.length := by omega
      simp only [go_sem,Nat.reduceEqDiff,Nat.reduceAdd,Nat.reduceMul,↓reduceIte,↓dreduceIte,reduceCtorEq,Nat.reduceLeDiff,Nat.reduceLT,Nat.reduceSub,Int.reduceToNat,Int.reduceLE,Int.reduceLT, one_imm, one_ref, List.length_map, eq_false (show ¬ (x.length : Int) < x.length by omega)]
      rw [i64_in (by omega) (by omega)]
      refine ⟨by omega, by omega, ⟨k + 1, nx + 1 + 1, nx + 1 + 1 + 1⟩, by simp only; omega, by simp only; omega, Wk.give (by simp [get_cons]) ?_ (Nat.le_refl _)⟩
      rw [show List.take k (((bothL e a b).take k).map bools) = ((bothL e a b).take k).map bools from List.take_of_length_le (by rw [List.length_map, htl]; omega), htk, List.map_append]
      exact ⟨rfl, rfl, rfl, by simp, CW.snoc (frz_bools (by simp) rfl (by rw [bothR_len])), trivial⟩
  · obtain rfl : k = a.length := by omega
    simp only [go_sem,Nat.reduceEqDiff,Nat.reduceAdd,Nat.reduceMul,↓reduceIte,↓dreduceIte,reduceCtorEq,Nat.reduceLeDiff,Nat.reduceLT,Nat.reduceSub,Int.reduceToNat,Int.reduceLE,Int.reduceLT, one_imm, one_ref, List.length_map, eq_false (show ¬ (a.length : Int) < a.length by omega)]
    refine ⟨_, rows_frz (m := bothL e a b) (Nat.zero_le _) (by rw [List.take_of_length_le (by rw [bothL_len]; omega)]; rfl) (by rw [bothL_len]), rfl⟩

theorem bothL_row (e : Bool) (a b : List (List Bool)) {i : Nat} (h : i < a.length) : (bothL e a b).getD i [] = bothR e (a.getD i default) (b.getD i default) (a.getD i default).length := by
  simp [bothL, List.getD, h]
theorem bothR_get (e : Bool) (x y : List Bool) {v : Nat} (hv : v < x.length) : gB (bothR e x y x.length) v = (gB x v && gB y v || e && (gB x v || gB y v)) := by
  unfold bothR
  rw [gB, List.getD]
  simp [hv]
def bothD (e : Bool) (L M : LD) : LD := ⟨bothL e L.inn M.inn, bothL e L.out M.out⟩
theorem both_closed {f : BF} (hf : Fine f) {L M : LD} (hL : ClosedP f L) (hM : ClosedP f M) (e : Bool) : ClosedP f (bothD e L M) := by
  have hs : SizedP f (bothD e L M) := by
    refine ⟨by show (bothL _ _ _).length = _; rw [bothL_len, hL.sz.i], by show (bothL _ _ _).length = _; rw [bothL_len, hL.sz.o], fun l hl => ?_, fun l hl => ?_⟩
    · simp only [bothD, bothL, List.mem_map, List.mem_range] at hl
      obtain ⟨i, hi, rfl⟩ := hl
      rw [bothR_len]; exact hL.sz.ir _ (getD_nil hi)
    · simp only [bothD, bothL, List.mem_map, List.mem_range] at hl
      obtain ⟨i, hi, rfl⟩ := hl
      rw [bothR_len]; exact hL.sz.or _ (getD_nil hi)
  have hI : ∀ b < f.n, ∀ v < f.r, (L.I b v && M.I b v || e && (L.I b v || M.I b v)) = (bothD e L M).I b v := fun b hb v hv => by
    show _ = gB ((bothL e L.inn M.inn).getD b []) v
    rw [bothL_row e _ _ (by rw [hL.sz.i]; exact hb), bothR_get e _ _ (by show v < (L.inn.getD b []).length; rw [hL.sz.il hb]; exact hv)]; rfl
  have hO : ∀ b < f.n, ∀ v < f.r, (L.O b v && M.O b v || e && (L.O b v || M.O b v)) = (bothD e L M).O b v := fun b hb v hv => by
    show _ = gB ((bothL e L.out M.out).getD b []) v
    rw [bothL_row e _ _ (by rw [hL.sz.o]; exact hb), bothR_get e _ _ (by show v < (L.out.getD b []).length; rw [hL.sz.ol hb]; exact hv)]; rfl
  refine ⟨hs, Closed.congr hf hI hO ⟨fun b hb k hk v hv h => ?_, fun b hb v hv h => ?_⟩⟩
  · have h1 := hL.cl.way b hb k hk v hv
    have h2 := hM.cl.way b hb k hk v hv
    cases hx : L.I k.toNat v <;> cases hy : M.I k.toNat v <;> cases e <;> simp_all
  · have h1 := hL.cl.ahead b hb v hv
    have h2 := hM.cl.ahead b hb v hv
    have ht := Tri.ahead1 (f.bk b) v
    rw [ht.or, ht.and] at h
    have mL : ahead1 (f.bk b) v false = true → L.I b v = true := fun g => h1 (ht.mono (by simp) g)
    have mM : ahead1 (f.bk b) v false = true → M.I b v = true := fun g => h2 (ht.mono (by simp) g)
    clear hI hO hs
    cases e
    · simp only [Bool.false_and, Bool.or_false] at h ⊢
      rw [Bool.or_eq_true, Bool.and_eq_true] at h
      rcases h with ⟨g1, g2⟩ | g
      · rw [h1 g1, h2 g2]; rfl
      · rw [mL g, mM g]; rfl
    · simp only [Bool.true_and] at h ⊢
      rw [ht.or, Bool.or_eq_true, Bool.and_eq_true, Bool.or_eq_true] at h
      rcases h with ⟨g1, g2⟩ | g | g
      · rw [h1 g1, h2 g2]; rfl
      · rw [h1 g]; simp
      · rw [h2 g]; simp
end Go.Proofs.Ytjdeediehmhdoaa
namespace Go.V
theorem Frz.ptr {n : Nat} {H : List VObj} {nx id s : Nat} {ob : VObj} {ys : List AV} (hid : n ≤ id) (ho : H[id]? = some ob) (hs : ob.s = s) (hz : ob.sz ≠ 0) (h : FrzL n H nx ob.cs ys) :
    Frz n H nx (.ptr id s 0) (.ip (.agg ys)) := fun M hR hH hnx v r => by
  subst hH
  simp only [RV] at r
  obtain ⟨hzz, g, hm, rfl⟩ := r.2.2 ob ho hs
  obtain ⟨vs, g1, g2, g3⟩ := hR.cells ho hzz hm 0 ob.cs.length (by omega)
  simp only [List.drop_zero, List.take_length] at g2
  have hrl := h.rl hR rfl hnx g2
  simp only [RV0]
  refine ⟨g, _, .agg vs.toArray, rfl, ⟨.inr ⟨(hR.lt hm).1, (hR.lt hm).2.1⟩, fun j hj e => by have := hR.inj j id g e hm; omega⟩, ⟨vs, rfl, hrl⟩, fun j u hu => ?_⟩
  have := g3 j u (by simpa [Value.cells] using hu)
  simpa using this
end Go.V
namespace Go.Proofs.Ytjdeediehmhdoaa
set_option linter.unusedSimpArgs false
set_option linter.unusedVariables false
set_option maxRecDepth 10000
open Go.V

def exF : BF := ⟨1, [⟨[⟨1, 0, 0, 0, 0, 0, 0, 1⟩, ⟨9, 0, 0, 0, 0, 0, 0, 0⟩], 3, 0, 0, 0⟩]⟩
def exL : LD := ⟨[[false]], [[false]]⟩
def exG : BF := ⟨2, [⟨[⟨1, 0, 0, 0, 0, 0, 0, 1⟩], 1, 0, 1, 0⟩, ⟨[⟨9, 0, 1, 0, 0, 0, 0, 0⟩], 2, 0, 1, 2⟩, ⟨[], 3, 0, 0, 0⟩]⟩
def exM : LD := ⟨[[false, true], [true, true], [false, false]], [[true, true], [true, true], [false, false]]⟩
theorem exF_fine : Fine exF := (small_fine (by decide)).1
theorem exG_fine : Fine exG := (small_fine (by decide)).1
theorem exF_least : Least exF exL := by
  refine ⟨(checkB_iff exF_fine exL).1 (by decide), fun I O h b hb v hv => ?_⟩
  have hb' : b = 0 := by have : exF.n = 1 := rfl; omega
  have hv' : v = 0 := by have : exF.r = 1 := rfl; omega
  subst hb'; subst hv'
  exact ⟨fun e => absurd e (by decide), fun e => absurd e (by decide)⟩
theorem exG_least : Least exG exM := by
  refine ⟨(checkB_iff exG_fine exM).1 (by decide), fun I O h b hb v hv => ?_⟩
  have a10 : I 1 0 = true := h.ahead 1 (by decide) 0 (by decide) (by cases O 1 0 <;> decide)
  have a11 : I 1 1 = true := h.ahead 1 (by decide) 1 (by decide) (by cases O 1 1 <;> decide)
  have o00 : O 0 0 = true := h.way 0 (by decide) 1 (by decide) 0 (by decide) a10
  have o01 : O 0 1 = true := h.way 0 (by decide) 1 (by decide) 1 (by decide) a11
  have o10 : O 1 0 = true := h.way 1 (by decide) 1 (by decide) 0 (by decide) a10
  have o11 : O 1 1 = true := h.way 1 (by decide) 1 (by decide) 1 (by decide) a11
  have a01 : I 0 1 = true := h.ahead 0 (by decide) 1 (by decide) (by rw [o01]; decide)
  have hb' : b = 0 ∨ b = 1 ∨ b = 2 := by have : exG.n = 3 := rfl; omega
  have hv' : v = 0 ∨ v = 1 := by have : exG.r = 2 := rfl; omega
  rcases hb' with rfl | rfl | rfl <;> rcases hv' with rfl | rfl <;>
    refine ⟨fun e => ?_, fun e => ?_⟩ <;> first | assumption | exact absurd e (by decide)

theorem give_all {env env' : List (Nat × AV)} {H : List VObj} {nx : Nat} (he : ∀ p ∈ env', get env p.1 = p.2 ∨ Frz 0 H nx (get env p.1) p.2) : Wk ⟨env, H, nx⟩ ⟨env', [], nx⟩ :=
  Wk.give he (by cases H <;> exact trivial) (Nat.le_refl _)
theorem frz_ins {H : List VObj} {nx id s len : Nat} {ob : VObj} (l : List Tac) (ho : H[id]? = some ob) (hs : ob.s = s) (hz : ob.sz = 8) (hcs : ob.cs = (l.map tacL).flatten) (hl : len = l.length) : Frz 0 H nx (.ref id s 0 len) (inA l) := by
  have h := Frz.refT (n := 0) (nx := nx) (yss := l.map tacL) (zss := l.map tacL) (len := len) (Nat.zero_le _) ho hs hz hcs (by intro q hq; obtain ⟨t, _, rfl⟩ := List.mem_map.1 hq; rfl) (by rw [List.length_map]; exact hl) (FrzLL.pure (by intro q hq; obtain ⟨t, _, rfl⟩ := List.mem_map.1 hq; rfl))
  rw [List.map_map] at h
  exact h
theorem frz_bks {H : List VObj} {nx id s len : Nat} {ob : VObj} (bs : List Bk) (xs : List AV) (hx : xs.length = bs.length) (hf : ∀ i < bs.length, Frz 0 H nx (xs.getD i .dead) (inA (bs.getD i default).ins)) (ho : H[id]? = some ob) (hs : ob.s = s) (hz : ob.sz = 5)
    (hcs : ob.cs = ((xs.zip bs).map fun p => [p.1, I p.2.e, I p.2.v, I p.2.to, I p.2.el]).flatten) (hl : len = bs.length) : Frz 0 H nx (.ref id s 0 len) (bksA bs) := by
  have key : ∀ (xs : List AV) (bs : List Bk), xs.length = bs.length → (∀ i < bs.length, Frz 0 H nx (xs.getD i .dead) (inA (bs.getD i default).ins)) → FrzLL 0 H nx ((xs.zip bs).map fun p => [p.1, I p.2.e, I p.2.v, I p.2.to, I p.2.el]) (bs.map bkL) := by
    intro xs
    induction xs with
    | nil => intro bs h _; cases bs with
      | nil => rfl
      | cons b bs => simp at h
    | cons x xs ih => intro bs h hf; cases bs with
      | nil => simp at h
      | cons b bs =>
        refine ⟨_, _, rfl, ⟨_, _, rfl, hf 0 (by simp), _, _, rfl, Frz.pure rfl, _, _, rfl, Frz.pure rfl, _, _, rfl, Frz.pure rfl, _, _, rfl, Frz.pure rfl, rfl⟩, ih bs (by simpa using h) fun i hi => ?_⟩
        have := hf (i + 1) (by simp; omega)
        simpa using this
  have h := Frz.refT (n := 0) (nx := nx) (len := len) (zss := bs.map bkL) (Nat.zero_le _) ho hs hz hcs (by intro l hl; obtain ⟨p, _, rfl⟩ := List.mem_map.1 hl; rfl) (by rw [List.length_map, List.length_zip, hx, Nat.min_self]; exact hl) (key xs bs hx hf)
  rw [List.map_map] at h
  exact h
theorem frz_rowB {H : List VObj} {nx id s len : Nat} {ob : VObj} (l : List Bool) (ho : H[id]? = some ob) (hs : ob.s = s) (hz : ob.sz = 1) (hcs : ob.cs = l.map B) (hl : len = l.length) : Frz 0 H nx (.ref id s 0 len) (.imm 1 (l.map B)) :=
  Frz.ref (Nat.zero_le _) ho hs hz (by rw [hcs, List.all_eq_true]; intro q hq; obtain ⟨t, _, rfl⟩ := List.mem_map.1 hq; rfl) (by rw [hcs, List.drop_zero, List.take_of_length_le (by simp [hl])]; exact FrzL.pure (by rw [List.all_eq_true]; intro q hq; obtain ⟨t, _, rfl⟩ := List.mem_map.1 hq; rfl))

theorem vals_true {b : Bool} : ∀ r, r = B b → (∃ u, r = .val u) ∨ ∃ us : List Value, r = .agg (us.map .val) := fun r h => .inl ⟨_, h⟩
theorem awake_c : Contract Try.prog 12 [] (fun r => r = B true) := by
  have hq := f_sclaw27_awake
  unfold compF compFp at hq
  refine Contract.of_call (VCall.of_bodyS (pt := false) (pf := false) hmix hq (by simp) ?_)
  simp only [go_sem,Nat.reduceEqDiff,Nat.reduceAdd,Nat.reduceMul,↓reduceIte,↓dreduceIte,reduceCtorEq,Nat.reduceLeDiff,Nat.reduceLT,Nat.reduceSub,Int.reduceToNat,Int.reduceLE,Int.reduceLT, c_sclaw27_awake, VWs_seq, VWs_ret, VWs_ops, VWs_cond]
  refine ⟨⟨[(0, B false)], [], 0⟩, Wk.mk (by simp [get_cons]) ⟨[], by simp⟩ (Nat.le_refl _), ?_⟩
  simp only [go_sem,Nat.reduceEqDiff,Nat.reduceAdd,Nat.reduceMul,↓reduceIte,↓dreduceIte,reduceCtorEq,Nat.reduceLeDiff,Nat.reduceLT,Nat.reduceSub,Int.reduceToNat,Int.reduceLE,Int.reduceLT, VWs_seq, VWs_ret, VWs_ops, VWs_cond, one_imm, one_ref]
  refine ⟨⟨[(1, .ip (.agg (bfL exF))), (0, B false)], [], 3⟩, give_all fun p hp => ?_, ?_⟩
  · simp only [List.mem_cons, List.not_mem_nil, or_false] at hp
    rcases hp with rfl | rfl
    · right
      refine Frz.ptr (id := 2) (Nat.zero_le _) rfl rfl (by decide) ⟨_, _, rfl, Frz.pure rfl, _, _, rfl, frz_bks exF.bks [.ref 0 0 0 2] rfl ?_ rfl rfl rfl rfl rfl, rfl⟩
      intro i hi
      have : i = 0 := by have : exF.bks.length = 1 := rfl; omega
      subst this
      exact frz_ins _ rfl rfl rfl rfl rfl
    · left; rfl
  simp only [go_sem,Nat.reduceEqDiff,Nat.reduceAdd,Nat.reduceMul,↓reduceIte,↓dreduceIte,reduceCtorEq,Nat.reduceLeDiff,Nat.reduceLT,Nat.reduceSub,Int.reduceToNat,Int.reduceLE,Int.reduceLT, VWs_seq, VWs_ret, VWs_ops, VWs_cond, one_imm, one_ref]
  refine VCall.of_contract (live_of_c exF exF_fine (by decide) exL exF_least) (SleL.pure rfl) fun x hx => ?_
  subst hx
  simp only [go_sem,Nat.reduceEqDiff,Nat.reduceAdd,Nat.reduceMul,↓reduceIte,↓dreduceIte,reduceCtorEq,Nat.reduceLeDiff,Nat.reduceLT,Nat.reduceSub,Int.reduceToNat,Int.reduceLE,Int.reduceLT, VWs_seq, VWs_ret, VWs_ops, VWs_cond, one_imm, one_ref]
  refine ⟨⟨[(1, .ip (.agg (bfL exF))), (2, .ip (liveA exL)), (0, B false)], [], 4⟩, give_all fun p hp => ?_, ?_⟩
  · simp only [List.mem_cons, List.not_mem_nil, or_false] at hp
    rcases hp with rfl | rfl | rfl
    · left; rfl
    · right
      exact Frz.ptr (id := 0) (Nat.zero_le _) rfl rfl (by decide) (FrzL.pure rfl)
    · left; rfl
  simp only [go_sem,Nat.reduceEqDiff,Nat.reduceAdd,Nat.reduceMul,↓reduceIte,↓dreduceIte,reduceCtorEq,Nat.reduceLeDiff,Nat.reduceLT,Nat.reduceSub,Int.reduceToNat,Int.reduceLE,Int.reduceLT, VWs_seq, VWs_ret, VWs_ops, VWs_cond, one_imm, one_ref]
  refine VCall.of_contract (behind_c exF exL 0 exF_fine (by decide) (by decide) rfl) (SleL.pure rfl) fun x hx => ?_
  subst hx
  simp only [go_sem,Nat.reduceEqDiff,Nat.reduceAdd,Nat.reduceMul,↓reduceIte,↓dreduceIte,reduceCtorEq,Nat.reduceLeDiff,Nat.reduceLT,Nat.reduceSub,Int.reduceToNat,Int.reduceLE,Int.reduceLT, VWs_seq, VWs_ret, VWs_ops, VWs_cond, one_imm, one_ref]
  refine ⟨⟨[(1, .ip (.agg (bfL exF))), (2, .ip (liveA exL)), (3, rowsA [[true], [false]]), (0, B false)], [], 4⟩, give_all fun p hp => ?_, ?_⟩
  · simp only [List.mem_cons, List.not_mem_nil, or_false] at hp
    rcases hp with rfl | rfl | rfl | rfl <;> left <;> rfl
  simp only [go_sem,Nat.reduceEqDiff,Nat.reduceAdd,Nat.reduceMul,↓reduceIte,↓dreduceIte,reduceCtorEq,Nat.reduceLeDiff,Nat.reduceLT,Nat.reduceSub,Int.reduceToNat,Int.reduceLE,Int.reduceLT, VWs_seq, VWs_ret, VWs_ops, VWs_cond, one_imm, one_ref]
  refine ⟨⟨[(4, .ip (.agg (bfL exG))), (1, .ip (.agg (bfL exF))), (2, .ip (liveA exL)), (3, rowsA [[true], [false]]), (0, B false)], [], 8⟩, give_all fun p hp => ?_, ?_⟩
  · simp only [List.mem_cons, List.not_mem_nil, or_false] at hp
    rcases hp with rfl | rfl | rfl | rfl | rfl
    · right
      refine Frz.ptr (id := 3) (Nat.zero_le _) rfl rfl (by decide) ⟨_, _, rfl, Frz.pure rfl, _, _, rfl, frz_bks exG.bks [.ref 0 4 0 1, .ref 1 5 0 1, nilv] rfl ?_ rfl rfl rfl rfl rfl, rfl⟩
      intro i hi
      have : i = 0 ∨ i = 1 ∨ i = 2 := by have : exG.bks.length = 3 := rfl; omega
      rcases this with rfl | rfl | rfl
      · exact frz_ins _ rfl rfl rfl rfl rfl
      · exact frz_ins _ rfl rfl rfl rfl rfl
      · exact Frz.nil 8
    all_goals left; rfl
  simp only [go_sem,Nat.reduceEqDiff,Nat.reduceAdd,Nat.reduceMul,↓reduceIte,↓dreduceIte,reduceCtorEq,Nat.reduceLeDiff,Nat.reduceLT,Nat.reduceSub,Int.reduceToNat,Int.reduceLE,Int.reduceLT, VWs_seq, VWs_ret, VWs_ops, VWs_cond, one_imm, one_ref]
  refine VCall.of_contract (live_of_c exG exG_fine (by decide) exM exG_least) (SleL.pure rfl) fun x hx => ?_
  subst hx
  simp only [go_sem,Nat.reduceEqDiff,Nat.reduceAdd,Nat.reduceMul,↓reduceIte,↓dreduceIte,reduceCtorEq,Nat.reduceLeDiff,Nat.reduceLT,Nat.reduceSub,Int.reduceToNat,Int.reduceLE,Int.reduceLT, VWs_seq, VWs_ret, VWs_ops, VWs_cond, one_imm, one_ref]
  refine ⟨⟨[(5, .ip (liveA exM)), (4, .ip (.agg (bfL exG))), (1, .ip (.agg (bfL exF))), (2, .ip (liveA exL)), (3, rowsA [[true], [false]]), (0, B false)], [], 9⟩, give_all fun p hp => ?_, ?_⟩
  · simp only [List.mem_cons, List.not_mem_nil, or_false] at hp
    rcases hp with rfl | rfl | rfl | rfl | rfl | rfl
    · right
      exact Frz.ptr (id := 0) (Nat.zero_le _) rfl rfl (by decide) (FrzL.pure rfl)
    all_goals left; rfl
  simp only [go_sem,Nat.reduceEqDiff,Nat.reduceAdd,Nat.reduceMul,↓reduceIte,↓dreduceIte,reduceCtorEq,Nat.reduceLeDiff,Nat.reduceLT,Nat.reduceSub,Int.reduceToNat,Int.reduceLE,Int.reduceLT, VWs_seq, VWs_ret, VWs_ops, VWs_cond, one_imm, one_ref]
  refine ⟨⟨[(6, .ip (liveA exM)), (5, .ip (liveA exM)), (4, .ip (.agg (bfL exG))), (1, .ip (.agg (bfL exF))), (2, .ip (liveA exL)), (3, rowsA [[true], [false]]), (0, B false)], [], 18⟩, give_all fun p hp => ?_, ?_⟩
  · simp only [List.mem_cons, List.not_mem_nil, or_false] at hp
    rcases hp with rfl | rfl | rfl | rfl | rfl | rfl | rfl
    · right
      refine Frz.ptr (id := 8) (Nat.zero_le _) rfl rfl (by decide) ⟨_, _, rfl, ?_, _, _, rfl, ?_, rfl⟩
      · exact Frz.ref (id := 3) (Nat.zero_le _) rfl rfl rfl rfl ⟨_, _, rfl, frz_rowB [false, true] rfl rfl rfl rfl rfl, _, _, rfl, frz_rowB [true, true] rfl rfl rfl rfl rfl, _, _, rfl, frz_rowB [false, false] rfl rfl rfl rfl rfl, rfl⟩
      · exact Frz.ref (id := 7) (Nat.zero_le _) rfl rfl rfl rfl ⟨_, _, rfl, frz_rowB [true, true] rfl rfl rfl rfl rfl, _, _, rfl, frz_rowB [true, true] rfl rfl rfl rfl rfl, _, _, rfl, frz_rowB [false, false] rfl rfl rfl rfl rfl, rfl⟩
    all_goals left; rfl
  simp only [go_sem,Nat.reduceEqDiff,Nat.reduceAdd,Nat.reduceMul,↓reduceIte,↓dreduceIte,reduceCtorEq,Nat.reduceLeDiff,Nat.reduceLT,Nat.reduceSub,Int.reduceToNat,Int.reduceLE,Int.reduceLT, VWs_seq, VWs_ret, VWs_ops, VWs_cond, one_imm, one_ref]
  have okL : LOK exL := ⟨by decide, by decide, by decide, by decide⟩
  have okM : LOK exM := ⟨by decide, by decide, by decide, by decide⟩
  have ok0 : LOK ⟨[], []⟩ := ⟨by decide, by decide, by decide, by decide⟩
  refine VCall.of_contractN ((rSame_c exL exL okL).vals fun r h => vals_true r h) ?_ fun x hx => ?_
  · exact ⟨_, _, rfl, Frz.pure rfl, _, _, rfl, Frz.agg ⟨_, _, rfl, Frz.ref (id := 1) (Nat.zero_le _) rfl rfl rfl rfl ⟨_, _, rfl, frz_rowB [false] rfl rfl rfl rfl rfl, rfl⟩, _, _, rfl, Frz.ref (id := 3) (Nat.zero_le _) rfl rfl rfl rfl ⟨_, _, rfl, frz_rowB [false] rfl rfl rfl rfl rfl, rfl⟩, rfl⟩, rfl⟩
  rw [sameB_self] at hx
  subst hx
  simp only [go_sem,Nat.reduceEqDiff,Nat.reduceAdd,Nat.reduceMul,↓reduceIte,↓dreduceIte,reduceCtorEq,Nat.reduceLeDiff,Nat.reduceLT,Nat.reduceSub,Int.reduceToNat,Int.reduceLE,Int.reduceLT, VWs_seq, VWs_ret, VWs_ops, VWs_cond, one_imm, one_ref]
  refine VCall.of_contractN ((rrows_c [[true], [false]] [[true], [false]] (by decide) (by decide)).vals fun r h => vals_true r h) ?_ fun x hx => ?_
  · exact ⟨_, _, rfl, Frz.pure rfl, _, _, rfl, Frz.ref (id := 6) (Nat.zero_le _) rfl rfl rfl rfl ⟨_, _, rfl, frz_rowB [true] rfl rfl rfl rfl rfl, _, _, rfl, frz_rowB [false] rfl rfl rfl rfl rfl, rfl⟩, rfl⟩
  replace hx : x = B true := hx
  subst hx
  simp only [go_sem,Nat.reduceEqDiff,Nat.reduceAdd,Nat.reduceMul,↓reduceIte,↓dreduceIte,reduceCtorEq,Nat.reduceLeDiff,Nat.reduceLT,Nat.reduceSub,Int.reduceToNat,Int.reduceLE,Int.reduceLT, VWs_seq, VWs_ret, VWs_ops, VWs_cond, one_imm, one_ref]
  refine VCall.of_contract (rSame_c exM exM okM) (SleL.pure rfl) fun x hx => ?_
  rw [sameB_self] at hx
  subst hx
  simp only [go_sem,Nat.reduceEqDiff,Nat.reduceAdd,Nat.reduceMul,↓reduceIte,↓dreduceIte,reduceCtorEq,Nat.reduceLeDiff,Nat.reduceLT,Nat.reduceSub,Int.reduceToNat,Int.reduceLE,Int.reduceLT, VWs_seq, VWs_ret, VWs_ops, VWs_cond, one_imm, one_ref]
  refine VCall.of_contract (check_c exG exM exG_fine okM) (SleL.pure rfl) fun x hx => ?_
  rw [(checkB_iff exG_fine exM).2 exG_least.cl] at hx
  subst hx
  simp only [go_sem,Nat.reduceEqDiff,Nat.reduceAdd,Nat.reduceMul,↓reduceIte,↓dreduceIte,reduceCtorEq,Nat.reduceLeDiff,Nat.reduceLT,Nat.reduceSub,Int.reduceToNat,Int.reduceLE,Int.reduceLT, VWs_seq, VWs_ret, VWs_ops, VWs_cond, one_imm, one_ref]
  refine VCall.of_contractN ((check_c exF ⟨[], []⟩ exF_fine ok0).vals fun r h => vals_true r h) ?_ fun x hx => ?_
  · exact ⟨_, _, rfl, Frz.pure rfl, _, _, rfl, Frz.agg ⟨_, _, rfl, Frz.nil 1, _, _, rfl, Frz.nil 1, rfl⟩, rfl⟩
  replace hx : x = B false := hx
  subst hx
  simp only [go_sem,Nat.reduceEqDiff,Nat.reduceAdd,Nat.reduceMul,↓reduceIte,↓dreduceIte,reduceCtorEq,Nat.reduceLeDiff,Nat.reduceLT,Nat.reduceSub,Int.reduceToNat,Int.reduceLE,Int.reduceLT, VWs_seq, VWs_ret, VWs_ops, VWs_cond, one_imm, one_ref]
  refine VCall.of_contract (Same_c exM exM okM) (SleL.pure rfl) fun x hx => ?_
  rw [sameB_self] at hx
  subst hx
  simp only [go_sem,Nat.reduceEqDiff,Nat.reduceAdd,Nat.reduceMul,↓reduceIte,↓dreduceIte,reduceCtorEq,Nat.reduceLeDiff,Nat.reduceLT,Nat.reduceSub,Int.reduceToNat,Int.reduceLE,Int.reduceLT, VWs_seq, VWs_ret, VWs_ops, VWs_cond, one_imm, one_ref]
  refine VCall.of_contract (Same_c exL exM okL) (SleL.pure rfl) fun x hx => ?_
  replace hx : x = B false := hx
  subst hx
  simp only [go_sem,Nat.reduceEqDiff,Nat.reduceAdd,Nat.reduceMul,↓reduceIte,↓dreduceIte,reduceCtorEq,Nat.reduceLeDiff,Nat.reduceLT,Nat.reduceSub,Int.reduceToNat,Int.reduceLE,Int.reduceLT, VWs_seq, VWs_ret, VWs_ops, VWs_cond, one_imm, one_ref]
  refine ⟨⟨[(0, B true)], [], _⟩, Wk.mk (by simp [get_cons]) ⟨_, (List.nil_append _).symm⟩ (Nat.le_refl _), ?_⟩
  simp only [go_sem,Nat.reduceEqDiff,Nat.reduceAdd,Nat.reduceMul,↓reduceIte,↓dreduceIte,reduceCtorEq,Nat.reduceLeDiff,Nat.reduceLT,Nat.reduceSub,Int.reduceToNat,Int.reduceLE,Int.reduceLT, VWs_seq, VWs_ret, VWs_ops, VWs_cond, one_imm, one_ref]
  exact ⟨_, Frz.pure rfl, rfl⟩
end Go.Proofs.Ytjdeediehmhdoaa
namespace Go.Proofs.Ytjdeediehmhdoaa
set_option linter.unusedSimpArgs false
set_option linter.unusedVariables false
set_option maxRecDepth 10000
open Go.V Go.ChangeShapes Go.WideShapes Go.ChangeAt Go.RowKit

theorem awakeE {H : List VObj} {nx : Nat} {A : Nat → Prop} {C : AV → List VObj → Nat → Prop} (h : C (B true) H nx) : ECallT Try.prog A 12 [] H nx C .mk :=
  ECall.of awake_c (SleL.pure rfl) ⟨_, fun _ => Iff.rfl⟩ fun x hx => by subst hx; exact h
theorem SizedP.ok {f : BF} (hf : Fine f) {L : LD} (h : SizedP f L) : LOK L := by
  have h1 := hf.b1
  have h2 := hf.r1
  have h3 := hf.r0
  have hn : f.n = f.bks.length := rfl
  have hr : f.r ≤ 4000 := by unfold BF.r; omega
  have a1 := h.i
  have a2 := h.o
  exact ⟨by omega, by omega, fun l hl => by have := h.ir l hl; omega, fun l hl => by have := h.or l hl; omega⟩
theorem liveof_c (f : BF) (hF : BfOk f) : Contract Try.prog 3 [bfA f] (fun r => r = B true) := by
  refine Contract.of_call (VCall.of_body hmix f_sclaw27_LiveOf (by simp) ?_)
  simp only [go_sem,Nat.reduceEqDiff,Nat.reduceAdd,Nat.reduceMul,↓reduceIte,↓dreduceIte,reduceCtorEq,Nat.reduceLeDiff,Nat.reduceLT,Nat.reduceSub,Int.reduceToNat,Int.reduceLE,Int.reduceLT, one_imm, one_ref, c_sclaw27_LiveOf]
  refine VCall.of_contract (small_c f 12 60 hF (by decide) (by decide)) (SleL.pure rfl) fun x hx => ?_
  subst hx
  cases hs : smallB f 12 60
  · simp only [go_sem,Nat.reduceEqDiff,Nat.reduceAdd,Nat.reduceMul,↓reduceIte,↓dreduceIte,reduceCtorEq,Nat.reduceLeDiff,Nat.reduceLT,Nat.reduceSub,Int.reduceToNat,Int.reduceLE,Int.reduceLT, one_imm, one_ref]
    refine VCall.of_contract awake_c (SleL.pure rfl) fun x hx => ?_
    subst hx
    simp only [go_sem,Nat.reduceEqDiff,Nat.reduceAdd,Nat.reduceMul,↓reduceIte,↓dreduceIte,reduceCtorEq,Nat.reduceLeDiff,Nat.reduceLT,Nat.reduceSub,Int.reduceToNat,Int.reduceLE,Int.reduceLT, one_imm, one_ref]
    exact ⟨_, Frz.pure rfl, rfl⟩
  obtain ⟨hf, h12, h40, _, _⟩ := small_fine hs
  obtain ⟨L, hL⟩ := least_exists hf
  have hr : f.r ≤ 64 := by unfold BF.r; omega
  have hok := hL.cl.sz.ok hf
  simp only [go_sem,Nat.reduceEqDiff,Nat.reduceAdd,Nat.reduceMul,↓reduceIte,↓dreduceIte,reduceCtorEq,Nat.reduceLeDiff,Nat.reduceLT,Nat.reduceSub,Int.reduceToNat,Int.reduceLE,Int.reduceLT, one_imm, one_ref]
  refine VCall.of_contract (live_of_c f hf hr L hL) (SleL.pure rfl) fun x hx => ?_
  subst hx
  simp only [go_sem,Nat.reduceEqDiff,Nat.reduceAdd,Nat.reduceMul,↓reduceIte,↓dreduceIte,reduceCtorEq,Nat.reduceLeDiff,Nat.reduceLT,Nat.reduceSub,Int.reduceToNat,Int.reduceLE,Int.reduceLT, one_imm, one_ref]
  refine awakeE ?_
  simp only [go_sem,Nat.reduceEqDiff,Nat.reduceAdd,Nat.reduceMul,↓reduceIte,↓dreduceIte,reduceCtorEq,Nat.reduceLeDiff,Nat.reduceLT,Nat.reduceSub,Int.reduceToNat,Int.reduceLE,Int.reduceLT, one_imm, one_ref]
  refine ECall.of (rof_c f hf L hL) (SleL.pure rfl) ⟨_, fun _ => Iff.rfl⟩ fun x hx => ?_
  subst hx
  simp only [go_sem,Nat.reduceEqDiff,Nat.reduceAdd,Nat.reduceMul,↓reduceIte,↓dreduceIte,reduceCtorEq,Nat.reduceLeDiff,Nat.reduceLT,Nat.reduceSub,Int.reduceToNat,Int.reduceLE,Int.reduceLT, one_imm, one_ref]
  refine ECall.of (rSame_c L L hok) (SleL.pure rfl) ⟨_, fun _ => Iff.rfl⟩ fun x hx => ?_
  rw [sameB_self] at hx
  subst hx
  simp only [go_sem,Nat.reduceEqDiff,Nat.reduceAdd,Nat.reduceMul,↓reduceIte,↓dreduceIte,reduceCtorEq,Nat.reduceLeDiff,Nat.reduceLT,Nat.reduceSub,Int.reduceToNat,Int.reduceLE,Int.reduceLT, one_imm, one_ref]
  refine ECall.of (rcheck_c f L hf hok) (SleL.pure rfl) ⟨_, fun _ => Iff.rfl⟩ fun x hx => ?_
  rw [(checkB_iff hf L).2 hL.cl] at hx
  subst hx
  simp only [go_sem,Nat.reduceEqDiff,Nat.reduceAdd,Nat.reduceMul,↓reduceIte,↓dreduceIte,reduceCtorEq,Nat.reduceLeDiff,Nat.reduceLT,Nat.reduceSub,Int.reduceToNat,Int.reduceLE,Int.reduceLT, one_imm, one_ref]
  refine ECall.of (check_c f L hf hok) (SleL.pure rfl) ⟨_, fun _ => Iff.rfl⟩ fun x hx => ?_
  rw [(checkB_iff hf L).2 hL.cl] at hx
  subst hx
  simp only [go_sem,Nat.reduceEqDiff,Nat.reduceAdd,Nat.reduceMul,↓reduceIte,↓dreduceIte,reduceCtorEq,Nat.reduceLeDiff,Nat.reduceLT,Nat.reduceSub,Int.reduceToNat,Int.reduceLE,Int.reduceLT, one_imm, one_ref]
  exact ⟨_, Frz.pure rfl, rfl⟩

set_option maxRecDepth 100000 in
theorem liveof_lifted (os : Os) (started : os.Started) (H : Type) (enc : TypeId × Value → H) :
    ReturnsInHanded {} Try.checked os 3 .any (Rows.liveOfSpec.pre6 enc Try.prog Try.f3 Rows.liveOfRow.domain false) (Rows.liveOfSpec.post enc Try.prog Try.f3 false true false false) := by
  refine returnsInHanded_of_change_sized (C := Try.checked) Try.own started (by kernel_rfl) Try.func3
    (ChangeSpec.witness6 (enc := enc) (C := Try.checked) false ⟨#[], #[.agg #[.int .i64 0, .slice none 0 0]], []⟩ 8 (by kernel_rfl) (by kernel_rfl) (by kernel_rfl) (by kernel_rfl)) ?_
  intro W base args ds gs before hval hW _ hwt _
  refine law_calls (P := Try.prog) (n := 20) (shs := [bfSh]) (tb := 4) Try.laidOut rfl (by kernel_rfl) (by kernel_rfl) (by decide +kernel) (by kernel_rfl) (fun ds h => ?_) (fun xs hx => ?_) hval hW hwt
  · match ds, h with
    | [d1], _ => rfl
  · obtain ⟨x, xs', rfl, hx1, hxs⟩ := fitS_cons hx
    simp only [Sh.fitL] at hxs
    subst hxs
    obtain ⟨f, rfl, hF⟩ := bf_of hx1
    exact liveof_c f hF

theorem liveof_holds : Rows.LiveOfSaid :=
  OpenClaim.holds_of_wide 3 Try.f3 rfl rfl rfl rfl rfl rfl rfl ⟨rfl, rfl, rfl, rfl, rfl⟩ rfl rfl rfl rfl rfl (by kernel_rfl) Try.func3 (by kernel_rfl)
    (of_decide_eq_true (by kernel_rfl)) (by unfold Func.isWrapper; first | (rw [if_pos (by decide +kernel)]; kernel_rfl) | (rw [if_neg (by decide +kernel)]; exact ⟨rfl, rfl⟩))
    (fun os started H enc _ => liveof_lifted os started H enc)
end Go.Proofs.Ytjdeediehmhdoaa
namespace Go.Proofs.Ytjdeediehmhdoaa
set_option linter.unusedSimpArgs false
set_option linter.unusedVariables false
open Go.V

/-- A number of 32 bits. -/
def In32 (n : Int) : Prop := 0 ≤ n ∧ n < 4294967296

theorem w32_in {n : Int} (h : In32 n) : IntKind.u32.wrap n = n := by
  rw [IntKind.wrap_u32]; have := h.1; have := h.2; omega
theorem w32_ok (n : Int) : In32 (IntKind.u32.wrap n) := by
  rw [IntKind.wrap_u32]; constructor <;> omega

/-- The bits of a number, the low end first. -/
def bitsN (x n : Nat) : List Int := (List.range n).map fun i => ((x / 2 ^ i % 2 : Nat) : Int)
theorem bitsN_length (x n : Nat) : (bitsN x n).length = n := by simp [bitsN]
theorem bitsN_get {x n i : Nat} (h : i < n) : (bitsN x n).getD i default = ((x / 2 ^ i % 2 : Nat) : Int) := by simp [bitsN, List.getD, h]
theorem bitsN_succ (x n : Nat) : bitsN x (n + 1) = bitsN x n ++ [((x / 2 ^ n % 2 : Nat) : Int)] := by simp [bitsN, List.range_succ]
theorem bitsN_cons (x n : Nat) : bitsN x (n + 1) = ((x % 2 : Nat) : Int) :: bitsN (x / 2) n := by
  simp only [bitsN, List.range_succ_eq_map, List.map_cons, List.map_map, Nat.pow_zero, Nat.div_one]
  congr 1
  refine List.map_congr_left fun i _ => ?_
  simp only [Function.comp, Nat.pow_succ, Nat.div_div_eq_div_mul]
  rw [Nat.mul_comm]

/-- The number of bits. -/
def numN : List Int → Nat
  | [] => 0
  | b :: l => b.toNat + 2 * numN l
theorem numN_bits : ∀ (n x : Nat), numN (bitsN x n) = x % 2 ^ n
  | 0, x => by simp [bitsN, numN, Nat.mod_one]
  | n + 1, x => by
    rw [bitsN_cons, numN, numN_bits n, Int.toNat_natCast, Nat.pow_succ, Nat.mul_comm (2 ^ n) 2, Nat.mod_mul]

theorem bit_and (x y i : Nat) : (x &&& y) / 2 ^ i % 2 = if x / 2 ^ i % 2 + y / 2 ^ i % 2 = 2 then 1 else 0 := by
  have h := Nat.testBit_and x y i
  simp only [Nat.testBit_eq_decide_div_mod_eq] at h
  have h1 := Nat.mod_two_eq_zero_or_one (x / 2 ^ i)
  have h2 := Nat.mod_two_eq_zero_or_one (y / 2 ^ i)
  have h3 := Nat.mod_two_eq_zero_or_one ((x &&& y) / 2 ^ i)
  rcases h1 with h1 | h1 <;> rcases h2 with h2 | h2 <;> rcases h3 with h3 | h3 <;> simp_all
theorem bit_or (x y i : Nat) : (x ||| y) / 2 ^ i % 2 = if x / 2 ^ i % 2 + y / 2 ^ i % 2 = 0 then 0 else 1 := by
  have h := Nat.testBit_or x y i
  simp only [Nat.testBit_eq_decide_div_mod_eq] at h
  have h1 := Nat.mod_two_eq_zero_or_one (x / 2 ^ i)
  have h2 := Nat.mod_two_eq_zero_or_one (y / 2 ^ i)
  have h3 := Nat.mod_two_eq_zero_or_one ((x ||| y) / 2 ^ i)
  rcases h1 with h1 | h1 <;> rcases h2 with h2 | h2 <;> rcases h3 with h3 | h3 <;> simp_all
theorem bit_xor (x y i : Nat) : (x ^^^ y) / 2 ^ i % 2 = if x / 2 ^ i % 2 + y / 2 ^ i % 2 = 1 then 1 else 0 := by
  have h := Nat.testBit_xor x y i
  simp only [Nat.testBit_eq_decide_div_mod_eq] at h
  have h1 := Nat.mod_two_eq_zero_or_one (x / 2 ^ i)
  have h2 := Nat.mod_two_eq_zero_or_one (y / 2 ^ i)
  have h3 := Nat.mod_two_eq_zero_or_one ((x ^^^ y) / 2 ^ i)
  rcases h1 with h1 | h1 <;> rcases h2 with h2 | h2 <;> rcases h3 with h3 | h3 <;> simp_all

theorem bv32 {a : Int} (h : In32 a) : (BitVec.ofInt IntKind.u32.bits a).toNat = a.toNat := by
  show (BitVec.ofInt 32 a).toNat = a.toNat
  rw [BitVec.toNat_ofInt]
  obtain ⟨h1, h2⟩ := h
  omega

theorem andW_eq {a b : Int} (ha : In32 a) (hb : In32 b) : andW a b = ((a.toNat &&& b.toNat : Nat) : Int) := by
  unfold andW
  rw [BitVec.toNat_and, bv32 ha, bv32 hb]
  refine w32_in ⟨by omega, ?_⟩
  have := Nat.and_lt_two_pow (n := 32) a.toNat (y := b.toNat) (by have := hb.2; have := hb.1; omega)
  omega
theorem orW_eq {a b : Int} (ha : In32 a) (hb : In32 b) : orW a b = ((a.toNat ||| b.toNat : Nat) : Int) := by
  unfold orW
  rw [BitVec.toNat_or, bv32 ha, bv32 hb]
  refine w32_in ⟨by omega, ?_⟩
  have := Nat.or_lt_two_pow (n := 32) (x := a.toNat) (y := b.toNat) (by have := ha.2; have := ha.1; omega) (by have := hb.2; have := hb.1; omega)
  omega
theorem xorW_eq {a b : Int} (ha : In32 a) (hb : In32 b) : xorW a b = ((a.toNat ^^^ b.toNat : Nat) : Int) := by
  unfold xorW
  rw [BitVec.toNat_xor, bv32 ha, bv32 hb]
  refine w32_in ⟨by omega, ?_⟩
  have := Nat.xor_lt_two_pow (n := 32) (x := a.toNat) (y := b.toNat) (by have := ha.2; have := ha.1; omega) (by have := hb.2; have := hb.1; omega)
  omega

theorem andW_mask {a : Int} (ha : In32 a) (k : Nat) (hk : k ≤ 32) : andW a ((2 ^ k - 1 : Nat) : Int) = a % 2 ^ k := by
  have hp : 2 ^ k ≤ 2 ^ 32 := Nat.pow_le_pow_right (by omega) hk
  have hp0 : 0 < 2 ^ k := Nat.two_pow_pos k
  rw [andW_eq ha ⟨by omega, by omega⟩, Int.toNat_natCast, Nat.and_two_pow_sub_one_eq_mod]
  have := ha.1
  rw [show a = ((a.toNat : Nat) : Int) by omega]
  simp

theorem shrW_eq {a : Int} (ha : In32 a) (k : Nat) (hk : k ≤ 32) : shrW a k = ((a.toNat / 2 ^ k : Nat) : Int) := by
  unfold shrW
  rw [Int.toNat_natCast, Nat.min_eq_left (by show k ≤ 32; exact hk), Int.fdiv_eq_ediv_of_nonneg _ (by exact Int.le_of_lt (Int.pow_pos (by decide)))]
  have := ha.1
  conv => lhs; rw [show a = ((a.toNat : Nat) : Int) by omega]
  simp

/-- The bits of what an operation makes of two words. -/
theorem both_bits {op a b : Int} (ha : In32 a) (hb : In32 b) (ho : op = 9 ∨ op = 10 ∨ op = 11) : (applyW op a b).2 = 0 ∧ In32 (applyW op a b).1 ∧ ∀ i, (applyW op a b).1.toNat / 2 ^ i % 2 = if (a.toNat / 2 ^ i % 2 + b.toNat / 2 ^ i % 2 = 2 ∧ op ≠ 11) ∨ (a.toNat / 2 ^ i % 2 + b.toNat / 2 ^ i % 2 = 1 ∧ op ≠ 9) then 1 else 0 := by
  rcases ho with rfl | rfl | rfl
  · refine ⟨rfl, w32_ok _, fun i => ?_⟩
    show (andW a b).toNat / _ % 2 = _
    rw [andW_eq ha hb, Int.toNat_natCast, bit_and]; simp
  · refine ⟨rfl, w32_ok _, fun i => ?_⟩
    show (orW a b).toNat / _ % 2 = _
    rw [orW_eq ha hb, Int.toNat_natCast, bit_or]
    have h1 := Nat.mod_two_eq_zero_or_one (a.toNat / 2 ^ i)
    have h2 := Nat.mod_two_eq_zero_or_one (b.toNat / 2 ^ i)
    rcases h1 with h1 | h1 <;> rcases h2 with h2 | h2 <;> simp [h1, h2]
  · refine ⟨rfl, w32_ok _, fun i => ?_⟩
    show (xorW a b).toNat / _ % 2 = _
    rw [xorW_eq ha hb, Int.toNat_natCast, bit_xor]; simp
end Go.Proofs.Ytjdeediehmhdoaa
namespace Go.Proofs.Ytjdeediehmhdoaa
set_option linter.unusedSimpArgs false
set_option linter.unusedVariables false
open Go.V

/-- A run in the midst: words, what was put out, how much was read, steps, and how it ended (0: it goes on). -/
structure Bst where
  ws : List Int
  out : List UInt8
  rd : Nat
  st : Nat
  en : Int
deriving Inhabited

def byteB (r : Int) : UInt8 := UInt8.ofNat (IntKind.u8.wrap r).toNat
theorem byteB_eq (r : Int) : ((byteB r).toNat : Int) = IntKind.u8.wrap r := by
  unfold byteB
  rw [IntKind.wrap_u8]
  simp only [UInt8.toNat_ofNat']
  omega
def gR (rg : List Int) (i : Int) : Int := rg.getD i.toNat default
def sR (rg : List Int) (i x : Int) : List Int := rg.set i.toNat x

/-- What an instruction does. -/
def opF (call : Nat → Bst → Bst) (inp : ByteArray) (t : Tac) (rg : List Int) (σ : Bst) : List Int × Bst :=
  if t.op = 1 then (sR rg t.d t.n, σ)
  else if t.op = 2 then (sR rg t.d (gR rg t.a), σ)
  else if t.op = 3 then (if (applyW t.k (gR rg t.a) (gR rg t.b)).2 = 0 then (sR rg t.d (applyW t.k (gR rg t.a) (gR rg t.b)).1, σ) else (rg, { σ with en := 2 }))
  else if t.op = 4 then (sR rg t.d (gR σ.ws t.base), σ)
  else if t.op = 5 then (rg, { σ with ws := sR σ.ws t.base (gR rg t.a) })
  else if t.op = 6 then (if gR rg t.a < t.size then (sR rg t.d (gR σ.ws (t.base + gR rg t.a)), σ) else (rg, { σ with en := 3 }))
  else if t.op = 7 then (if gR rg t.a < t.size then (rg, { σ with ws := sR σ.ws (t.base + gR rg t.a) (gR rg t.b) }) else (rg, { σ with en := 3 }))
  else if t.op = 8 then (if σ.rd < inp.size then (sR rg t.d (byteAt inp σ.rd), { σ with rd := σ.rd + 1 }) else (sR rg t.d 256, σ))
  else if t.op = 9 then (if 65536 ≤ σ.out.length then (rg, { σ with en := 4 }) else (rg, { σ with out := σ.out ++ [byteB (gR rg t.a)] }))
  else if t.op = 10 then (rg, call t.base.toNat σ)
  else (rg, σ)

/-- Instructions, one by one, until it ends. -/
def insF (call : Nat → Bst → Bst) (inp : ByteArray) (fuel : Nat) : List Tac → List Int → Bst → List Int × Bst
  | [], rg, σ => (rg, σ)
  | t :: l, rg, σ =>
    if fuel ≤ σ.st then (rg, { σ with en := 5 })
    else if (opF call inp t rg { σ with st := σ.st + 1 }).2.en = 0 then insF call inp fuel l (opF call inp t rg { σ with st := σ.st + 1 }).1 (opF call inp t rg { σ with st := σ.st + 1 }).2
    else opF call inp t rg { σ with st := σ.st + 1 }

/-- Where a block goes on. -/
def goB (k : Bk) (rg : List Int) : Int := if k.e = 2 ∧ gR rg k.v = 0 then k.el else k.to

/-- Blocks, until it ends, or goes back. -/
def blkF (call : Nat → Bst → Bst) (inp : ByteArray) (fuel : Nat) (f : BF) : Nat → Nat → List Int → Bst → Bst
  | 0, _, _, σ => σ
  | g + 1, i, rg, σ =>
    if (insF call inp fuel (f.bks.getD i default).ins rg σ).2.en = 0 then
      (if fuel ≤ (insF call inp fuel (f.bks.getD i default).ins rg σ).2.st then { (insF call inp fuel (f.bks.getD i default).ins rg σ).2 with en := 5 }
      else if (f.bks.getD i default).e = 3 then { (insF call inp fuel (f.bks.getD i default).ins rg σ).2 with st := (insF call inp fuel (f.bks.getD i default).ins rg σ).2.st + 1 }
      else blkF call inp fuel f g (goB (f.bks.getD i default) (insF call inp fuel (f.bks.getD i default).ins rg σ).1).toNat (insF call inp fuel (f.bks.getD i default).ins rg σ).1
        { (insF call inp fuel (f.bks.getD i default).ins rg σ).2 with st := (insF call inp fuel (f.bks.getD i default).ins rg σ).2.st + 1 })
    else (insF call inp fuel (f.bks.getD i default).ins rg σ).2

theorem insF_cons (call : Nat → Bst → Bst) (inp : ByteArray) (fuel : Nat) (t : Tac) (l : List Tac) (rg : List Int) (σ : Bst) : insF call inp fuel (t :: l) rg σ = (if fuel ≤ σ.st then (rg, { σ with en := 5 })
    else if (opF call inp t rg { σ with st := σ.st + 1 }).2.en = 0 then insF call inp fuel l (opF call inp t rg { σ with st := σ.st + 1 }).1 (opF call inp t rg { σ with st := σ.st + 1 }).2
    else opF call inp t rg { σ with st := σ.st + 1 }) := rfl
theorem blkF_succ (call : Nat → Bst → Bst) (inp : ByteArray) (fuel : Nat) (f : BF) (g i : Nat) (rg : List Int) (σ : Bst) : blkF call inp fuel f (g + 1) i rg σ =
    (if (insF call inp fuel (f.bks.getD i default).ins rg σ).2.en = 0 then
      (if fuel ≤ (insF call inp fuel (f.bks.getD i default).ins rg σ).2.st then { (insF call inp fuel (f.bks.getD i default).ins rg σ).2 with en := 5 }
      else if (f.bks.getD i default).e = 3 then { (insF call inp fuel (f.bks.getD i default).ins rg σ).2 with st := (insF call inp fuel (f.bks.getD i default).ins rg σ).2.st + 1 }
      else blkF call inp fuel f g (goB (f.bks.getD i default) (insF call inp fuel (f.bks.getD i default).ins rg σ).1).toNat (insF call inp fuel (f.bks.getD i default).ins rg σ).1
        { (insF call inp fuel (f.bks.getD i default).ins rg σ).2 with st := (insF call inp fuel (f.bks.getD i default).ins rg σ).2.st + 1 })
    else (insF call inp fuel (f.bks.getD i default).ins rg σ).2) := rfl

/-- A function, calls so many deep. -/
def funF (fs : List BF) (inp : ByteArray) (fuel : Nat) : Nat → Nat → Bst → Bst
  | 0, _, σ => σ
  | k + 1, i, σ => blkF (funF fs inp fuel k) inp fuel (fs.getD i default) (fuel + 1) 0 (List.replicate (fs.getD i default).regs.toNat 0) σ

/-- A run's result: how it ended, what was put out, steps. -/
structure BRes where
  en : Int
  out : List UInt8
  st : Nat
deriving Inhabited, DecidableEq
def begB (b : BP) : Bst := ⟨List.replicate b.words.toNat 0, [], 0, 0, 0⟩
def finB (b : BP) (inp : ByteArray) (fuel : Nat) : Bst := funF b.funcs inp fuel b.funcs.length (b.funcs.length - 1) (begB b)
def resB (b : BP) (inp : ByteArray) (fuel : Nat) : BRes := ⟨if (finB b inp fuel).en = 0 then 1 else (finB b inp fuel).en, (finB b inp fuel).out, (finB b inp fuel).st⟩

/-- A state that may be: so many words; steps within the fuel. -/
structure WfB (inp : ByteArray) (fuel : Nat) (n : Nat) (σ : Bst) : Prop where
  n : σ.ws.length = n
  w : ∀ x ∈ σ.ws, In32 x
  o : σ.out.length ≤ 65536
  r : σ.rd ≤ inp.size
  s : σ.st ≤ fuel
structure WfR (m : Nat) (rg : List Int) : Prop where
  n : rg.length = m
  w : ∀ x ∈ rg, In32 x
theorem gR_in {m : Nat} {rg : List Int} (h : WfR m rg) {i : Int} (hi : 0 ≤ i ∧ i < m) : In32 (gR rg i) := h.w _ (mem_getD (by rw [h.n]; omega))
theorem sR_wf {m : Nat} {rg : List Int} (h : WfR m rg) (i : Int) {x : Int} (hx : In32 x) : WfR m (sR rg i x) :=
  ⟨by unfold sR; rw [List.length_set]; exact h.n, fun y hy => by
    rcases List.mem_or_eq_of_mem_set hy with h1 | h1
    · exact h.w y h1
    · rw [h1]; exact hx⟩
theorem sR_in {ws : List Int} (h : ∀ x ∈ ws, In32 x) (i : Int) {x : Int} (hx : In32 x) : ∀ y ∈ sR ws i x, In32 y := fun y hy => by
  rcases List.mem_or_eq_of_mem_set hy with h1 | h1
  · exact h y h1
  · rw [h1]; exact hx
theorem sR_len (ws : List Int) (i x : Int) : (sR ws i x).length = ws.length := by simp [sR]
theorem byteAt_32 (s : ByteArray) (k : Nat) : In32 (byteAt s k) ∧ byteAt s k ≤ 255 := by
  have := (s.data.toList.getD k 0).toNat_lt
  unfold byteAt
  exact ⟨⟨by omega, by omega⟩, by omega⟩
theorem w32_32 (n : Int) : In32 (w32 n) := w32_ok n
theorem applyW_in {op a b : Int} (ha : In32 a) (hb : In32 b) : In32 (applyW op a b).1 := by
  obtain ⟨a1, a2⟩ := ha
  obtain ⟨b1, b2⟩ := hb
  have z : In32 0 := ⟨by omega, by omega⟩
  have o : In32 1 := ⟨by omega, by omega⟩
  unfold applyW
  by_cases h4 : op = 4
  · rw [if_pos h4]
    exact w32_32 _
  rw [if_neg h4]
  by_cases h5 : op = 5
  · rw [if_pos h5]
    exact w32_32 _
  rw [if_neg h5]
  by_cases h6 : op = 6
  · rw [if_pos h6]
    exact w32_32 _
  rw [if_neg h6]
  by_cases h7 : op = 7
  · rw [if_pos h7]
    by_cases hb : b = 0
    · rw [if_pos hb]; exact z
    · rw [if_neg hb]; exact w32_32 _
  rw [if_neg h7]
  by_cases h8 : op = 8
  · rw [if_pos h8]
    by_cases hb : b = 0
    · rw [if_pos hb]; exact z
    · rw [if_neg hb]
      exact ⟨Int.tmod_nonneg _ a1, by have := Int.tmod_lt_of_pos a (show 0 < b by omega); show a.tmod b < _; omega⟩
  rw [if_neg h8]
  by_cases h9 : op = 9
  · rw [if_pos h9]
    exact w32_32 _
  rw [if_neg h9]
  by_cases h10 : op = 10
  · rw [if_pos h10]
    exact w32_32 _
  rw [if_neg h10]
  by_cases h11 : op = 11
  · rw [if_pos h11]
    exact w32_32 _
  rw [if_neg h11]
  by_cases h12 : op = 12
  · rw [if_pos h12]
    show In32 (if 31 < b then 0 else shlW a b)
    by_cases hb : 31 < b
    · rw [if_pos hb]; exact z
    · rw [if_neg hb]; exact w32_32 _
  rw [if_neg h12]
  by_cases h13 : op = 13
  · rw [if_pos h13]
    show In32 (if 31 < b then 0 else shrW a b)
    by_cases hb : 31 < b
    · rw [if_pos hb]; exact z
    · rw [if_neg hb]
      unfold shrW
      have hp : (0 : Int) < 2 ^ (min b.toNat IntKind.u32.bits) := Int.pow_pos (by decide)
      rw [Int.fdiv_eq_ediv_of_nonneg _ (Int.le_of_lt hp)]
      exact ⟨Int.ediv_nonneg a1 (Int.le_of_lt hp), by have := Int.ediv_le_self (2 ^ (min b.toNat IntKind.u32.bits)) a1; omega⟩
  rw [if_neg h13]
  by_cases h14 : op = 14
  · rw [if_pos h14]
    show In32 (if a < b then 1 else 0)
    by_cases hb : a < b
    · rw [if_pos hb]; exact o
    · rw [if_neg hb]; exact z
  rw [if_neg h14]
  by_cases h15 : op = 15
  · rw [if_pos h15]
    show In32 (if a = b then 1 else 0)
    by_cases hb : a = b
    · rw [if_pos hb]; exact o
    · rw [if_neg hb]; exact z
  rw [if_neg h15]
  exact z

/-- Calls of functions below k keep states well, and only take steps. -/
def CallP (inp : ByteArray) (fuel n k : Nat) (call : Nat → Bst → Bst) : Prop := ∀ i < k, ∀ σ, WfB inp fuel n σ → σ.en = 0 → WfB inp fuel n (call i σ) ∧ σ.st ≤ (call i σ).st
theorem opF_wf {call : Nat → Bst → Bst} {inp : ByteArray} {fuel n k m : Nat} {t : Tac} {rg : List Int} {σ : Bst} (hc : CallP inp fuel n k call) (ht : FitsT t k m n) (hn : In32 t.n) (hr : WfR m rg) (hw : WfB inp fuel n σ) (h0 : σ.en = 0) :
    WfR m (opF call inp t rg σ).1 ∧ WfB inp fuel n (opF call inp t rg σ).2 ∧ σ.st ≤ (opF call inp t rg σ).2.st := by
  obtain ⟨op, d, a, b, kk, base, size, nn⟩ := t
  obtain ⟨h1, h2, h3, h4, h5, h6, h7, h8⟩ := ht
  simp only at h1 h2 h3 h4 h5 h6 h7 hn
  obtain ⟨q1, q2, q3, q4, q5⟩ := hw
  have hop : op = 1 ∨ op = 2 ∨ op = 3 ∨ op = 4 ∨ op = 5 ∨ op = 6 ∨ op = 7 ∨ op = 8 ∨ op = 9 ∨ op = 10 := by omega
  rcases hop with rfl | rfl | rfl | rfl | rfl | rfl | rfl | rfl | rfl | rfl
  all_goals simp only [usesL, SetsT, restT, Int.reduceEq, or_false, or_true, false_or, true_or, or_self, if_true, if_false, List.mem_cons, List.not_mem_nil, forall_eq_or_imp, forall_eq, false_implies, implies_true, and_true] at h3 h4 h8
  all_goals simp only [opF, Int.reduceEq, if_true, if_false]
  · exact ⟨sR_wf hr _ hn, ⟨q1, q2, q3, q4, q5⟩, Nat.le_refl _⟩
  · exact ⟨sR_wf hr _ (gR_in hr h4), ⟨q1, q2, q3, q4, q5⟩, Nat.le_refl _⟩
  · split
    · exact ⟨sR_wf hr _ (applyW_in (gR_in hr h4.1) (gR_in hr h4.2)), ⟨q1, q2, q3, q4, q5⟩, Nat.le_refl _⟩
    · exact ⟨hr, ⟨q1, q2, q3, q4, q5⟩, Nat.le_refl _⟩
  · exact ⟨sR_wf hr _ (q2 _ (mem_getD (by omega))), ⟨q1, q2, q3, q4, q5⟩, Nat.le_refl _⟩
  · exact ⟨hr, ⟨(sR_len _ _ _).trans q1, sR_in q2 _ (gR_in hr h4), q3, q4, q5⟩, Nat.le_refl _⟩
  · have := gR_in hr h4
    have g1 := this.1
    split
    · exact ⟨sR_wf hr _ (q2 _ (mem_getD (by omega))), ⟨q1, q2, q3, q4, q5⟩, Nat.le_refl _⟩
    · exact ⟨hr, ⟨q1, q2, q3, q4, q5⟩, Nat.le_refl _⟩
  · split
    · exact ⟨hr, ⟨(sR_len _ _ _).trans q1, sR_in q2 _ (gR_in hr h4.2), q3, q4, q5⟩, Nat.le_refl _⟩
    · exact ⟨hr, ⟨q1, q2, q3, q4, q5⟩, Nat.le_refl _⟩
  · split
    · exact ⟨sR_wf hr _ (byteAt_32 _ _).1, ⟨q1, q2, q3, by show σ.rd + 1 ≤ _; omega, q5⟩, Nat.le_refl _⟩
    · exact ⟨sR_wf hr _ ⟨by omega, by omega⟩, ⟨q1, q2, q3, q4, q5⟩, Nat.le_refl _⟩
  · split
    · exact ⟨hr, ⟨q1, q2, q3, q4, q5⟩, Nat.le_refl _⟩
    · exact ⟨hr, ⟨q1, q2, by simp only [List.length_append, List.length_cons, List.length_nil]; omega, q4, q5⟩, Nat.le_refl _⟩
  · obtain ⟨g1, g2⟩ := hc base.toNat (by omega) σ ⟨q1, q2, q3, q4, q5⟩ h0
    exact ⟨hr, g1, g2⟩

theorem insF_wf {call : Nat → Bst → Bst} {inp : ByteArray} {fuel n k m : Nat} (hc : CallP inp fuel n k call) : ∀ (l : List Tac) (rg : List Int) (σ : Bst), (∀ t ∈ l, FitsT t k m n ∧ In32 t.n) → WfR m rg → WfB inp fuel n σ → σ.en = 0 →
    WfR m (insF call inp fuel l rg σ).1 ∧ WfB inp fuel n (insF call inp fuel l rg σ).2 ∧ σ.st ≤ (insF call inp fuel l rg σ).2.st
  | [], rg, σ, _, hr, hw, _ => ⟨hr, hw, Nat.le_refl _⟩
  | t :: l, rg, σ, ht, hr, hw, h0 => by
    have h1 := ht t (by simp)
    rw [insF_cons]
    by_cases hf : fuel ≤ σ.st
    · rw [if_pos hf]
      exact ⟨hr, ⟨hw.n, hw.w, hw.o, hw.r, hw.s⟩, Nat.le_refl _⟩
    · rw [if_neg hf]
      obtain ⟨a1, a2, a3⟩ := opF_wf hc h1.1 h1.2 hr (σ := { σ with st := σ.st + 1 }) ⟨hw.n, hw.w, hw.o, hw.r, by show σ.st + 1 ≤ fuel; omega⟩ h0
      replace a3 : σ.st + 1 ≤ _ := a3
      split
      · rename_i h2
        obtain ⟨b1, b2, b3⟩ := insF_wf hc l _ _ (fun t ht' => ht t (by simp [ht'])) a1 a2 h2
        exact ⟨b1, b2, by omega⟩
      · exact ⟨a1, a2, by omega⟩
end Go.Proofs.Ytjdeediehmhdoaa
namespace Go.Proofs.Ytjdeediehmhdoaa
set_option linter.unusedSimpArgs false
set_option linter.unusedVariables false
set_option maxRecDepth 10000
open Go.V

theorem flag_c (b : Bool) : Contract Try.prog 67 [B b] (fun r => r = U32 (if b then 1 else 0)) := by
  refine Contract.of_call (VCall.of_body hmix f_scref01_flag (by simp) ?_)
  cases b <;> simp only [go_sem,Nat.reduceEqDiff,Nat.reduceAdd,Nat.reduceMul,↓reduceIte,↓dreduceIte,reduceCtorEq,Nat.reduceLeDiff,Nat.reduceLT,Nat.reduceSub,Int.reduceToNat,Int.reduceLE,Int.reduceLT, c_scref01_flag] <;> exact ⟨_, Frz.pure rfl, by simp⟩

section
variable {α : Type}
theorem obj_get (H : List α) (o : α) (tl : List α) : (H ++ o :: tl)[H.length]? = some o := by simp
theorem obj_get1 (H : List α) (o t : α) (tl : List α) : (H ++ o :: t :: tl)[H.length + 1]? = some t := by
  rw [List.getElem?_append_right (by omega)]; simp
theorem obj_set (H : List α) (o x : α) (tl : List α) : (H ++ o :: tl).set H.length x = H ++ x :: tl := by
  rw [List.set_append_right _ _ (by omega)]; simp
end

theorem bits_v (a : Int) (ha : In32 a) (H : List VObj) (nx : Nat) (C : AV → List VObj → Nat → Prop)
    (hC : ∀ s nx' tl, nx ≤ s → s < nx' → C (.ref H.length s 0 32) (H ++ ⟨s, 3, 1, (bitsN a.toNat 32).map I⟩ :: tl) nx') : VCall Try.prog 68 [U32 a] H nx C := by
  refine VCall.of_body hmix f_scref01_Bits (by simp) ?_
  simp only [go_sem,Nat.reduceEqDiff,Nat.reduceAdd,Nat.reduceMul,↓reduceIte,↓dreduceIte,reduceCtorEq,Nat.reduceLeDiff,Nat.reduceLT,Nat.reduceSub,Int.reduceToNat,Int.reduceLE,Int.reduceLT, c_scref01_Bits]
  have hmx : (2000000 : Nat) ≤ maxLen := by decide
  refine VW_loop (fun q : Nat × Nat × Nat => ⟨[(0, U32 ((a.toNat / 2 ^ q.1 : Nat) : Int)), (3, .ref H.length q.2.1 0 q.1), (4, I q.1)], H ++ [⟨q.2.1, 3, 1, (bitsN a.toNat q.1).map I⟩], q.2.2⟩)
    (fun q => q.1 ≤ 32 ∧ nx ≤ q.2.1 ∧ q.2.1 < q.2.2) (fun q => 32 - q.1) (0, nx, nx + 1)
    (Wk.virt 3 1 (by decide) ?_ ⟨H, rfl, rfl, fun j ob' ho => ⟨ob', ho, rfl, rfl, rfl, rfl, fun _ => rfl, fun i x y hx hy => .inl (by rw [hx] at hy; exact Option.some.inj hy)⟩⟩ rfl) ⟨by simp, Nat.le_refl _, by simp⟩ ?_
  · have := ha.1
    simp [get_cons]; omega
  rintro ⟨k, s, n⟩ ⟨hk, hs, hsn⟩
  simp only at hk hs hsn
  by_cases h1 : k < 32
  case neg =>
    have h1' := eq_false (show ¬ (k : Int) < 32 by omega)
    have : k = 32 := by omega
    subst this
    simp only [go_sem,Nat.reduceEqDiff,Nat.reduceAdd,Nat.reduceMul,↓reduceIte,↓dreduceIte,reduceCtorEq,Nat.reduceLeDiff,Nat.reduceLT,Nat.reduceSub,Int.reduceToNat,Int.reduceLE,Int.reduceLT, h1']
    exact hC s n [] hs hsn
  have h1' := eq_true (show (k : Int) < 32 by omega)
  have hl := bitsN_length a.toNat k
  have hsu : ((a.toNat / 2 ^ (k + 1) : Nat) : Int) = ((a.toNat / 2 ^ k / 2 : Nat) : Int) := by rw [Nat.pow_succ, Nat.div_div_eq_div_mul]
  have hqa : a.toNat / 2 ^ k ≤ a.toNat := Nat.div_le_self _ _
  have hbs := bitsN_succ a.toNat k
  have ha2 := ha.2
  have ha1 := ha.1
  generalize a.toNat / 2 ^ k = q at hsu hqa hbs
  have hw1 : IntKind.i64.wrap ((q : Int).tmod 2) = ((q % 2 : Nat) : Int) := by
    rw [Int.tmod_eq_emod_of_nonneg (by omega), i64_in (by omega) (by omega)]; omega
  have hw2 : IntKind.u32.wrap ((q : Int).tdiv 2) = ((q / 2 : Nat) : Int) := by
    rw [Int.tdiv_eq_ediv_of_nonneg (by omega), w32_in ⟨by omega, by omega⟩]; omega
  simp only [go_sem,Nat.reduceEqDiff,Nat.reduceAdd,Nat.reduceMul,↓reduceIte,↓dreduceIte,reduceCtorEq,Nat.reduceLeDiff,Nat.reduceLT,Nat.reduceSub,Int.reduceToNat,Int.reduceLE,Int.reduceLT, h1', List.append_assoc, obj_get, obj_get1, obj_set, List.length_append, hw1, hw2]
  repeat (refine And.intro (by omega) ?_)
  rw [i64_in (by omega) (by omega)]
  refine ⟨(k + 1, n + 1, n + 1 + 1), ⟨by simp only; omega, by simp only; omega, by simp only; omega⟩, by simp only; omega, Wk.mk (by simp only [hsu]; simp [get_cons]) ⟨[⟨n, 3, 1, [I ((q % 2 : Nat) : Int)]⟩], ?_⟩ (Nat.le_refl _)⟩
  rw [List.take_of_length_le (by simp [hl]), hbs, List.map_append]
  simp

theorem numN_lt : ∀ (l : List Int), (∀ b ∈ l, b = 0 ∨ b = 1) → numN l < 2 ^ l.length
  | [], _ => by simp [numN]
  | b :: l, h => by
    have := numN_lt l fun c hc => h c (by simp [hc])
    have := h b (by simp)
    simp only [numN, List.length_cons, Nat.pow_succ]
    omega

theorem ofN_c (l : List Int) (hl : l.length ≤ 32) (hb : ∀ b ∈ l, b = 0 ∨ b = 1) : ContractN Try.prog 69 [ints l] (fun r => r = U32 ((numN l : Nat) : Int)) := by
  refine ContractN.of_call (VCall.of_body hmix f_scref01_Of (by simp) ?_)
  simp only [go_sem,Nat.reduceEqDiff,Nat.reduceAdd,Nat.reduceMul,↓reduceIte,↓dreduceIte,reduceCtorEq,Nat.reduceLeDiff,Nat.reduceLT,Nat.reduceSub,Int.reduceToNat,Int.reduceLE,Int.reduceLT, c_scref01_Of]
  rw [i64_in (by omega) (by omega)]
  refine VW_loop (fun j : Nat => ⟨[(0, ints l), (3, .val (.int .u64 (numN (l.drop j) : Nat))), (4, I ((j : Int) - 1))], [], 0⟩) (fun j => j ≤ l.length) (fun j => j) l.length
    (Wk.mk (by simp [get_cons, numN]) ⟨[], rfl⟩ (Nat.le_refl _)) (Nat.le_refl _) ?_
  intro j hj
  have hlt := numN_lt (l.drop j) fun b hx => hb b (List.mem_of_mem_drop hx)
  have hp : 2 ^ (l.drop j).length ≤ 2 ^ 32 := Nat.pow_le_pow_right (by omega) (by simp; omega)
  by_cases h1 : j = 0
  · subst h1
    simp only [go_sem,Nat.reduceEqDiff,Nat.reduceAdd,Nat.reduceMul,↓reduceIte,↓dreduceIte,reduceCtorEq,Nat.reduceLeDiff,Nat.reduceLT,Nat.reduceSub,Int.reduceToNat,Int.reduceLE,Int.reduceLT]
    rw [List.drop_zero] at hlt hp
    refine ⟨fun h => by omega, fun _ => ?_⟩
    have hm : IntKind.u32.wrap (((numN l : Nat) : Int).tmod 4294967296) = ((numN l : Nat) : Int) := by
      rw [Int.tmod_eq_emod_of_nonneg (by omega), IntKind.wrap_u32]; omega
    rw [hm]
    exact ⟨by omega, _, FrzN.val, rfl⟩
  · have h1' := eq_true (show (0 : Int) ≤ (j : Int) - 1 by omega)
    have e1 : ((j : Int) - 1).toNat = j - 1 := by omega
    obtain ⟨i, rfl⟩ : ∃ i, j = i + 1 := ⟨j - 1, by omega⟩
    have hi : i < l.length := by omega
    have hd := List.drop_eq_getElem_cons hi
    have hbit := hb l[i] (List.getElem_mem hi)
    have eg : l.getD i default = l[i] := by simp [List.getD, List.getElem?_eq_getElem hi]
    have hlt2 := numN_lt (l.drop (i + 1)) fun b hx => hb b (List.mem_of_mem_drop hx)
    simp only [go_sem,Nat.reduceEqDiff,Nat.reduceAdd,Nat.reduceMul,↓reduceIte,↓dreduceIte,reduceCtorEq,Nat.reduceLeDiff,Nat.reduceLT,Nat.reduceSub,Int.reduceToNat,Int.reduceLE,Int.reduceLT, h1', e1, Nat.add_sub_cancel, eg]
    repeat (refine And.intro (by omega) ?_)
    have hw : IntKind.u64.wrap (IntKind.u64.wrap (2 * ((numN (l.drop (i + 1)) : Nat) : Int)) + IntKind.u64.wrap l[i]) = ((numN (l.drop i) : Nat) : Int) := by
      rw [hd, numN]
      simp only [IntKind.wrap_u64]
      omega
    rw [hw, i64_in (by omega) (by omega)]
    exact ⟨i, by omega, by omega, Wk.mk (by simp [get_cons] <;> omega) ⟨[], rfl⟩ (Nat.le_refl _)⟩

/-- What is left of a word, k places on. -/
def shN (op a : Int) (k : Nat) : Int := if op = 12 then ((a.toNat * 2 ^ k % 4294967296 : Nat) : Int) else ((a.toNat / 2 ^ k : Nat) : Int)

theorem refshift_c (op a b : Int) (ha : In32 a) (hb : In32 b) : Contract Try.prog 66 [I op, U32 a, U32 b] (fun r => r = U32 (if 31 < b then 0 else shN op a b.toNat)) := by
  refine Contract.of_call (VCall.of_body hmix f_scref01_shift (by simp) ?_)
  obtain ⟨ha1, ha2⟩ := ha
  obtain ⟨hb1, hb2⟩ := hb
  by_cases h0 : 32 ≤ b
  · simp only [go_sem,Nat.reduceEqDiff,Nat.reduceAdd,Nat.reduceMul,↓reduceIte,↓dreduceIte,reduceCtorEq,Nat.reduceLeDiff,Nat.reduceLT,Nat.reduceSub,Int.reduceToNat,Int.reduceLE,Int.reduceLT, c_scref01_shift, eq_true h0]
    exact ⟨_, Frz.pure rfl, by rw [if_pos (by omega)]⟩
  simp only [go_sem,Nat.reduceEqDiff,Nat.reduceAdd,Nat.reduceMul,↓reduceIte,↓dreduceIte,reduceCtorEq,Nat.reduceLeDiff,Nat.reduceLT,Nat.reduceSub,Int.reduceToNat,Int.reduceLE,Int.reduceLT, c_scref01_shift, eq_false h0]
  have hshl : ∀ k, shN op a k ≤ 4294967295 ∧ 0 ≤ shN op a k := fun k => by
    unfold shN
    split
    · omega
    · have := Nat.div_le_self a.toNat (2 ^ k)
      generalize a.toNat / 2 ^ k = q at *
      omega
  have hs : ∀ k, shN op a (k + 1) = if op = 12 then (2 * shN op a k) % 4294967296 else shN op a k / 2 := fun k => by
    unfold shN
    by_cases e : op = 12
    · simp only [if_pos e]
      rw [Nat.pow_succ, ← Nat.mul_assoc]
      generalize a.toNat * 2 ^ k = q
      omega
    · simp only [if_neg e]
      rw [Nat.pow_succ, ← Nat.div_div_eq_div_mul]
      generalize a.toNat / 2 ^ k = q
      omega
  have hz : shN op a 0 = a := by unfold shN; split <;> simp <;> omega
  refine VW_loop (fun k : Nat => ⟨[(0, I op), (2, U32 b), (7, .val (.int .u64 (shN op a k))), (8, U32 k)], [], 0⟩) (fun k => k ≤ b.toNat) (fun k => b.toNat - k) 0
    (Wk.mk ?_ ⟨[], rfl⟩ (Nat.le_refl _)) (by omega) ?_
  · have : IntKind.u64.wrap a = a := by rw [IntKind.wrap_u64]; omega
    simp [get_cons, hz, this]
  intro k hk
  have hk1 := hshl k
  by_cases h1 : k < b.toNat
  case neg =>
    have h1' := eq_false (show ¬ (k : Int) < b by omega)
    simp only [go_sem,Nat.reduceEqDiff,Nat.reduceAdd,Nat.reduceMul,↓reduceIte,↓dreduceIte,reduceCtorEq,Nat.reduceLeDiff,Nat.reduceLT,Nat.reduceSub,Int.reduceToNat,Int.reduceLE,Int.reduceLT, h1']
    have : k = b.toNat := by omega
    subst this
    rw [w32_in ⟨hk1.2, by omega⟩]
    exact ⟨_, Frz.pure rfl, by rw [if_neg (by omega)]⟩
  have h1' := eq_true (show (k : Int) < b by omega)
  by_cases e : op = 12
  case pos =>
    simp only [go_sem,Nat.reduceEqDiff,Nat.reduceAdd,Nat.reduceMul,↓reduceIte,↓dreduceIte,reduceCtorEq,Nat.reduceLeDiff,Nat.reduceLT,Nat.reduceSub,Int.reduceToNat,Int.reduceLE,Int.reduceLT, h1', eq_true e]
    have hw : (IntKind.u64.wrap (2 * shN op a k)).tmod 4294967296 = shN op a (k + 1) := by
      rw [hs, if_pos e, IntKind.wrap_u64, Int.tmod_eq_emod_of_nonneg (by omega)]; omega
    refine ⟨by omega, ?_⟩
    rw [hw, w32_in ⟨by omega, by omega⟩]
    exact ⟨k + 1, by omega, by omega, Wk.mk (by simp [get_cons, e]) ⟨[], rfl⟩ (Nat.le_refl _)⟩
  case neg =>
    simp only [go_sem,Nat.reduceEqDiff,Nat.reduceAdd,Nat.reduceMul,↓reduceIte,↓dreduceIte,reduceCtorEq,Nat.reduceLeDiff,Nat.reduceLT,Nat.reduceSub,Int.reduceToNat,Int.reduceLE,Int.reduceLT, h1', eq_false e]
    have hw : IntKind.u64.wrap ((shN op a k).tdiv 2) = shN op a (k + 1) := by
      rw [hs, if_neg e, Int.tdiv_eq_ediv_of_nonneg (by omega), IntKind.wrap_u64]; omega
    refine ⟨by omega, ?_⟩
    rw [hw, w32_in ⟨by omega, by omega⟩]
    exact ⟨k + 1, by omega, by omega, Wk.mk (by simp [get_cons]) ⟨[], rfl⟩ (Nat.le_refl _)⟩

/-- Amid both: k bits of x done, the others a's. -/
def zL (x a k : Nat) : List Int := bitsN x k ++ (bitsN a 32).drop k
theorem zL_length {x a k : Nat} (h : k ≤ 32) : (zL x a k).length = 32 := by simp [zL, bitsN_length]; omega
theorem zL_get {x a k : Nat} (h : k < 32) : (zL x a k).getD k default = ((a / 2 ^ k % 2 : Nat) : Int) := by
  have : (zL x a k).getD k default = (bitsN a 32).getD k default := by
    unfold zL
    simp only [List.getD]
    rw [List.getElem?_append_right (by rw [bitsN_length]; exact Nat.le_refl _), bitsN_length, Nat.sub_self, List.getElem?_drop, Nat.add_zero]
  rw [this, bitsN_get h]
theorem zL_set {x a k : Nat} (h : k < 32) : (zL x a k).set k ((x / 2 ^ k % 2 : Nat) : Int) = zL x a (k + 1) := by
  have hk : k < (bitsN a 32).length := by rw [bitsN_length]; exact h
  unfold zL
  rw [bitsN_succ x k]
  generalize bitsN a 32 = l at hk
  rw [List.set_append_right _ _ (by rw [bitsN_length]; exact Nat.le_refl _), bitsN_length, Nat.sub_self, List.drop_eq_getElem_cons hk, List.set_cons_zero, List.append_assoc]
  rfl

theorem rboth_c (op a b : Int) (ho : op = 9 ∨ op = 10 ∨ op = 11) (ha : In32 a) (hb : In32 b) : Contract Try.prog 65 [I op, U32 a, U32 b] (fun r => r = U32 (applyW op a b).1) := by
  refine Contract.of_call (VCall.of_body hmix f_scref01_both (by simp) ?_)
  simp only [go_sem,Nat.reduceEqDiff,Nat.reduceAdd,Nat.reduceMul,↓reduceIte,↓dreduceIte,reduceCtorEq,Nat.reduceLeDiff,Nat.reduceLT,Nat.reduceSub,Int.reduceToNat,Int.reduceLE,Int.reduceLT, c_scref01_both]
  refine bits_v a ha _ _ _ fun s1 nx1 tl1 hs1 hn1 => ?_
  simp only [go_sem,Nat.reduceEqDiff,Nat.reduceAdd,Nat.reduceMul,↓reduceIte,↓dreduceIte,reduceCtorEq,Nat.reduceLeDiff,Nat.reduceLT,Nat.reduceSub,Int.reduceToNat,Int.reduceLE,Int.reduceLT]
  refine bits_v b hb _ _ _ fun s2 nx2 tl2 hs2 hn2 => ?_
  simp only [go_sem,Nat.reduceEqDiff,Nat.reduceAdd,Nat.reduceMul,↓reduceIte,↓dreduceIte,reduceCtorEq,Nat.reduceLeDiff,Nat.reduceLT,Nat.reduceSub,Int.reduceToNat,Int.reduceLE,Int.reduceLT]
  obtain ⟨_, hin, hbit⟩ := both_bits ha hb ho
  obtain ⟨x, hx⟩ : ∃ x, (applyW op a b).1.toNat = x := ⟨_, rfl⟩
  rw [hx] at hbit
  have hx2 : (applyW op a b).1 = (x : Int) := by have := hin.1; omega
  rw [hx2]
  refine VW_loop (fun k : Nat => ⟨[(0, I op), (7, .ref 0 s1 0 32), (8, ints (bitsN b.toNat 32)), (9, I k)], [⟨s1, 3, 1, (zL x a.toNat k).map I⟩], nx2⟩) (fun k => k ≤ 32) (fun k => 32 - k) 0
    (Wk.give ?_ ?_ (Nat.le_refl _)) (by omega) ?_
  · intro p hp
    simp only [List.mem_cons, List.not_mem_nil, or_false] at hp
    rcases hp with rfl | rfl | rfl | rfl
    · exact .inl rfl
    · exact .inl rfl
    · exact .inr (frz_ints (ty := 3) (by simp) (by simp) (bitsN_length _ _).symm)
    · exact .inl rfl
  · refine ⟨rfl, rfl, rfl, by simp, ?_, by simp [OW]⟩
    simp only [zL, List.drop_zero]
    exact CW.refl _
  intro k hk
  have hzl := zL_length (x := x) (a := a.toNat) hk
  have hbl := bitsN_length b.toNat 32
  by_cases h1 : k < 32
  case neg =>
    have h1' := eq_false (show ¬ (k : Int) < 32 by omega)
    have : k = 32 := by omega
    subst this
    simp only [go_sem,Nat.reduceEqDiff,Nat.reduceAdd,Nat.reduceMul,↓reduceIte,↓dreduceIte,reduceCtorEq,Nat.reduceLeDiff,Nat.reduceLT,Nat.reduceSub,Int.reduceToNat,Int.reduceLE,Int.reduceLT, h1']
    have ez : zL x a.toNat 32 = bitsN x 32 := by simp [zL, bitsN_length]
    rw [ez] at hzl ⊢
    refine VCall.of_contractN (ofN_c (bitsN x 32) (by omega) fun b hb => ?_) ?_ fun r hr => ?_
    · obtain ⟨i, _, rfl⟩ := List.mem_map.1 hb
      have := Nat.mod_two_eq_zero_or_one (x / 2 ^ i)
      omega
    · exact ⟨_, _, rfl, frz_ints (by omega) rfl hzl.symm, rfl⟩
    · subst hr
      simp only [go_sem,Nat.reduceEqDiff,Nat.reduceAdd,Nat.reduceMul,↓reduceIte,↓dreduceIte,reduceCtorEq,Nat.reduceLeDiff,Nat.reduceLT,Nat.reduceSub,Int.reduceToNat,Int.reduceLE,Int.reduceLT]
      refine ⟨_, Frz.pure rfl, ?_⟩
      have := hin.2
      rw [numN_bits, Nat.mod_eq_of_lt (by omega)]
  have h1' := eq_true (show (k : Int) < 32 by omega)
  have g1 := zL_get (x := x) (a := a.toNat) h1
  have g2 := bitsN_get (x := b.toNat) h1
  have hset := zL_set (x := x) (a := a.toNat) h1
  have hb1 := hbit k
  have hxb := Nat.mod_two_eq_zero_or_one (a.toNat / 2 ^ k)
  have hyb := Nat.mod_two_eq_zero_or_one (b.toNat / 2 ^ k)
  generalize a.toNat / 2 ^ k % 2 = u at *
  generalize b.toNat / 2 ^ k % 2 = v at *
  have hw : IntKind.i64.wrap ((u : Int) + (v : Int)) = ((u + v : Nat) : Int) := by rw [i64_in (by omega) (by omega)]; omega
  by_cases hc : (u + v = 2 ∧ op ≠ 11) ∨ (u + v = 1 ∧ op ≠ 9)
  case pos =>
    rw [if_pos hc] at hb1
    rw [hb1] at hset
    have fin : ∀ e, (∀ p ∈ [(0, I op), (7, AV.ref 0 s1 0 32), (8, ints (bitsN b.toNat 32)), (9, I ((k + 1 : Nat) : Int))], get e p.1 = p.2) → ∃ q : Nat, q ≤ 32 ∧ 32 - q < 32 - k ∧ Wk ⟨e, [⟨s1, 3, 1, (((zL x a.toNat k).set k 0).set k 1).map I⟩], nx2⟩ ⟨[(0, I op), (7, .ref 0 s1 0 32), (8, ints (bitsN b.toNat 32)), (9, I q)], [⟨s1, 3, 1, (zL x a.toNat q).map I⟩], nx2⟩ := fun e he =>
      ⟨k + 1, by omega, by omega, Wk.mk he ⟨[], by rw [List.set_set, show (1 : Int) = ((1 : Nat) : Int) from rfl, hset]; simp⟩ (Nat.le_refl _)⟩
    rcases hc with ⟨hc1, hc2⟩ | ⟨hc1, hc2⟩
    · have q1 := eq_true (show (((u + v : Nat) : Int)) = 2 by omega)
      have q2 : (op != 11) = true := by simp [hc2]
      simp only [go_sem,Nat.reduceEqDiff,Nat.reduceAdd,Nat.reduceMul,↓reduceIte,↓dreduceIte,reduceCtorEq,Nat.reduceLeDiff,Nat.reduceLT,Nat.reduceSub,Int.reduceToNat,Int.reduceLE,Int.reduceLT, undef, h1', Int.toNat_natCast, g1, g2, hw, q1, q2, set_map, hzl, List.length_set, List.length_map, hbl]
      repeat (refine And.intro (by omega) ?_)
      rw [i64_in (by omega) (by omega)]
      exact fin _ (by simp [get_cons])
    · have q1 := eq_false (show ¬ (((u + v : Nat) : Int)) = 2 by omega)
      have q3 := eq_true (show (((u + v : Nat) : Int)) = 1 by omega)
      have q2 : (op != 9) = true := by simp [hc2]
      simp only [go_sem,Nat.reduceEqDiff,Nat.reduceAdd,Nat.reduceMul,↓reduceIte,↓dreduceIte,reduceCtorEq,Nat.reduceLeDiff,Nat.reduceLT,Nat.reduceSub,Int.reduceToNat,Int.reduceLE,Int.reduceLT, undef, h1', Int.toNat_natCast, g1, g2, hw, q1, q2, q3, set_map, hzl, List.length_set, List.length_map, hbl]
      repeat (refine And.intro (by omega) ?_)
      rw [i64_in (by omega) (by omega)]
      exact fin _ (by simp [get_cons])
  case neg =>
    rw [if_neg hc] at hb1
    rw [hb1] at hset
    have fin : ∀ e, (∀ p ∈ [(0, I op), (7, AV.ref 0 s1 0 32), (8, ints (bitsN b.toNat 32)), (9, I ((k + 1 : Nat) : Int))], get e p.1 = p.2) → ∃ q : Nat, q ≤ 32 ∧ 32 - q < 32 - k ∧ Wk ⟨e, [⟨s1, 3, 1, ((zL x a.toNat k).set k 0).map I⟩], nx2⟩ ⟨[(0, I op), (7, .ref 0 s1 0 32), (8, ints (bitsN b.toNat 32)), (9, I q)], [⟨s1, 3, 1, (zL x a.toNat q).map I⟩], nx2⟩ := fun e he =>
      ⟨k + 1, by omega, by omega, Wk.mk he ⟨[], by rw [show (0 : Int) = ((0 : Nat) : Int) from rfl, hset]; simp⟩ (Nat.le_refl _)⟩
    have hsum : u + v = 0 ∨ (u + v = 1 ∧ op = 9) ∨ (u + v = 2 ∧ op = 11) := by omega
    rcases hsum with hc1 | ⟨hc1, hc2⟩ | ⟨hc1, hc2⟩
    · have q1 := eq_false (show ¬ (((u + v : Nat) : Int)) = 2 by omega)
      have q3 := eq_false (show ¬ (((u + v : Nat) : Int)) = 1 by omega)
      simp only [go_sem,Nat.reduceEqDiff,Nat.reduceAdd,Nat.reduceMul,↓reduceIte,↓dreduceIte,reduceCtorEq,Nat.reduceLeDiff,Nat.reduceLT,Nat.reduceSub,Int.reduceToNat,Int.reduceLE,Int.reduceLT, undef, h1', Int.toNat_natCast, g1, g2, hw, q1, q3, set_map, hzl, List.length_set, List.length_map, hbl]
      repeat (refine And.intro (by omega) ?_)
      rw [i64_in (by omega) (by omega)]
      exact fin _ (by simp [get_cons])
    · have q1 := eq_false (show ¬ (((u + v : Nat) : Int)) = 2 by omega)
      have q3 := eq_true (show (((u + v : Nat) : Int)) = 1 by omega)
      have q2 : (op != 9) = false := by simp [hc2]
      simp only [go_sem,Nat.reduceEqDiff,Nat.reduceAdd,Nat.reduceMul,↓reduceIte,↓dreduceIte,reduceCtorEq,Nat.reduceLeDiff,Nat.reduceLT,Nat.reduceSub,Int.reduceToNat,Int.reduceLE,Int.reduceLT, undef, h1', Int.toNat_natCast, g1, g2, hw, q1, q2, q3, set_map, hzl, List.length_set, List.length_map, hbl]
      repeat (refine And.intro (by omega) ?_)
      rw [i64_in (by omega) (by omega)]
      exact fin _ (by simp [get_cons])
    · have q1 := eq_true (show (((u + v : Nat) : Int)) = 2 by omega)
      have q3 := eq_false (show ¬ (((u + v : Nat) : Int)) = 1 by omega)
      have q2 : (op != 11) = false := by simp [hc2]
      simp only [go_sem,Nat.reduceEqDiff,Nat.reduceAdd,Nat.reduceMul,↓reduceIte,↓dreduceIte,reduceCtorEq,Nat.reduceLeDiff,Nat.reduceLT,Nat.reduceSub,Int.reduceToNat,Int.reduceLE,Int.reduceLT, undef, h1', Int.toNat_natCast, g1, g2, hw, q1, q2, q3, set_map, hzl, List.length_set, List.length_map, hbl]
      repeat (refine And.intro (by omega) ?_)
      rw [i64_in (by omega) (by omega)]
      exact fin _ (by simp [get_cons])
end Go.Proofs.Ytjdeediehmhdoaa
namespace Go.Proofs.Ytjdeediehmhdoaa
set_option linter.unusedSimpArgs false
set_option linter.unusedVariables false
set_option maxRecDepth 10000
open Go.V

theorem refapply_c (op a b : Int) (ha : In32 a) (hb : In32 b) : Contract Try.prog 63 [I op, U32 a, U32 b] (fun r => r = tup2 (applyW op a b)) := by
  refine Contract.of_call (VCall.of_body hmix f_scref01_Apply (by simp) ?_)
  have ha' := ha
  have hb' := hb
  obtain ⟨ha1, ha2⟩ := ha
  obtain ⟨hb1, hb2⟩ := hb
  have ea : IntKind.u64.wrap a = a := by rw [IntKind.wrap_u64]; omega
  have eb : IntKind.u64.wrap b = b := by rw [IntKind.wrap_u64]; omega
  have hop : op = 4 ∨ op = 5 ∨ op = 6 ∨ op = 7 ∨ op = 8 ∨ op = 9 ∨ op = 10 ∨ op = 11 ∨ op = 12 ∨ op = 13 ∨ op = 14 ∨ op = 15 ∨ (op ≠ 4 ∧ op ≠ 5 ∧ op ≠ 6 ∧ op ≠ 7 ∧ op ≠ 8 ∧ op ≠ 9 ∧ op ≠ 10 ∧ op ≠ 11 ∧ op ≠ 12 ∧ op ≠ 13 ∧ op ≠ 14 ∧ op ≠ 15) := by omega
  rcases hop with rfl | rfl | rfl | rfl | rfl | rfl | rfl | rfl | rfl | rfl | rfl | rfl | ⟨h1, h2, h3, h4, h5, h6, h7, h8, h9, h10, h11, h12⟩
  · simp only [go_sem,Nat.reduceEqDiff,Nat.reduceAdd,Nat.reduceMul,↓reduceIte,↓dreduceIte,reduceCtorEq,Nat.reduceLeDiff,Nat.reduceLT,Nat.reduceSub,Int.reduceToNat,Int.reduceLE,Int.reduceLT, c_scref01_Apply, Int.reduceEq, Int.reduceBEq, ea, eb]
    have e : IntKind.u32.wrap ((IntKind.u64.wrap (a + b)).tmod 4294967296) = w32 (a + b) := by
      rw [IntKind.wrap_u64, Int.tmod_eq_emod_of_nonneg (by omega), IntKind.wrap_u32, w32, IntKind.wrap_u32]; omega
    exact ⟨_, Frz.pure rfl, by rw [e]; rfl⟩
  · simp only [go_sem,Nat.reduceEqDiff,Nat.reduceAdd,Nat.reduceMul,↓reduceIte,↓dreduceIte,reduceCtorEq,Nat.reduceLeDiff,Nat.reduceLT,Nat.reduceSub,Int.reduceToNat,Int.reduceLE,Int.reduceLT, c_scref01_Apply, Int.reduceEq, Int.reduceBEq, ea, eb]
    have e : IntKind.u32.wrap ((IntKind.u64.wrap (IntKind.u64.wrap (a + 4294967296) - b)).tmod 4294967296) = w32 (a - b) := by
      rw [IntKind.wrap_u64, IntKind.wrap_u64, Int.tmod_eq_emod_of_nonneg (by omega), IntKind.wrap_u32, w32, IntKind.wrap_u32]; omega
    exact ⟨_, Frz.pure rfl, by rw [e]; rfl⟩
  · simp only [go_sem,Nat.reduceEqDiff,Nat.reduceAdd,Nat.reduceMul,↓reduceIte,↓dreduceIte,reduceCtorEq,Nat.reduceLeDiff,Nat.reduceLT,Nat.reduceSub,Int.reduceToNat,Int.reduceLE,Int.reduceLT, c_scref01_Apply, Int.reduceEq, Int.reduceBEq, ea, eb]
    have hp := Int.mul_nonneg ha1 hb1
    have e : ∀ p : Int, 0 ≤ p → IntKind.u32.wrap ((IntKind.u64.wrap p).tmod 4294967296) = w32 p := fun p hp => by
      rw [IntKind.wrap_u64, Int.tmod_eq_emod_of_nonneg (by omega), IntKind.wrap_u32, w32, IntKind.wrap_u32]; omega
    exact ⟨_, Frz.pure rfl, by rw [e _ hp]; rfl⟩
  · simp only [go_sem,Nat.reduceEqDiff,Nat.reduceAdd,Nat.reduceMul,↓reduceIte,↓dreduceIte,reduceCtorEq,Nat.reduceLeDiff,Nat.reduceLT,Nat.reduceSub,Int.reduceToNat,Int.reduceLE,Int.reduceLT, c_scref01_Apply, Int.reduceEq, Int.reduceBEq, ea, eb]
    refine ⟨fun h0 => ⟨_, Frz.pure rfl, ?_⟩, fun h0 => ⟨h0, _, Frz.pure rfl, ?_⟩⟩
    · show _ = tup2 (if b = 0 then (0, 14) else _); rw [if_pos h0]
    · show _ = tup2 (if b = 0 then (0, 14) else (IntKind.u32.wrap (a.tdiv b), 0))
      rw [if_neg h0, Int.tdiv_eq_ediv_of_nonneg ha1]
      have h1 : 0 ≤ a / b := Int.ediv_nonneg ha1 hb1
      have h2 : a / b ≤ a := Int.ediv_le_self _ ha1
      rw [IntKind.wrap_u64, show (a / b) % 18446744073709551616 = a / b by omega]
  · simp only [go_sem,Nat.reduceEqDiff,Nat.reduceAdd,Nat.reduceMul,↓reduceIte,↓dreduceIte,reduceCtorEq,Nat.reduceLeDiff,Nat.reduceLT,Nat.reduceSub,Int.reduceToNat,Int.reduceLE,Int.reduceLT, c_scref01_Apply, Int.reduceEq, Int.reduceBEq, ea, eb]
    refine ⟨fun h0 => ⟨_, Frz.pure rfl, ?_⟩, fun h0 => ⟨h0, _, Frz.pure rfl, ?_⟩⟩
    · show _ = tup2 (if b = 0 then (0, 14) else _); rw [if_pos h0]
    · show _ = tup2 (if b = 0 then (0, 14) else (a.tmod b, 0))
      rw [if_neg h0, Int.tmod_eq_emod_of_nonneg ha1]
      have h1 : 0 ≤ a % b := Int.emod_nonneg _ h0
      have h2 : a % b < b := Int.emod_lt_of_pos _ (by omega)
      rw [w32_in ⟨h1, by omega⟩]
  iterate 3
    · simp only [go_sem,Nat.reduceEqDiff,Nat.reduceAdd,Nat.reduceMul,↓reduceIte,↓dreduceIte,reduceCtorEq,Nat.reduceLeDiff,Nat.reduceLT,Nat.reduceSub,Int.reduceToNat,Int.reduceLE,Int.reduceLT, c_scref01_Apply, Int.reduceEq, Int.reduceBEq, ea, eb]
      refine VCall.of_contract (rboth_c _ a b (by simp) ha' hb') (SleL.pure rfl) fun x hx => ?_
      subst hx
      simp only [go_sem,Nat.reduceEqDiff,Nat.reduceAdd,Nat.reduceMul,↓reduceIte,↓dreduceIte,reduceCtorEq,Nat.reduceLeDiff,Nat.reduceLT,Nat.reduceSub,Int.reduceToNat,Int.reduceLE,Int.reduceLT]
      refine ⟨_, Frz.pure rfl, ?_⟩
      have := (both_bits (op := _) ha' hb' (by first | exact .inl rfl | exact .inr (.inl rfl) | exact .inr (.inr rfl))).1
      rfl
  · simp only [go_sem,Nat.reduceEqDiff,Nat.reduceAdd,Nat.reduceMul,↓reduceIte,↓dreduceIte,reduceCtorEq,Nat.reduceLeDiff,Nat.reduceLT,Nat.reduceSub,Int.reduceToNat,Int.reduceLE,Int.reduceLT, c_scref01_Apply, Int.reduceEq, Int.reduceBEq, ea, eb]
    refine VCall.of_contract (refshift_c _ a b ha' hb') (SleL.pure rfl) fun x hx => ?_
    subst hx
    simp only [go_sem,Nat.reduceEqDiff,Nat.reduceAdd,Nat.reduceMul,↓reduceIte,↓dreduceIte,reduceCtorEq,Nat.reduceLeDiff,Nat.reduceLT,Nat.reduceSub,Int.reduceToNat,Int.reduceLE,Int.reduceLT]
    have e : (if 31 < b then 0 else shN 12 a b.toNat) = if 31 < b then 0 else shlW a b := by
      by_cases h : 31 < b
      · rw [if_pos h, if_pos h]
      · rw [if_neg h, if_neg h]
        unfold shlW shN
        rw [if_pos rfl, show min b.toNat IntKind.u32.bits = b.toNat from Nat.min_eq_left (by show b.toNat ≤ 32; omega), w32, IntKind.wrap_u32]
        conv => rhs; rw [show a = ((a.toNat : Nat) : Int) by omega]
        simp
    exact ⟨_, Frz.pure rfl, by rw [e]; rfl⟩
  · simp only [go_sem,Nat.reduceEqDiff,Nat.reduceAdd,Nat.reduceMul,↓reduceIte,↓dreduceIte,reduceCtorEq,Nat.reduceLeDiff,Nat.reduceLT,Nat.reduceSub,Int.reduceToNat,Int.reduceLE,Int.reduceLT, c_scref01_Apply, Int.reduceEq, Int.reduceBEq, ea, eb]
    refine VCall.of_contract (refshift_c _ a b ha' hb') (SleL.pure rfl) fun x hx => ?_
    subst hx
    simp only [go_sem,Nat.reduceEqDiff,Nat.reduceAdd,Nat.reduceMul,↓reduceIte,↓dreduceIte,reduceCtorEq,Nat.reduceLeDiff,Nat.reduceLT,Nat.reduceSub,Int.reduceToNat,Int.reduceLE,Int.reduceLT]
    have e : (if 31 < b then 0 else shN 13 a b.toNat) = if 31 < b then 0 else shrW a b := by
      by_cases h : 31 < b
      · rw [if_pos h, if_pos h]
      · rw [if_neg h, if_neg h]
        unfold shN
        rw [if_neg (by decide)]
        have := shrW_eq ha' b.toNat (by omega)
        rw [show ((b.toNat : Nat) : Int) = b by omega] at this
        rw [this]
    exact ⟨_, Frz.pure rfl, by rw [e]; rfl⟩
  iterate 2
    · simp only [go_sem,Nat.reduceEqDiff,Nat.reduceAdd,Nat.reduceMul,↓reduceIte,↓dreduceIte,reduceCtorEq,Nat.reduceLeDiff,Nat.reduceLT,Nat.reduceSub,Int.reduceToNat,Int.reduceLE,Int.reduceLT, c_scref01_Apply, Int.reduceEq, Int.reduceBEq, ea, eb]
      refine VCall.of_contract (flag_c _) (SleL.pure rfl) fun x hx => ?_
      subst hx
      simp only [go_sem,Nat.reduceEqDiff,Nat.reduceAdd,Nat.reduceMul,↓reduceIte,↓dreduceIte,reduceCtorEq,Nat.reduceLeDiff,Nat.reduceLT,Nat.reduceSub,Int.reduceToNat,Int.reduceLE,Int.reduceLT]
      exact ⟨_, Frz.pure rfl, by simp [applyW, tup2]⟩
  · simp only [go_sem,Nat.reduceEqDiff,Nat.reduceAdd,Nat.reduceMul,↓reduceIte,↓dreduceIte,reduceCtorEq,Nat.reduceLeDiff,Nat.reduceLT,Nat.reduceSub,Int.reduceToNat,Int.reduceLE,Int.reduceLT, c_scref01_Apply, eq_false h1, eq_false h2, eq_false h3, eq_false h4, eq_false h5, eq_false h6, eq_false h7, eq_false h8, eq_false h9, eq_false h10, eq_false h11, eq_false h12]
    exact ⟨_, Frz.pure rfl, by simp [applyW, tup2, h1, h2, h3, h4, h5, h6, h7, h8, h9, h10, h11, h12]⟩
end Go.Proofs.Ytjdeediehmhdoaa
namespace Go.Proofs.Ytjdeediehmhdoaa
set_option linter.unusedSimpArgs false
set_option linter.unusedVariables false
set_option maxRecDepth 10000
open Go.V

section
variable {α : Type}
theorem plen4 (a b c d : α) (T : List α) : (a :: b :: c :: d :: T).length = T.length + 4 := rfl
theorem ponx (T : List α) (x : α) : (T ++ [x]).length = T.length + 1 := by simp
theorem pg0 (T : List α) (x : α) : (T ++ [x])[T.length]? = some x := by simp
theorem pg01 (T : List α) (x y : α) : (T ++ [x] ++ [y])[T.length]? = some x := by simp
theorem pg1 (T : List α) (x y : α) : (T ++ [x] ++ [y])[T.length + 1]? = some y := by simp
theorem ps0 (T : List α) (x y : α) : (T ++ [x]).set T.length y = T ++ [y] := by simp
theorem ps1 (T : List α) (x y z : α) : (T ++ [x] ++ [y]).set (T.length + 1) z = T ++ [x] ++ [z] := by
  rw [List.set_append_right _ _ (by simp)]; simp
end
theorem appK {T : List VObj} {k : Nat} {ob : VObj} (h : T[k]? = some ob) (x : VObj) : (T ++ [x])[k]? = some ob := by
  rw [List.getElem?_append_left (List.getElem?_eq_some_iff.1 h).1]; exact h

/-- What was put out. -/
def POb (T : List VObj) (v : AV) (l : List UInt8) : Prop :=
  (v = nilv ∧ l = []) ∨ ∃ k s, v = .ref (k + 4) s 0 l.length ∧ T[k]? = some ⟨s, 5, 1, l.map U8⟩
/-- All objects stay but what is put out, and one. -/
def KpX (q : Nat) (T T' : List VObj) : Prop := ∀ (k : Nat) (ob : VObj), T[k]? = some ob → ob.ty ≠ 5 → k ≠ q → T'[k]? = some ob
def Kpb (T T' : List VObj) : Prop := ∀ (k : Nat) (ob : VObj), T[k]? = some ob → ob.ty ≠ 5 → T'[k]? = some ob
theorem Kpb.refl (T : List VObj) : Kpb T T := fun _ _ h _ => h
theorem Kpb.add {T : List VObj} (x : VObj) : Kpb T (T ++ [x]) := fun k ob h _ => appK h x
theorem Kpb.trans {T T' T'' : List VObj} (h : Kpb T T') (k : Kpb T' T'') : Kpb T T'' := fun i ob h1 h2 => k i ob (h i ob h1 h2) h2
theorem Kpb.x {T T' : List VObj} (h : Kpb T T') (q : Nat) : KpX q T T' := fun i ob h1 h2 _ => h i ob h1 h2
theorem KpX.trans {q : Nat} {T T' T'' : List VObj} (h : KpX q T T') (k : KpX q T' T'') : KpX q T T'' := fun i ob h1 h2 h3 => k i ob (h i ob h1 h2 h3) h2 h3
theorem KpX.put {T : List VObj} {q : Nat} (ob' : VObj) : KpX q T (T.set q ob') := fun i o h1 h2 h3 => by
  rw [List.getElem?_set, if_neg (fun e => h3 e.symm)]; exact h1
theorem Kpb.put {T : List VObj} {k : Nat} {ob ob' : VObj} (h : T[k]? = some ob) (ht : ob.ty = 5) : Kpb T (T.set k ob') := fun i o h1 h2 => by
  have hne : k ≠ i := fun e => by subst e; rw [h] at h1; cases h1; exact h2 ht
  rw [List.getElem?_set, if_neg hne]; exact h1
theorem POb.add {T : List VObj} {v : AV} {l : List UInt8} (h : POb T v l) (x : VObj) : POb (T ++ [x]) v l := by
  rcases h with h | ⟨k0, s, h1, h2⟩
  · exact .inl h
  · exact .inr ⟨k0, s, h1, appK h2 x⟩
theorem POb.put {T : List VObj} {v : AV} {l : List UInt8} (h : POb T v l) {q : Nat} {ob : VObj} (hq : T[q]? = some ob) (ht : ob.ty ≠ 5) (ob' : VObj) : POb (T.set q ob') v l := by
  rcases h with h | ⟨k0, s, h1, h2⟩
  · exact .inl h
  · refine .inr ⟨k0, s, h1, ?_⟩
    have hne : q ≠ k0 := fun e => by subst e; rw [h2] at hq; cases hq; exact ht rfl
    rw [List.getElem?_set, if_neg hne]; exact h2
theorem POb.one {T : List VObj} {v : AV} {l : List UInt8} (h : POb T v l) : v.one = true := by
  rcases h with ⟨h, _⟩ | ⟨_, _, h, _⟩ <;> rw [h] <;> rfl

theorem sR_sR (l : List Int) (i x y : Int) : sR (sR l i x) i y = sR l i y := by simp [sR]
abbrev fnsB (fs : List BF) : AV := .imm 2 (fs.map bfA)
abbrev hpB (o0 o1 : VObj) (sw sr : Nat) (words : Int) (fs : List BF) (inp : ByteArray) (fuel n : Nat) (vo : AV) (σ : Bst) (T : List VObj) : List VObj :=
  o0 :: o1 :: ⟨sw, 45, 1, σ.ws.map U32⟩ :: ⟨sr, 84, 1, [I words, fnsB fs, strv inp, I fuel, .ref 2 sw 0 n, vo, I σ.rd, I σ.st, I σ.en]⟩ :: T

section
variable (o0 o1 : VObj) (sw sr : Nat) (words : Int) (fs : List BF) (inp : ByteArray) (fuel n : Nat)

/-- Functions below k do what is told. -/
def FunV (k : Nat) : Prop := ∀ i < k, ∀ (σ : Bst), WfB inp fuel n σ → σ.en = 0 → ∀ (T : List VObj) (vo : AV) (nx : Nat) (C : AV → List VObj → Nat → Prop), POb T vo σ.out →
  (∀ T' vo' nx', Kpb T T' → POb T' vo' (funF fs inp fuel k i σ).out → C (.tup []) (hpB o0 o1 sw sr words fs inp fuel n vo' (funF fs inp fuel k i σ) T') nx') →
  VCall Try.prog 46 [.ptr 3 sr 0, I i] (hpB o0 o1 sw sr words fs inp fuel n vo σ T) nx C

theorem step_v (σ : Bst) (hf : fuel ≤ 1000000000) (T : List VObj) (vo : AV) (nx : Nat) (hu : vo.one = true) (C : AV → List VObj → Nat → Prop)
    (hC : C (B (decide (¬ fuel ≤ σ.st))) (hpB o0 o1 sw sr words fs inp fuel n vo (if fuel ≤ σ.st then { σ with en := 5 } else { σ with st := σ.st + 1 }) T) nx) :
    VCall Try.prog 54 [.ptr 3 sr 0] (hpB o0 o1 sw sr words fs inp fuel n vo σ T) nx C := by
  refine VCall.of_body hmix f_scref24_runner_step (by simp) ?_
  by_cases h : fuel ≤ σ.st
  · rw [if_pos h, decide_eq_false (by simp [h])] at hC
    simp only [go_sem,Nat.reduceEqDiff,Nat.reduceAdd,Nat.reduceMul,↓reduceIte,↓dreduceIte,reduceCtorEq,Nat.reduceLeDiff,Nat.reduceLT,Nat.reduceSub,Int.reduceToNat,Int.reduceLE,Int.reduceLT, c_scref24_runner_step, ↓plen4, one_ref, one_imm, hu, eq_true (show (fuel : Int) ≤ (σ.st : Int) by omega)]
    exact hC
  · rw [if_neg h, decide_eq_true h] at hC
    have e1 : IntKind.i64.wrap ((σ.st : Int) + 1) = ((σ.st + 1 : Nat) : Int) := by rw [i64_in (by omega) (by omega)]; omega
    simp only [go_sem,Nat.reduceEqDiff,Nat.reduceAdd,Nat.reduceMul,↓reduceIte,↓dreduceIte,reduceCtorEq,Nat.reduceLeDiff,Nat.reduceLT,Nat.reduceSub,Int.reduceToNat,Int.reduceLE,Int.reduceLT, c_scref24_runner_step, ↓plen4, one_ref, one_imm, hu, e1, eq_false (show ¬ (fuel : Int) ≤ (σ.st : Int) by omega)]
    exact hC

theorem one_v (k m : Nat) (hF : FunV o0 o1 sw sr words fs inp fuel n k) (hi : inp.size ≤ 1000000000) (hn : n ≤ 2000000) (t : Tac) (ht : FitsT t k m n) (htn : In32 t.n) (rg : List Int) (hr : WfR m rg) (σ : Bst) (hw : WfB inp fuel n σ) (h0 : σ.en = 0)
    (T : List VObj) (vo : AV) (q sq nx : Nat) (hq : T[q]? = some ⟨sq, 45, 1, rg.map U32⟩) (hu : POb T vo σ.out) (C : AV → List VObj → Nat → Prop)
    (hC : ∀ T' vo' nx', T'[q]? = some ⟨sq, 45, 1, (opF (funF fs inp fuel k) inp t rg σ).1.map U32⟩ → KpX q T T' → POb T' vo' (opF (funF fs inp fuel k) inp t rg σ).2.out →
      C (.tup []) (hpB o0 o1 sw sr words fs inp fuel n vo' (opF (funF fs inp fuel k) inp t rg σ).2 T') nx') :
    VCall Try.prog 55 [.ptr 3 sr 0, tacA t, .ref (q + 4) sq 0 m] (hpB o0 o1 sw sr words fs inp fuel n vo σ T) nx C := by
  refine VCall.of_body hmix f_scref24_runner_one (by simp) ?_
  obtain ⟨op, d, a, b, kk, base, size, nn⟩ := t
  obtain ⟨h1, h2, h3, h4, h5, h6, h7, h8⟩ := ht
  simp only at h1 h2 h3 h4 h5 h6 h7 htn
  obtain ⟨ws, out, rd, st, en⟩ := σ
  simp only at h0 hu
  subst h0
  have hq1 := fun x => appK hq x
  have hql := (List.getElem?_eq_some_iff.1 hq).1
  have hu1 := hu.one
  obtain ⟨q1, q2, q3, q4, q5⟩ := hw
  simp only at q1 q2 q3 q4 q5
  have hrl := hr.n
  -- what stays when the registers are set
  have regs : ∀ (x : VObj) (cs : List AV) (T' : List VObj), T' = (T ++ [x]).set q ⟨sq, 45, 1, cs⟩ → T'[q]? = some ⟨sq, 45, 1, cs⟩ ∧ KpX q T T' ∧ POb T' vo out := fun x cs T' e => by
    subst e
    refine ⟨?_, ((Kpb.add x).x q).trans (KpX.put _), (hu.add x).put (hq1 x) (by show 45 ≠ 5; decide) _⟩
    rw [List.getElem?_set, if_pos rfl, if_pos (by simp; omega)]
  have hqx : ∀ x y : VObj, ((T ++ [x]).set q y)[T.length]? = some x := fun x y => by rw [List.getElem?_set, if_neg (by omega)]; exact pg0 T x
  have hqy : ∀ x y : VObj, ((T ++ [x]).set q y)[q]? = some y := fun x y => by rw [List.getElem?_set, if_pos rfl, if_pos (by simp; omega)]
  have keep : ∀ (x : VObj), (T ++ [x])[q]? = some ⟨sq, 45, 1, rg.map U32⟩ ∧ KpX q T (T ++ [x]) ∧ POb (T ++ [x]) vo out := fun x => ⟨hq1 x, (Kpb.add x).x q, hu.add x⟩
  have hset : ∀ (l : List Int) (i v : Int), (l.map U32).set i.toNat (U32 v) = (sR l i v).map U32 := fun l i v => set_map U32 _ _ _
  have hop : op = 1 ∨ op = 2 ∨ op = 3 ∨ op = 4 ∨ op = 5 ∨ op = 6 ∨ op = 7 ∨ op = 8 ∨ op = 9 ∨ op = 10 := by omega
  rcases hop with rfl | rfl | rfl | rfl | rfl | rfl | rfl | rfl | rfl | rfl
  all_goals simp only [usesL, SetsT, restT, Int.reduceEq, or_false, or_true, false_or, true_or, or_self, if_true, if_false, List.mem_cons, List.not_mem_nil, forall_eq_or_imp, forall_eq, false_implies, implies_true, and_true] at h3 h4 h8
  · -- const
    simp only [go_sem,Nat.reduceEqDiff,Nat.reduceAdd,Nat.reduceMul,↓reduceIte,↓dreduceIte,reduceCtorEq,Nat.reduceLeDiff,Nat.reduceLT,Nat.reduceSub,Int.reduceToNat,Int.reduceLE,Int.reduceLT, c_scref24_runner_one, ↓plen4, ponx, pg0, ps0, one_ref, one_imm, cellT_U32, hq1, hset, hu1, Int.reduceEq, Int.reduceBEq]
    repeat ((with_reducible refine And.intro ?_ ?_); · first | omega | rfl)
    obtain ⟨r1, r2, r3⟩ := regs _ _ _ rfl
    exact hC _ _ _ r1 r2 r3
  · -- copy
    simp only [go_sem,Nat.reduceEqDiff,Nat.reduceAdd,Nat.reduceMul,↓reduceIte,↓dreduceIte,reduceCtorEq,Nat.reduceLeDiff,Nat.reduceLT,Nat.reduceSub,Int.reduceToNat,Int.reduceLE,Int.reduceLT, c_scref24_runner_one, ↓plen4, ponx, pg0, ps0, pg01, pg1, ps1, one_ref, one_imm, cellT_U32, hq1, hset, hu1, Int.reduceEq, Int.reduceBEq]
    repeat ((with_reducible refine And.intro ?_ ?_); · first | omega | rfl)
    obtain ⟨r1, r2, r3⟩ := regs _ _ _ rfl
    exact hC _ _ _ r1 r2 r3
  · -- op
    have ha := gR_in hr h4.1
    have hb := gR_in hr h4.2
    simp only [go_sem,Nat.reduceEqDiff,Nat.reduceAdd,Nat.reduceMul,↓reduceIte,↓dreduceIte,reduceCtorEq,Nat.reduceLeDiff,Nat.reduceLT,Nat.reduceSub,Int.reduceToNat,Int.reduceLE,Int.reduceLT, c_scref24_runner_one, ↓plen4, ponx, pg0, ps0, pg01, pg1, ps1, one_ref, one_imm, cellT_U32, hq1, hset, hu1, Int.reduceEq, Int.reduceBEq]
    repeat ((with_reducible refine And.intro ?_ ?_); · first | omega | rfl)
    refine ECall.of (refapply_c kk _ _ ha hb) (SleL.pure rfl) ⟨_, fun _ => Iff.rfl⟩ fun x hx => ?_
    subst hx
    by_cases h : (applyW kk (gR rg a) (gR rg b)).2 = 0
    · have hs : opF (funF fs inp fuel k) inp ⟨3, d, a, b, kk, base, size, nn⟩ rg ⟨ws, out, rd, st, 0⟩ = (sR rg d (applyW kk (gR rg a) (gR rg b)).1, ⟨ws, out, rd, st, 0⟩) := by
        show (if (applyW kk (gR rg a) (gR rg b)).2 = 0 then _ else _) = _
        rw [if_pos h]
      rw [hs] at hC
      simp only [go_sem,Nat.reduceEqDiff,Nat.reduceAdd,Nat.reduceMul,↓reduceIte,↓dreduceIte,reduceCtorEq,Nat.reduceLeDiff,Nat.reduceLT,Nat.reduceSub,Int.reduceToNat,Int.reduceLE,Int.reduceLT, ↓plen4, ponx, pg0, ps0, pg01, pg1, ps1, one_ref, one_imm, cellT_U32, hq1, hset, hu1, Int.reduceEq, Int.reduceBEq, h]
      repeat ((with_reducible refine And.intro ?_ ?_); · first | omega | rfl)
      obtain ⟨r1, r2, r3⟩ := regs _ _ _ rfl
      exact hC _ _ _ r1 r2 r3
    · have hs : opF (funF fs inp fuel k) inp ⟨3, d, a, b, kk, base, size, nn⟩ rg ⟨ws, out, rd, st, 0⟩ = (rg, ⟨ws, out, rd, st, 2⟩) := by
        show (if (applyW kk (gR rg a) (gR rg b)).2 = 0 then _ else _) = _
        rw [if_neg h]
      rw [hs] at hC
      simp only [go_sem,Nat.reduceEqDiff,Nat.reduceAdd,Nat.reduceMul,↓reduceIte,↓dreduceIte,reduceCtorEq,Nat.reduceLeDiff,Nat.reduceLT,Nat.reduceSub,Int.reduceToNat,Int.reduceLE,Int.reduceLT, ↓plen4, ponx, pg0, ps0, pg01, pg1, ps1, one_ref, one_imm, cellT_U32, hq1, hset, hu1, Int.reduceEq, Int.reduceBEq, eq_false h]
      repeat ((with_reducible refine And.intro ?_ ?_); · first | omega | rfl)
      obtain ⟨r1, r2, r3⟩ := keep _
      exact hC _ _ _ r1 r2 r3
  · -- load
    simp only [go_sem,Nat.reduceEqDiff,Nat.reduceAdd,Nat.reduceMul,↓reduceIte,↓dreduceIte,reduceCtorEq,Nat.reduceLeDiff,Nat.reduceLT,Nat.reduceSub,Int.reduceToNat,Int.reduceLE,Int.reduceLT, c_scref24_runner_one, ↓plen4, ponx, pg0, ps0, pg01, pg1, ps1, one_ref, one_imm, cellT_U32, hq1, hset, hu1, Int.reduceEq, Int.reduceBEq]
    repeat ((with_reducible refine And.intro ?_ ?_); · first | omega | rfl)
    obtain ⟨r1, r2, r3⟩ := regs _ _ _ rfl
    exact hC _ _ _ r1 r2 r3
  · -- store
    simp only [go_sem,Nat.reduceEqDiff,Nat.reduceAdd,Nat.reduceMul,↓reduceIte,↓dreduceIte,reduceCtorEq,Nat.reduceLeDiff,Nat.reduceLT,Nat.reduceSub,Int.reduceToNat,Int.reduceLE,Int.reduceLT, c_scref24_runner_one, ↓plen4, ponx, pg0, ps0, pg01, pg1, ps1, one_ref, one_imm, cellT_U32, hq1, hset, hu1, Int.reduceEq, Int.reduceBEq]
    repeat ((with_reducible refine And.intro ?_ ?_); · first | omega | rfl)
    obtain ⟨r1, r2, r3⟩ := keep _
    exact hC _ _ _ r1 r2 r3
  · -- aload
    have ha := gR_in hr h4
    have ha1 := ha.1
    have ha2 := ha.2
    have e1 : IntKind.u64.wrap (rg.getD a.toNat default) = gR rg a := by show IntKind.u64.wrap (gR rg a) = _; rw [IntKind.wrap_u64]; omega
    have e2 : IntKind.u64.wrap size = size := by rw [IntKind.wrap_u64]; omega
    have e3 : IntKind.i64.wrap (rg.getD a.toNat default) = gR rg a := i64_in (by show -9223372036854775808 ≤ gR rg a; omega) (by show gR rg a ≤ _; omega)
    by_cases h : gR rg a < size
    · have hs : opF (funF fs inp fuel k) inp ⟨6, d, a, b, kk, base, size, nn⟩ rg ⟨ws, out, rd, st, 0⟩ = (sR rg d (gR ws (base + gR rg a)), ⟨ws, out, rd, st, 0⟩) := by
        show (if gR rg a < size then _ else _) = _
        rw [if_pos h]
      rw [hs] at hC
      simp only [go_sem,Nat.reduceEqDiff,Nat.reduceAdd,Nat.reduceMul,↓reduceIte,↓dreduceIte,reduceCtorEq,Nat.reduceLeDiff,Nat.reduceLT,Nat.reduceSub,Int.reduceToNat,Int.reduceLE,Int.reduceLT, c_scref24_runner_one, ↓plen4, ponx, pg0, ps0, pg01, pg1, ps1, one_ref, one_imm, cellT_U32, hq1, hset, hu1, Int.reduceEq, Int.reduceBEq, e1, e2, e3, i64_in (show -9223372036854775808 ≤ base + gR rg a by omega) (show base + gR rg a ≤ 9223372036854775807 by omega), eq_false (show ¬ size ≤ gR rg a by omega)]
      repeat ((with_reducible refine And.intro ?_ ?_); · first | omega | rfl)
      obtain ⟨r1, r2, r3⟩ := regs _ _ _ rfl
      exact hC _ _ _ r1 r2 r3
    · have hs : opF (funF fs inp fuel k) inp ⟨6, d, a, b, kk, base, size, nn⟩ rg ⟨ws, out, rd, st, 0⟩ = (rg, ⟨ws, out, rd, st, 3⟩) := by
        show (if gR rg a < size then _ else _) = _
        rw [if_neg h]
      rw [hs] at hC
      simp only [go_sem,Nat.reduceEqDiff,Nat.reduceAdd,Nat.reduceMul,↓reduceIte,↓dreduceIte,reduceCtorEq,Nat.reduceLeDiff,Nat.reduceLT,Nat.reduceSub,Int.reduceToNat,Int.reduceLE,Int.reduceLT, c_scref24_runner_one, ↓plen4, ponx, pg0, ps0, pg01, pg1, ps1, one_ref, one_imm, cellT_U32, hq1, hset, hu1, Int.reduceEq, Int.reduceBEq, e1, e2, eq_true (show size ≤ gR rg a by omega)]
      repeat ((with_reducible refine And.intro ?_ ?_); · first | omega | rfl)
      obtain ⟨r1, r2, r3⟩ := keep _
      exact hC _ _ _ r1 r2 r3
  · -- astore
    have ha := gR_in hr h4.1
    have ha1 := ha.1
    have ha2 := ha.2
    have e1 : IntKind.u64.wrap (rg.getD a.toNat default) = gR rg a := by show IntKind.u64.wrap (gR rg a) = _; rw [IntKind.wrap_u64]; omega
    have e2 : IntKind.u64.wrap size = size := by rw [IntKind.wrap_u64]; omega
    have e3 : IntKind.i64.wrap (rg.getD a.toNat default) = gR rg a := i64_in (by show -9223372036854775808 ≤ gR rg a; omega) (by show gR rg a ≤ _; omega)
    by_cases h : gR rg a < size
    · have hs : opF (funF fs inp fuel k) inp ⟨7, d, a, b, kk, base, size, nn⟩ rg ⟨ws, out, rd, st, 0⟩ = (rg, ⟨sR ws (base + gR rg a) (gR rg b), out, rd, st, 0⟩) := by
        show (if gR rg a < size then _ else _) = _
        rw [if_pos h]
      rw [hs] at hC
      simp only [go_sem,Nat.reduceEqDiff,Nat.reduceAdd,Nat.reduceMul,↓reduceIte,↓dreduceIte,reduceCtorEq,Nat.reduceLeDiff,Nat.reduceLT,Nat.reduceSub,Int.reduceToNat,Int.reduceLE,Int.reduceLT, c_scref24_runner_one, ↓plen4, ponx, pg0, ps0, pg01, pg1, ps1, one_ref, one_imm, cellT_U32, hq1, hset, hu1, Int.reduceEq, Int.reduceBEq, e1, e2, e3, i64_in (show -9223372036854775808 ≤ base + gR rg a by omega) (show base + gR rg a ≤ 9223372036854775807 by omega), eq_false (show ¬ size ≤ gR rg a by omega)]
      repeat ((with_reducible refine And.intro ?_ ?_); · first | omega | rfl)
      obtain ⟨r1, r2, r3⟩ := keep _
      exact hC _ _ _ r1 r2 r3
    · have hs : opF (funF fs inp fuel k) inp ⟨7, d, a, b, kk, base, size, nn⟩ rg ⟨ws, out, rd, st, 0⟩ = (rg, ⟨ws, out, rd, st, 3⟩) := by
        show (if gR rg a < size then _ else _) = _
        rw [if_neg h]
      rw [hs] at hC
      simp only [go_sem,Nat.reduceEqDiff,Nat.reduceAdd,Nat.reduceMul,↓reduceIte,↓dreduceIte,reduceCtorEq,Nat.reduceLeDiff,Nat.reduceLT,Nat.reduceSub,Int.reduceToNat,Int.reduceLE,Int.reduceLT, c_scref24_runner_one, ↓plen4, ponx, pg0, ps0, pg01, pg1, ps1, one_ref, one_imm, cellT_U32, hq1, hset, hu1, Int.reduceEq, Int.reduceBEq, e1, e2, eq_true (show size ≤ gR rg a by omega)]
      repeat ((with_reducible refine And.intro ?_ ?_); · first | omega | rfl)
      obtain ⟨r1, r2, r3⟩ := keep _
      exact hC _ _ _ r1 r2 r3
  · -- get
    have e1 : IntKind.i64.wrap ((rd : Int) + 1) = ((rd + 1 : Nat) : Int) := by rw [i64_in (by omega) (by omega)]; omega
    have hb : IntKind.u32.wrap (byteAt inp rd) = byteAt inp rd := w32_in (byteAt_32 _ _).1
    by_cases h : rd < inp.size
    · have hs : opF (funF fs inp fuel k) inp ⟨8, d, a, b, kk, base, size, nn⟩ rg ⟨ws, out, rd, st, 0⟩ = (sR rg d (byteAt inp rd), ⟨ws, out, rd + 1, st, 0⟩) := by
        show (if rd < inp.size then _ else _) = _
        rw [if_pos h]
      rw [hs] at hC
      simp only [go_sem,Nat.reduceEqDiff,Nat.reduceAdd,Nat.reduceMul,↓reduceIte,↓dreduceIte,reduceCtorEq,Nat.reduceLeDiff,Nat.reduceLT,Nat.reduceSub,Int.reduceToNat,Int.reduceLE,Int.reduceLT, c_scref24_runner_one, ↓plen4, ponx, pg0, ps0, pg01, pg1, ps1, one_ref, one_imm, cellT_U32, hq1, hqx, hqy, List.set_set, hset, sR_sR, sR_len, hu1, Int.reduceEq, Int.reduceBEq, e1, hb, eq_true (show (rd : Int) < (inp.size : Int) by omega)]
      repeat ((with_reducible refine And.intro ?_ ?_); · first | omega | rfl)
      exact hC _ _ _ (hqy _ _) (((Kpb.add _).x q).trans (KpX.put _)) ((hu.add _).put (hq1 _) (by show 45 ≠ 5; decide) _)
    · have hs : opF (funF fs inp fuel k) inp ⟨8, d, a, b, kk, base, size, nn⟩ rg ⟨ws, out, rd, st, 0⟩ = (sR rg d 256, ⟨ws, out, rd, st, 0⟩) := by
        show (if rd < inp.size then _ else _) = _
        rw [if_neg h]
      rw [hs] at hC
      simp only [go_sem,Nat.reduceEqDiff,Nat.reduceAdd,Nat.reduceMul,↓reduceIte,↓dreduceIte,reduceCtorEq,Nat.reduceLeDiff,Nat.reduceLT,Nat.reduceSub,Int.reduceToNat,Int.reduceLE,Int.reduceLT, c_scref24_runner_one, ↓plen4, ponx, pg0, ps0, pg01, pg1, ps1, one_ref, one_imm, cellT_U32, hq1, hset, hu1, Int.reduceEq, Int.reduceBEq, eq_false (show ¬ (rd : Int) < (inp.size : Int) by omega)]
      repeat ((with_reducible refine And.intro ?_ ?_); · first | omega | rfl)
      obtain ⟨r1, r2, r3⟩ := regs _ _ _ rfl
      exact hC _ _ _ r1 r2 r3
  · -- put
    have hU8 : (AV.val (.int .u8 (IntKind.u8.wrap (rg.getD a.toNat default)))) = U8 (byteB (gR rg a)) := by
      show AV.val (.int .u8 (IntKind.u8.wrap (gR rg a))) = AV.val (.int .u8 ((byteB (gR rg a)).toNat : Nat))
      rw [byteB_eq]
    by_cases h : 65536 ≤ out.length
    · have hs : opF (funF fs inp fuel k) inp ⟨9, d, a, b, kk, base, size, nn⟩ rg ⟨ws, out, rd, st, 0⟩ = (rg, ⟨ws, out, rd, st, 4⟩) := by
        show (if 65536 ≤ out.length then _ else _) = _
        rw [if_pos h]
      rw [hs] at hC
      rcases hu with ⟨rfl, rfl⟩ | ⟨k0, so, rfl, hT⟩
      · simp at h
      have hT2 : ∀ x : VObj, (T ++ [x])[k0]? = some ⟨so, 5, 1, out.map U8⟩ := fun x => appK hT x
      simp only [go_sem,Nat.reduceEqDiff,Nat.reduceAdd,Nat.reduceMul,↓reduceIte,↓dreduceIte,reduceCtorEq,Nat.reduceLeDiff,Nat.reduceLT,Nat.reduceSub,Int.reduceToNat,Int.reduceLE,Int.reduceLT, c_scref24_runner_one, ↓plen4, ponx, pg0, ps0, pg01, pg1, ps1, one_ref, one_imm, cellT_U32, hq1, hset, hu1, Int.reduceEq, Int.reduceBEq, hT2, eq_true (show (65536 : Int) ≤ (out.length : Int) by omega)]
      repeat ((with_reducible refine And.intro ?_ ?_); · first | omega | rfl)
      exact hC _ _ _ (hq1 _) ((Kpb.add _).x q) (POb.add (.inr ⟨k0, so, rfl, hT⟩) _)
    · have hs : opF (funF fs inp fuel k) inp ⟨9, d, a, b, kk, base, size, nn⟩ rg ⟨ws, out, rd, st, 0⟩ = (rg, ⟨ws, out ++ [byteB (gR rg a)], rd, st, 0⟩) := by
        show (if 65536 ≤ out.length then _ else _) = _
        rw [if_neg h]
      rw [hs] at hC
      have hmx : (2000000 : Nat) ≤ maxLen := by decide
      rcases hu with ⟨rfl, rfl⟩ | ⟨k0, so, rfl, hT⟩
      · simp only [go_sem,Nat.reduceEqDiff,Nat.reduceAdd,Nat.reduceMul,↓reduceIte,↓dreduceIte,reduceCtorEq,Nat.reduceLeDiff,Nat.reduceLT,Nat.reduceSub,Int.reduceToNat,Int.reduceLE,Int.reduceLT, c_scref24_runner_one, ↓plen4, ponx, pg0, ps0, pg01, pg1, ps1, one_ref, one_imm, cellT_U32, hq1, hset, hu1, Int.reduceEq, Int.reduceBEq, hU8]
        repeat ((with_reducible refine And.intro ?_ ?_); · first | omega | rfl)
        refine hC _ _ _ (appK (appK (hq1 _) _) _) ((((Kpb.add _).trans (Kpb.add _)).trans (Kpb.add _)).x q) (.inr ⟨T.length + 1 + 1, nx + 1 + 1, rfl, ?_⟩)
        have : ∀ x y z : VObj, (T ++ [x] ++ [y] ++ [z])[T.length + 1 + 1]? = some z := fun x y z => by
          rw [List.getElem?_append_right (by simp)]; simp
        rw [this]; rfl
      · have hk := (List.getElem?_eq_some_iff.1 hT).1
        have hT2 : ∀ x : VObj, (T ++ [x])[k0]? = some ⟨so, 5, 1, out.map U8⟩ := fun x => appK hT x
        have hT3 : ∀ x y : VObj, (T ++ [x] ++ [y])[k0]? = some ⟨so, 5, 1, out.map U8⟩ := fun x y => appK (appK hT x) y
        simp only [go_sem,Nat.reduceEqDiff,Nat.reduceAdd,Nat.reduceMul,↓reduceIte,↓dreduceIte,reduceCtorEq,Nat.reduceLeDiff,Nat.reduceLT,Nat.reduceSub,Int.reduceToNat,Int.reduceLE,Int.reduceLT, c_scref24_runner_one, ↓plen4, ponx, pg0, ps0, pg01, pg1, ps1, one_ref, one_imm, cellT_U32, hq1, hset, hu1, Int.reduceEq, Int.reduceBEq, hU8, hT2, hT3, eq_false (show ¬ (65536 : Int) ≤ (out.length : Int) by omega)]
        repeat ((with_reducible refine And.intro ?_ ?_); · first | omega | rfl)
        have hne : k0 ≠ q := fun e => by subst e; rw [hT] at hq; cases hq
        refine hC _ _ _ ?_ ((((Kpb.add _).trans (Kpb.add _)).trans (Kpb.put (hT3 _ _) rfl)).x q) (.inr ⟨k0, nx + 1 + 1, by simp, ?_⟩)
        · rw [List.getElem?_set, if_neg hne]; exact appK (hq1 _) _
        · rw [List.getElem?_set, if_pos rfl, if_pos (by simp; omega), List.take_of_length_le (by simp)]
          simp
  · -- call
    obtain ⟨j, rfl⟩ : ∃ j : Nat, base = j := ⟨base.toNat, by omega⟩
    simp only [go_sem,Nat.reduceEqDiff,Nat.reduceAdd,Nat.reduceMul,↓reduceIte,↓dreduceIte,reduceCtorEq,Nat.reduceLeDiff,Nat.reduceLT,Nat.reduceSub,Int.reduceToNat,Int.reduceLE,Int.reduceLT, c_scref24_runner_one, ↓plen4, ponx, pg0, ps0, pg01, pg1, ps1, one_ref, one_imm, cellT_U32, hq1, hset, hu1, Int.reduceEq, Int.reduceBEq]
    repeat ((with_reducible refine And.intro ?_ ?_); · first | omega | rfl)
    refine hF j (by omega) ⟨ws, out, rd, st, 0⟩ ⟨q1, q2, q3, q4, q5⟩ rfl _ vo _ _ (hu.add _) fun T' vo' nx' g1 g2 => ?_
    simp only [go_sem,Nat.reduceEqDiff,Nat.reduceAdd,Nat.reduceMul,↓reduceIte,↓dreduceIte,reduceCtorEq,Nat.reduceLeDiff,Nat.reduceLT,Nat.reduceSub,Int.reduceToNat,Int.reduceLE,Int.reduceLT, ↓plen4, ponx, pg0, ps0, pg01, pg1, ps1, one_ref, one_imm, cellT_U32, hq1, hset, hu1, Int.reduceEq, Int.reduceBEq]
    exact hC _ _ _ (g1 _ _ (hq1 _) (by show 45 ≠ 5; decide)) (((Kpb.add _).trans g1).x q) g2
end
end Go.Proofs.Ytjdeediehmhdoaa
namespace Go.Proofs.Ytjdeediehmhdoaa
set_option linter.unusedSimpArgs false
set_option linter.unusedVariables false
open Go.V

theorem one_parts {f : BF} {number words : Int} (h : oneB f number words = true) : 0 ≤ f.regs ∧ f.regs ≤ 4000 ∧ f.bks ≠ [] ∧ ∀ b ∈ f.bks, EndsP b f.bks.length f.regs ∧ ∀ t ∈ b.ins, FitsT t number f.regs words := by
  unfold oneB at h
  simp only [Bool.and_eq_true, decide_eq_true_eq, List.all_eq_true] at h
  obtain ⟨⟨h1, h2, h3⟩, h4⟩ := h
  refine ⟨h1, h2, h3, fun b hb => ?_⟩
  have h5 := h4 b hb
  unfold blkB endsB insB fitsT at h5
  simp only [Bool.and_eq_true, decide_eq_true_eq, List.all_eq_true] at h5
  exact h5
theorem FitsT.mono {t : Tac} {a b regs words : Int} (h : FitsT t a regs words) (hab : a ≤ b) : FitsT t b regs words := by
  obtain ⟨h1, h2, h3, h4, h5, h6, h7, h8⟩ := h
  refine ⟨h1, h2, h3, h4, h5, h6, h7, ?_⟩
  unfold restT at h8 ⊢
  repeat' split
  all_goals simp_all
  all_goals omega
theorem ends_go {b : Bk} {n r : Int} (h : EndsP b n r) (h3 : b.e ≠ 3) : 0 ≤ b.to ∧ b.to < n ∧ (b.e = 2 → 0 ≤ b.el ∧ b.el < n ∧ 0 ≤ b.v ∧ b.v < r) := by
  unfold EndsP at h
  by_cases h1 : b.e = 1
  · rw [if_pos h1] at h; exact ⟨h.1, h.2.1, fun e => by omega⟩
  · rw [if_neg h1] at h
    by_cases h2 : b.e = 2
    · rw [if_pos h2] at h; exact ⟨h.1, h.2.1, fun _ => ⟨h.2.2.1, h.2.2.2.1, h.2.2.2.2⟩⟩
    · rw [if_neg h2] at h; exact absurd h.1 h3
theorem goB_in {b : Bk} {n r : Int} (h : EndsP b n r) (h3 : b.e ≠ 3) (rg : List Int) : 0 ≤ goB b rg ∧ goB b rg < n := by
  obtain ⟨h1, h2, h4⟩ := ends_go h h3
  unfold goB
  split
  · rename_i h5; have := h4 h5.1; exact ⟨this.1, this.2.1⟩
  · exact ⟨h1, h2⟩

/-- A program's functions, as they may be. -/
structure FnsOk (fs : List BF) (n : Nat) : Prop where
  one : ∀ i < fs.length, oneB (fs.getD i default) i n = true
  len : ∀ f ∈ fs, ∀ b ∈ f.bks, b.ins.length ≤ 140737488355328
  w : ∀ f ∈ fs, ∀ b ∈ f.bks, ∀ t ∈ b.ins, In32 t.n
theorem FnsOk.fit {fs : List BF} {n : Nat} (h : FnsOk fs n) {i : Nat} (hi : i < fs.length) {k : Nat} (hk : i ≤ k) : ∀ b ∈ (fs.getD i default).bks, ∀ t ∈ b.ins, FitsT t k (fs.getD i default).regs n ∧ In32 t.n := fun b hb t ht =>
  ⟨(((one_parts (h.one i hi)).2.2.2 b hb).2 t ht).mono (by omega), h.w _ (mem_getD hi) b hb t ht⟩

/-- Functions below k keep states well. -/
theorem blkF_wf {call : Nat → Bst → Bst} {inp : ByteArray} {fuel n k : Nat} (hc : CallP inp fuel n k call) {f : BF} (hr0 : 0 ≤ f.regs) (hf : ∀ b ∈ f.bks, EndsP b f.bks.length f.regs ∧ ∀ t ∈ b.ins, FitsT t k f.regs n ∧ In32 t.n) :
    ∀ (g i : Nat) (rg : List Int) (σ : Bst), i < f.bks.length → WfR f.regs.toNat rg → WfB inp fuel n σ → σ.en = 0 → WfB inp fuel n (blkF call inp fuel f g i rg σ) ∧ σ.st ≤ (blkF call inp fuel f g i rg σ).st
  | 0, _, _, σ, _, _, hw, _ => ⟨hw, Nat.le_refl _⟩
  | g + 1, i, rg, σ, hi, hr, hw, h0 => by
    have hm : f.bks.getD i default ∈ f.bks := mem_getD hi
    obtain ⟨hE, hT⟩ := hf _ hm
    have hrr : ((f.regs.toNat : Nat) : Int) = f.regs := by omega
    obtain ⟨w1, w2, w3⟩ := insF_wf hc (f.bks.getD i default).ins rg σ (fun t ht => by rw [hrr]; exact hT t ht) hr hw h0
    rw [blkF_succ]
    generalize insF call inp fuel (f.bks.getD i default).ins rg σ = p at *
    split
    · split
      · exact ⟨⟨w2.n, w2.w, w2.o, w2.r, w2.s⟩, w3⟩
      · have hs : WfB inp fuel n { p.2 with st := p.2.st + 1 } := ⟨w2.n, w2.w, w2.o, w2.r, by show p.2.st + 1 ≤ fuel; omega⟩
        split
        · exact ⟨hs, by show σ.st ≤ p.2.st + 1; omega⟩
        · rename_i h1 h2 h3
          have hg := goB_in hE h3 p.1
          obtain ⟨a1, a2⟩ := blkF_wf hc hr0 hf g (goB (f.bks.getD i default) p.1).toNat p.1 { p.2 with st := p.2.st + 1 } (by omega) w1 hs h1
          replace a2 : p.2.st + 1 ≤ _ := a2
          exact ⟨a1, by omega⟩
    · exact ⟨w2, w3⟩
theorem rep_wf (m : Nat) : WfR m (List.replicate m 0) := ⟨by simp, fun x hx => by rw [(List.mem_replicate.1 hx).2]; exact ⟨by omega, by omega⟩⟩
theorem funF_wf {fs : List BF} {inp : ByteArray} {fuel n : Nat} (hf : FnsOk fs n) : ∀ k, k ≤ fs.length → CallP inp fuel n k (funF fs inp fuel k)
  | 0, _ => fun i hi => absurd hi (Nat.not_lt_zero i)
  | k + 1, hk => fun i hi σ hw h0 => by
    have ho := one_parts (hf.one i (by omega))
    exact blkF_wf (funF_wf hf k (by omega)) ho.1 (fun b hb => ⟨(ho.2.2.2 b hb).1, hf.fit (by omega) (by omega) b hb⟩) _ 0 _ σ (List.length_pos_iff.2 ho.2.2.1) (rep_wf _) hw h0

end Go.Proofs.Ytjdeediehmhdoaa
namespace Go.Proofs.Ytjdeediehmhdoaa
set_option linter.unusedSimpArgs false
set_option linter.unusedVariables false
set_option maxRecDepth 10000
open Go.V

structure QI where
  j : Nat
  rg : List Int
  σ : Bst
  T : List VObj
  vo : AV
  nx : Nat
structure QB where
  g : Nat
  i : Nat
  rg : List Int
  σ : Bst
  T : List VObj
  vo : AV
  nx : Nat

section
variable (o0 o1 : VObj) (sw sr : Nat) (words : Int) (fs : List BF) (inp : ByteArray) (fuel n : Nat)

theorem fun_v (hfu : fuel ≤ 1000000000) (hin : inp.size ≤ 1000000000) (hn : n ≤ 2000000) (hfs : FnsOk fs n) : ∀ k, k ≤ fs.length → FunV o0 o1 sw sr words fs inp fuel n k
  | 0, _ => fun i hi => absurd hi (Nat.not_lt_zero i)
  | k + 1, hk => by
    have hF := fun_v hfu hin hn hfs k (by omega)
    have hcp := funF_wf (inp := inp) (fuel := fuel) hfs k (by omega)
    intro i hi σ hw h0 T vo nx C hu hC
    have hil : i < fs.length := by omega
    obtain ⟨f, hf⟩ : ∃ f, fs.getD i default = f := ⟨_, rfl⟩
    have ho := one_parts (hfs.one i hil)
    have hfit := hfs.fit hil (show i ≤ k by omega)
    have hlen := hfs.len _ (mem_getD hil)
    obtain ⟨R, hR⟩ : ∃ R, funF fs inp fuel (k + 1) i σ = R := ⟨_, rfl⟩
    rw [hR] at hC
    unfold funF at hR
    rw [hf] at ho hfit hlen hR
    obtain ⟨r0, r1, r2, hE⟩ := ho
    have hrr : ((f.regs.toNat : Nat) : Int) = f.regs := by omega
    obtain ⟨call, hcall⟩ : ∃ call, funF fs inp fuel k = call := ⟨_, rfl⟩
    rw [hcall] at hR hcp
    have hmx : (2000000 : Nat) ≤ maxLen := by decide
    have hpos := List.length_pos_iff.2 r2
    have hu1 := hu.one
    have hz : (List.replicate f.regs.toNat [AV.val (.int .u32 0)]).flatten = (List.replicate f.regs.toNat (0 : Int)).map U32 := by rw [flat_rep]; simp
    refine VCall.of_body hmix f_scref24_runner_fun (by simp) ?_
    simp only [go_sem,Nat.reduceEqDiff,Nat.reduceAdd,Nat.reduceMul,↓reduceIte,↓dreduceIte,reduceCtorEq,Nat.reduceLeDiff,Nat.reduceLT,Nat.reduceSub,Int.reduceToNat,Int.reduceLE,Int.reduceLT, c_scref24_runner_fun, ↓plen4, ponx, pg0, ps0, one_ref, one_imm, hu1, hf, hz]
    repeat ((with_reducible refine And.intro ?_ ?_); · first | omega | rfl)
    refine VW_loop (fun q : QB => ⟨[(0, .ptr 3 sr 0), (4, .ptr (T.length + 4) nx 0), (5, .ref (T.length + 1 + 4) (nx + 1) 0 f.regs.toNat), (6, I q.i)], hpB o0 o1 sw sr words fs inp fuel n q.vo q.σ q.T, q.nx⟩)
      (fun q => q.i < f.bks.length ∧ WfR f.regs.toNat q.rg ∧ WfB inp fuel n q.σ ∧ q.σ.en = 0 ∧ fuel < q.g + q.σ.st ∧ Kpb T q.T ∧ q.T[T.length]? = some ⟨nx, 24, 1, bfL f⟩ ∧ q.T[T.length + 1]? = some ⟨nx + 1, 45, 1, q.rg.map U32⟩ ∧ POb q.T q.vo q.σ.out ∧
        blkF call inp fuel f q.g q.i q.rg q.σ = R) (fun q => q.g)
      ⟨fuel + 1, 0, List.replicate f.regs.toNat 0, σ, T ++ [⟨nx, 24, 1, bfL f⟩] ++ [⟨nx + 1, 45, 1, (List.replicate f.regs.toNat (0 : Int)).map U32⟩], vo, nx + 2⟩ ?_ ?_ ?_
    · exact Wk.mk (by simp [get_cons]) ⟨[], by simp⟩ (Nat.le_refl _)
    · exact ⟨hpos, rep_wf _, hw, h0, by show fuel < fuel + 1 + σ.st; omega, (Kpb.add _).trans (Kpb.add _), pg01 _ _ _, pg1 _ _ _, (hu.add _).add _, hR⟩
    rintro ⟨g, a, rg, σ, T1, vo1, nx1⟩ ⟨p1, p2, p3, p4, p5, p6, p7, p8, p9, p11⟩
    simp only at p1 p2 p3 p4 p5 p6 p7 p8 p9 p11
    have hfin : ∀ (σ' : Bst) (T' : List VObj) (vo' : AV) (nx' : Nat), σ' = R → Kpb T T' → POb T' vo' σ'.out → C (.tup []) (hpB o0 o1 sw sr words fs inp fuel n vo' σ' T') nx' := fun σ' T' vo' nx' e h1 h2 => by
      subst e; exact hC _ _ _ h1 h2
    obtain ⟨g, rfl⟩ : ∃ g', g = g' + 1 := by
      cases g with
      | zero => have := p3.s; omega
      | succ g => exact ⟨g, rfl⟩
    obtain ⟨bk, hbk⟩ : ∃ bk, f.bks.getD a default = bk := ⟨_, rfl⟩
    have hmb : f.bks.getD a default ∈ f.bks := mem_getD p1
    rw [hbk] at hmb
    have hfb := hfit _ hmb
    have hlb := hlen _ hmb
    have hEb := (hE _ hmb).1
    unfold blkF at p11
    rw [hbk] at p11
    obtain ⟨r, hr⟩ : ∃ r, insF call inp fuel bk.ins rg σ = r := ⟨_, rfl⟩
    rw [hr] at p11
    have hu1 := p9.one
    simp only [go_sem,Nat.reduceEqDiff,Nat.reduceAdd,Nat.reduceMul,↓reduceIte,↓dreduceIte,reduceCtorEq,Nat.reduceLeDiff,Nat.reduceLT,Nat.reduceSub,Int.reduceToNat,Int.reduceLE,Int.reduceLT, ↓plen4, ponx, pg0, ps0, one_ref, one_imm, hu1, p4, appK p7, p7, hbk]
    repeat ((with_reducible refine And.intro ?_ ?_); · first | omega | rfl)
    refine VW_loop (fun q : QI => ⟨[(0, .ptr 3 sr 0), (4, .ptr (T.length + 4) nx 0), (5, .ref (T.length + 1 + 4) (nx + 1) 0 f.regs.toNat), (7, .ptr (T1.length + 4) nx1 0), (8, I q.j)], hpB o0 o1 sw sr words fs inp fuel n q.vo q.σ q.T, q.nx⟩)
      (fun q => q.j ≤ bk.ins.length ∧ WfR f.regs.toNat q.rg ∧ WfB inp fuel n q.σ ∧ q.σ.en = 0 ∧ σ.st ≤ q.σ.st ∧ Kpb T q.T ∧ q.T[T.length]? = some ⟨nx, 24, 1, bfL f⟩ ∧ q.T[T.length + 1]? = some ⟨nx + 1, 45, 1, q.rg.map U32⟩ ∧
        q.T[T1.length]? = some ⟨nx1, 42, 1, bkL bk⟩ ∧ POb q.T q.vo q.σ.out ∧ insF call inp fuel (bk.ins.drop q.j) q.rg q.σ = r) (fun q => bk.ins.length - q.j)
      ⟨0, rg, σ, T1 ++ [⟨nx1, 42, 1, bkL bk⟩], vo1, nx1 + 1⟩ ?_ ?_ ?_
    · exact Wk.mk (by simp [get_cons]) ⟨[], by simp [p4]⟩ (Nat.le_refl _)
    · exact ⟨Nat.zero_le _, p2, p3, p4, Nat.le_refl _, p6.trans (Kpb.add _), appK p7 _, appK p8 _, pg0 _ _, p9.add _, hr⟩
    rintro ⟨j, rg2, σ2, T2, vo2, nx2⟩ ⟨s1, s2, s3, s4, s5, s6, s7, s8, s9, s10, s12⟩
    simp only at s1 s2 s3 s4 s5 s6 s7 s8 s9 s10 s12
    have hu2 := s10.one
    have hl2 := s2.n
    by_cases hjl : j < bk.ins.length
    · have hmt := mem_getD hjl
      obtain ⟨ft1, ft2⟩ := hfb _ hmt
      have hdr : bk.ins.drop j = bk.ins.getD j default :: bk.ins.drop (j + 1) := by
        rw [List.drop_eq_getElem_cons hjl]
        simp [List.getD, List.getElem?_eq_getElem hjl]
      rw [hdr, insF_cons] at s12
      obtain ⟨t, ht⟩ : ∃ t, bk.ins.getD j default = t := ⟨_, rfl⟩
      rw [ht] at ft1 ft2 s12
      simp only [go_sem,Nat.reduceEqDiff,Nat.reduceAdd,Nat.reduceMul,↓reduceIte,↓dreduceIte,reduceCtorEq,Nat.reduceLeDiff,Nat.reduceLT,Nat.reduceSub,Int.reduceToNat,Int.reduceLE,Int.reduceLT, ↓plen4, ponx, pg0, ps0, one_ref, one_imm, cellT_U32, hu2, s9, List.length_map, eq_true (show (j : Int) < bk.ins.length by omega)]
      refine step_v o0 o1 sw sr words fs inp fuel n σ2 hfu T2 vo2 nx2 hu2 _ ?_
      by_cases h1 : fuel ≤ σ2.st
      · rw [if_pos h1] at s12
        rw [if_pos h1, decide_eq_false (by simp [h1])]
        simp only [go_sem,Nat.reduceEqDiff,Nat.reduceAdd,Nat.reduceMul,↓reduceIte,↓dreduceIte,reduceCtorEq,Nat.reduceLeDiff,Nat.reduceLT,Nat.reduceSub,Int.reduceToNat,Int.reduceLE,Int.reduceLT, ↓plen4, ponx, pg0, ps0, one_ref, one_imm, cellT_U32, hu2]
        subst s12
        rw [if_neg (show ¬ ((rg2, ({ σ2 with en := 5 } : Bst)).2.en = 0) by simp)] at p11
        exact hfin _ _ _ _ p11 s6 s10
      rw [if_neg h1] at s12
      rw [if_neg h1, decide_eq_true h1]
      simp only [go_sem,Nat.reduceEqDiff,Nat.reduceAdd,Nat.reduceMul,↓reduceIte,↓dreduceIte,reduceCtorEq,Nat.reduceLeDiff,Nat.reduceLT,Nat.reduceSub,Int.reduceToNat,Int.reduceLE,Int.reduceLT, ↓plen4, ponx, pg0, ps0, one_ref, one_imm, cellT_U32, hu2, s9, List.length_map, ht]
      repeat ((with_reducible refine And.intro ?_ ?_); · first | omega | rfl)
      have w2 : WfB inp fuel n { σ2 with st := σ2.st + 1 } := ⟨s3.n, s3.w, s3.o, s3.r, by show σ2.st + 1 ≤ fuel; omega⟩
      have hop := opF_wf hcp (by rw [hrr]; exact ft1) ft2 s2 w2 s4
      refine one_v o0 o1 sw sr words fs inp fuel n k f.regs.toNat hF hin hn t (by rw [hrr]; exact ft1) ft2 rg2 s2 { σ2 with st := σ2.st + 1 } w2 s4 T2 vo2 (T.length + 1) (nx + 1) nx2 s8 s10 _ fun T3 vo3 nx3 g1 g2 g3 => ?_
      rw [hcall] at g1 g3 ⊢
      obtain ⟨o1', o2', o3'⟩ := hop
      replace o3' : σ2.st + 1 ≤ _ := o3'
      generalize opF call inp t rg2 { σ2 with st := σ2.st + 1 } = p at *
      have hu3 := g3.one
      have kT : Kpb T T3 := fun i ob h1 h2 => g2 i ob (s6 i ob h1 h2) h2 (by have := (List.getElem?_eq_some_iff.1 h1).1; omega)
      by_cases h2 : p.2.en = 0
      · rw [if_pos h2] at s12
        simp only [go_sem,Nat.reduceEqDiff,Nat.reduceAdd,Nat.reduceMul,↓reduceIte,↓dreduceIte,reduceCtorEq,Nat.reduceLeDiff,Nat.reduceLT,Nat.reduceSub,Int.reduceToNat,Int.reduceLE,Int.reduceLT, ↓plen4, ponx, pg0, ps0, one_ref, one_imm, cellT_U32, hu3, h2]
        rw [i64_in (by omega) (by omega)]
        have n1 : T.length ≠ T.length + 1 := by omega
        have n2 : T1.length ≠ T.length + 1 := by
          have := (List.getElem?_eq_some_iff.1 p8).1; omega
        refine ⟨⟨j + 1, p.1, p.2, T3, vo3, nx3⟩, ⟨by simp only; omega, o1', o2', h2, by simp only; omega, kT, g2 _ _ s7 (by show 24 ≠ 5; decide) n1, g1, g2 _ _ s9 (by show 42 ≠ 5; decide) n2, g3, s12⟩, by simp only; omega, Wk.mk (by simp [get_cons]) ⟨[], by simp [h2]⟩ (Nat.le_refl _)⟩
      · rw [if_neg h2] at s12
        simp only [go_sem,Nat.reduceEqDiff,Nat.reduceAdd,Nat.reduceMul,↓reduceIte,↓dreduceIte,reduceCtorEq,Nat.reduceLeDiff,Nat.reduceLT,Nat.reduceSub,Int.reduceToNat,Int.reduceLE,Int.reduceLT, ↓plen4, ponx, pg0, ps0, one_ref, one_imm, cellT_U32, hu3, eq_false h2]
        subst s12
        rw [if_neg h2] at p11
        exact hfin _ _ _ _ p11 kT g3
    · obtain rfl : j = bk.ins.length := by omega
      have hnil : bk.ins.drop bk.ins.length = [] := List.drop_eq_nil_of_le (Nat.le_refl _)
      rw [hnil] at s12
      subst s12
      rw [show insF call inp fuel [] rg2 σ2 = (rg2, σ2) from rfl] at p11
      rw [if_pos s4] at p11
      simp only [go_sem,Nat.reduceEqDiff,Nat.reduceAdd,Nat.reduceMul,↓reduceIte,↓dreduceIte,reduceCtorEq,Nat.reduceLeDiff,Nat.reduceLT,Nat.reduceSub,Int.reduceToNat,Int.reduceLE,Int.reduceLT, ↓plen4, ponx, pg0, ps0, one_ref, one_imm, cellT_U32, hu2, s9, List.length_map, eq_false (show ¬ (bk.ins.length : Int) < (bk.ins.length : Int) by omega)]
      refine step_v o0 o1 sw sr words fs inp fuel n σ2 hfu T2 vo2 nx2 hu2 _ ?_
      by_cases h1 : fuel ≤ σ2.st
      · rw [if_pos h1] at p11
        rw [if_pos h1, decide_eq_false (by simp [h1])]
        simp only [go_sem,Nat.reduceEqDiff,Nat.reduceAdd,Nat.reduceMul,↓reduceIte,↓dreduceIte,reduceCtorEq,Nat.reduceLeDiff,Nat.reduceLT,Nat.reduceSub,Int.reduceToNat,Int.reduceLE,Int.reduceLT, ↓plen4, ponx, pg0, ps0, one_ref, one_imm, cellT_U32, hu2]
        exact hfin _ _ _ _ p11 s6 s10
      rw [if_neg h1] at p11
      rw [if_neg h1, decide_eq_true h1]
      by_cases h2 : bk.e = 3
      · rw [if_pos h2] at p11
        simp only [go_sem,Nat.reduceEqDiff,Nat.reduceAdd,Nat.reduceMul,↓reduceIte,↓dreduceIte,reduceCtorEq,Nat.reduceLeDiff,Nat.reduceLT,Nat.reduceSub,Int.reduceToNat,Int.reduceLE,Int.reduceLT, ↓plen4, ponx, pg0, ps0, one_ref, one_imm, cellT_U32, hu2, s9, h2]
        exact hfin _ _ _ _ p11 s6 s10
      rw [if_neg h2] at p11
      have hgo := goB_in hEb h2 rg2
      have hg := ends_go hEb h2
      have w2 : WfB inp fuel n { σ2 with st := σ2.st + 1 } := ⟨s3.n, s3.w, s3.o, s3.r, by show σ2.st + 1 ≤ fuel; omega⟩
      by_cases h3 : bk.e = 2
      · have hv := (hg.2.2 h3).2.2
        by_cases h4 : gR rg2 bk.v = 0
        · have hgo2 : goB bk rg2 = bk.el := by unfold goB; rw [if_pos ⟨h3, h4⟩]
          rw [hgo2] at hgo p11
          have h4' : rg2.getD bk.v.toNat default = 0 := h4
          simp only [go_sem,Nat.reduceEqDiff,Nat.reduceAdd,Nat.reduceMul,↓reduceIte,↓dreduceIte,reduceCtorEq,Nat.reduceLeDiff,Nat.reduceLT,Nat.reduceSub,Int.reduceToNat,Int.reduceLE,Int.reduceLT, ↓plen4, ponx, pg0, ps0, one_ref, one_imm, cellT_U32, hu2, s9, s8, h3, h4', Int.reduceEq]
          repeat ((with_reducible refine And.intro ?_ ?_); · first | omega | rfl)
          refine ⟨⟨g, bk.el.toNat, rg2, { σ2 with st := σ2.st + 1 }, T2, vo2, nx2⟩, ⟨by simp only; omega, s2, w2, s4, by simp only; omega, s6, s7, s8, s10, p11⟩, by simp only; omega, Wk.mk (by simp [get_cons]; omega) ⟨[], by simp⟩ (Nat.le_refl _)⟩
        · have hgo2 : goB bk rg2 = bk.to := by unfold goB; rw [if_neg (fun e => h4 e.2)]
          rw [hgo2] at hgo p11
          have h4' : ¬ rg2.getD bk.v.toNat default = 0 := h4
          simp only [go_sem,Nat.reduceEqDiff,Nat.reduceAdd,Nat.reduceMul,↓reduceIte,↓dreduceIte,reduceCtorEq,Nat.reduceLeDiff,Nat.reduceLT,Nat.reduceSub,Int.reduceToNat,Int.reduceLE,Int.reduceLT, ↓plen4, ponx, pg0, ps0, one_ref, one_imm, cellT_U32, hu2, s9, s8, h3, eq_false h4', Int.reduceEq]
          repeat ((with_reducible refine And.intro ?_ ?_); · first | omega | rfl)
          refine ⟨⟨g, bk.to.toNat, rg2, { σ2 with st := σ2.st + 1 }, T2, vo2, nx2⟩, ⟨by simp only; omega, s2, w2, s4, by simp only; omega, s6, s7, s8, s10, p11⟩, by simp only; omega, Wk.mk (by simp [get_cons]; omega) ⟨[], by simp⟩ (Nat.le_refl _)⟩
      · have hgo2 : goB bk rg2 = bk.to := by unfold goB; rw [if_neg (fun e => h3 e.1)]
        rw [hgo2] at hgo p11
        simp only [go_sem,Nat.reduceEqDiff,Nat.reduceAdd,Nat.reduceMul,↓reduceIte,↓dreduceIte,reduceCtorEq,Nat.reduceLeDiff,Nat.reduceLT,Nat.reduceSub,Int.reduceToNat,Int.reduceLE,Int.reduceLT, ↓plen4, ponx, pg0, ps0, one_ref, one_imm, cellT_U32, hu2, s9, s8, eq_false h2, eq_false h3, Int.reduceEq]
        refine ⟨⟨g, bk.to.toNat, rg2, { σ2 with st := σ2.st + 1 }, T2, vo2, nx2⟩, ⟨by simp only; omega, s2, w2, s4, by simp only; omega, s6, s7, s8, s10, p11⟩, by simp only; omega, Wk.mk (by simp [get_cons]; omega) ⟨[], by simp⟩ (Nat.le_refl _)⟩
end

/-- A program's run. -/
theorem run24_c (b : BP) (inp : ByteArray) (fuel : Int) (hne : b.funcs ≠ []) (hw : 0 ≤ b.words ∧ b.words ≤ 1048576) (hf : FnsOk b.funcs b.words.toNat) (hl : b.funcs.length ≤ 140737488355328) (hfu : 0 ≤ fuel ∧ fuel ≤ 1000000000) (hin : inp.size ≤ 1000000000) :
    Contract Try.prog 27 [bpA b, strv inp, I fuel] (fun r => r = .agg [I (resB b inp fuel.toNat).en, strv ⟨(resB b inp fuel.toNat).out.toArray⟩, I (resB b inp fuel.toNat).st]) := by
  refine Contract.of_call (VCall.of_body hmix f_scref24_Run (by simp) ?_)
  have hpos := List.length_pos_iff.2 hne
  obtain ⟨fu, rfl⟩ : ∃ fu : Nat, fuel = fu := ⟨fuel.toNat, by omega⟩
  obtain ⟨n, hn⟩ : ∃ n : Nat, b.words = n := ⟨b.words.toNat, by omega⟩
  rw [hn, Int.toNat_natCast] at hf
  rw [Int.toNat_natCast]
  have hz : (List.replicate n [AV.val (.int .u32 0)]).flatten = (List.replicate n (0 : Int)).map U32 := by rw [flat_rep]; simp
  simp only [go_sem,Nat.reduceEqDiff,Nat.reduceAdd,Nat.reduceMul,↓reduceIte,↓dreduceIte,reduceCtorEq,Nat.reduceLeDiff,Nat.reduceLT,Nat.reduceSub,Int.reduceToNat,Int.reduceLE,Int.reduceLT, c_scref24_Run, ↓plen4, one_ref, one_imm, List.length_map, hn, hz, eq_false (show ¬ (b.funcs.length : Int) = 0 by omega), eq_false (show ¬ (fu : Int) < 0 by omega)]
  repeat ((with_reducible refine And.intro ?_ ?_); · first | omega | rfl)
  have hw1 : IntKind.i64.wrap ((b.funcs.length : Int) - 1) = ((b.funcs.length - 1 : Nat) : Int) := by rw [i64_in (by omega) (by omega)]; omega
  rw [hw1]
  have hbeg : begB b = ⟨List.replicate n 0, [], 0, 0, 0⟩ := by unfold begB; rw [hn, Int.toNat_natCast]
  have wb : WfB inp fu n (begB b) := by
    rw [hbeg]
    exact ⟨by simp, (rep_wf n).w, by simp, Nat.zero_le _, Nat.zero_le _⟩
  have wf := funF_wf (inp := inp) (fuel := fu) hf b.funcs.length (Nat.le_refl _) (b.funcs.length - 1) (by omega) (begB b) wb rfl
  have fv := fun_v ⟨0, 58, 1, [I n, fnsB b.funcs]⟩ ⟨1, 54, 1, [I 0, strv ⟨#[]⟩, I 0]⟩ 2 3 n b.funcs inp fu n (by omega) hin (by omega) hf b.funcs.length (Nat.le_refl _) (b.funcs.length - 1) (by omega) (begB b) wb rfl [] nilv 4
  have hfin : finB b inp fu = funF b.funcs inp fu b.funcs.length (b.funcs.length - 1) (begB b) := rfl
  rw [hbeg] at fv wf hfin
  refine fv _ (.inl ⟨rfl, rfl⟩) fun T' vo' nx' g1 g2 => ?_
  have hu := g2.one
  obtain ⟨σ, hσ⟩ : ∃ σ, funF b.funcs inp fu b.funcs.length (b.funcs.length - 1) ⟨List.replicate n 0, [], 0, 0, 0⟩ = σ := ⟨_, rfl⟩
  rw [hσ] at g2 wf hfin ⊢
  have hb2s : ∀ (ob : VObj) (l : List UInt8), (List.map U8 l).take l.length = l.map U8 := fun _ l => List.take_of_length_le (by simp)
  have hres : ∀ (σ' : Bst) (x : ByteArray), x = ⟨σ.out.toArray⟩ → ∀ e : Int, e = (if σ.en = 0 then 1 else σ.en) → ∀ H nx, ∃ y, Frz 0 H nx (.agg [I e, strv x, I σ.st]) y ∧ y = .agg [I (resB b inp fu).en, strv ⟨(resB b inp fu).out.toArray⟩, I (resB b inp fu).st] := fun σ' x hx e he H nx => by
    subst hx; subst he
    exact ⟨_, Frz.pure rfl, by unfold resB; rw [hfin]⟩
  by_cases h : σ.en = 0
  · rcases g2 with ⟨rfl, h2⟩ | ⟨k0, s, rfl, hT⟩
    · simp only [go_sem,Nat.reduceEqDiff,Nat.reduceAdd,Nat.reduceMul,↓reduceIte,↓dreduceIte,reduceCtorEq,Nat.reduceLeDiff,Nat.reduceLT,Nat.reduceSub,Int.reduceToNat,Int.reduceLE,Int.reduceLT, ↓plen4, one_ref, one_imm, h]
      exact hres σ _ (by rw [h2]; rfl) _ (by rw [if_pos h]) _ _
    · simp only [go_sem,Nat.reduceEqDiff,Nat.reduceAdd,Nat.reduceMul,↓reduceIte,↓dreduceIte,reduceCtorEq,Nat.reduceLeDiff,Nat.reduceLT,Nat.reduceSub,Int.reduceToNat,Int.reduceLE,Int.reduceLT, ↓plen4, one_ref, one_imm, h, hT]
      rw [hb2s default]
      simp only [go_sem,Nat.reduceEqDiff,Nat.reduceAdd,Nat.reduceMul,↓reduceIte,↓dreduceIte,reduceCtorEq,Nat.reduceLeDiff,Nat.reduceLT,Nat.reduceSub,Int.reduceToNat,Int.reduceLE,Int.reduceLT, ↓plen4, one_ref, one_imm, b2sT_U8]
      repeat ((with_reducible refine And.intro ?_ ?_); · first | omega | rfl)
      exact hres σ _ rfl _ (by rw [if_pos h]) _ _
  · rcases g2 with ⟨rfl, h2⟩ | ⟨k0, s, rfl, hT⟩
    · simp only [go_sem,Nat.reduceEqDiff,Nat.reduceAdd,Nat.reduceMul,↓reduceIte,↓dreduceIte,reduceCtorEq,Nat.reduceLeDiff,Nat.reduceLT,Nat.reduceSub,Int.reduceToNat,Int.reduceLE,Int.reduceLT, ↓plen4, one_ref, one_imm, eq_false h]
      exact hres σ _ (by rw [h2]; rfl) _ (by rw [if_neg h]) _ _
    · simp only [go_sem,Nat.reduceEqDiff,Nat.reduceAdd,Nat.reduceMul,↓reduceIte,↓dreduceIte,reduceCtorEq,Nat.reduceLeDiff,Nat.reduceLT,Nat.reduceSub,Int.reduceToNat,Int.reduceLE,Int.reduceLT, ↓plen4, one_ref, one_imm, eq_false h, hT]
      rw [hb2s default]
      simp only [go_sem,Nat.reduceEqDiff,Nat.reduceAdd,Nat.reduceMul,↓reduceIte,↓dreduceIte,reduceCtorEq,Nat.reduceLeDiff,Nat.reduceLT,Nat.reduceSub,Int.reduceToNat,Int.reduceLE,Int.reduceLT, ↓plen4, one_ref, one_imm, b2sT_U8]
      repeat ((with_reducible refine And.intro ?_ ?_); · first | omega | rfl)
      exact hres σ _ rfl _ (by rw [if_neg h]) _ _
end Go.Proofs.Ytjdeediehmhdoaa
namespace Go.Proofs.Ytjdeediehmhdoaa
set_option linter.unusedSimpArgs false
set_option linter.unusedVariables false
open Go.V

/-- Two states alike but for steps. -/
structure Eqv (σ τ : Bst) : Prop where
  ws : σ.ws = τ.ws
  out : σ.out = τ.out
  rd : σ.rd = τ.rd
  en : σ.en = τ.en
theorem Eqv.refl (σ : Bst) : Eqv σ σ := ⟨rfl, rfl, rfl, rfl⟩
theorem Eqv.stp {σ τ : Bst} (h : Eqv σ τ) (a b : Nat) : Eqv { σ with st := a } { τ with st := b } := ⟨h.ws, h.out, h.rd, h.en⟩
theorem Eqv.end_ {σ τ : Bst} (h : Eqv σ τ) (e : Int) : Eqv { σ with en := e } { τ with en := e } := ⟨h.ws, h.out, h.rd, rfl⟩

/-- An instruction with other registers. -/
def renT (to : Nat → Nat) (t : Tac) : Tac :=
  { t with d := if SetsT t then (to t.d.toNat : Int) else t.d, a := if (usesL t).length = 0 then t.a else (to t.a.toNat : Int), b := if (usesL t).length = 2 then (to t.b.toNat : Int) else t.b }
/-- Registers agree where they matter. -/
def Agr (to : Nat → Nat) (m : Nat) (M : Nat → Bool) (rg rg' : List Int) : Prop := ∀ u < m, M u = true → rg.getD u default = rg'.getD (to u) default

theorem getD_set (l : List Int) (i j : Nat) (x : Int) (hj : j < l.length) : (l.set i x).getD j default = if i = j then x else l.getD j default := by
  simp only [List.getD]
  rw [List.getElem?_set]
  by_cases h : i = j
  · subst h; simp [hj]
  · rw [if_neg h, if_neg h]

theorem op_sim {call call' : Nat → Bst → Bst} {inp : ByteArray} {t : Tac} {rg rg' : List Int} {σ τ : Bst} {to : Nat → Nat} {m m' : Nat} {M : Nat → Bool} (ht : RegT t m) (hop : 1 ≤ t.op ∧ t.op ≤ 10) (hr : rg.length = m) (hr' : rg'.length = m')
    (hto : ∀ u < m, to u < m') (he : Eqv σ τ) (hc : t.op = 10 → Eqv (call t.base.toNat σ) (call' t.base.toNat τ)) (hd : SetsT t → ∀ u < m, M u = true → u ≠ t.d.toNat → to u ≠ to t.d.toNat) (ha : Agr to m (fun u => bk1 t u (M u)) rg rg') :
    ((opF call inp t rg σ).2.en = 0 → Agr to m M (opF call inp t rg σ).1 (opF call' inp (renT to t) rg' τ).1) ∧ Eqv (opF call inp t rg σ).2 (opF call' inp (renT to t) rg' τ).2 := by
  -- what is read is the same
  have hu : ∀ u ∈ usesL t, gR rg u = gR rg' ((to u.toNat : Nat) : Int) := fun u h => by
    have h1 := ht.1 u h
    have := ha u.toNat (by omega) (by show (if ((u.toNat : Nat) : Int) ∈ usesL t then true else _) = true; rw [if_pos (by rw [Int.toNat_of_nonneg h1.1]; exact h)])
    unfold gR
    rw [Int.toNat_natCast]; exact this
  -- what isn't set stays
  have hst : ∀ u < m, M u = true → (SetsT t → u ≠ t.d.toNat) → rg.getD u default = rg'.getD (to u) default := fun u h1 h2 h3 => by
    refine ha u h1 ?_
    show (if (u : Int) ∈ usesL t then true else if setsL t = (u : Int) then false else M u) = true
    by_cases e : (u : Int) ∈ usesL t
    · rw [if_pos e]
    · rw [if_neg e, if_neg, h2]
      intro e2
      unfold setsL at e2
      by_cases hs : SetsT t
      · rw [if_pos hs] at e2
        have := h3 hs
        omega
      · rw [if_neg hs] at e2; omega
  -- what is set
  have hse : SetsT t → ∀ x : Int, Agr to m M (sR rg t.d x) (sR rg' ((to t.d.toNat : Nat) : Int) x) := fun hs x u h1 h2 => by
    have hd1 := ht.2 hs
    unfold sR
    rw [Int.toNat_natCast, getD_set _ _ _ _ (by omega), getD_set _ _ _ _ (by rw [hr']; exact hto u h1)]
    by_cases e : t.d.toNat = u
    · subst e; rw [if_pos rfl, if_pos rfl]
    · rw [if_neg e, if_neg (fun e2 => hd hs u h1 h2 (fun e3 => e e3.symm) e2.symm)]
      exact hst u h1 h2 (fun _ e3 => e e3.symm)
  have hno : ¬ SetsT t → Agr to m M rg rg' := fun hs u h1 h2 => hst u h1 h2 fun h => absurd h hs
  obtain ⟨op, d, a, b, kk, base, size, nn⟩ := t
  obtain ⟨ws, out, rd, st, en⟩ := σ
  obtain ⟨ws', out', rd', st', en'⟩ := τ
  obtain ⟨e1, e2, e3, e4⟩ := he
  simp only at e1 e2 e3 e4 hop
  subst e1; subst e2; subst e3; subst e4
  have hop : op = 1 ∨ op = 2 ∨ op = 3 ∨ op = 4 ∨ op = 5 ∨ op = 6 ∨ op = 7 ∨ op = 8 ∨ op = 9 ∨ op = 10 := by omega
  rcases hop with rfl | rfl | rfl | rfl | rfl | rfl | rfl | rfl | rfl | rfl
  all_goals simp only [usesL, SetsT, Int.reduceEq, or_false, or_true, false_or, true_or, or_self, if_true, if_false, List.mem_cons, List.not_mem_nil, forall_eq_or_imp, forall_eq, false_implies, implies_true, and_true, forall_const, true_implies, not_false_eq_true, not_true_eq_false, reduceCtorEq] at hu hse hno
  all_goals simp only [opF, renT, usesL, SetsT, Int.reduceEq, or_false, or_true, false_or, true_or, or_self, if_true, if_false, List.length_cons, List.length_nil, Nat.reduceAdd, Nat.reduceEqDiff]
  · exact ⟨fun _ => hse _, ⟨rfl, rfl, rfl, rfl⟩⟩
  · rw [← hu]; exact ⟨fun _ => hse _, ⟨rfl, rfl, rfl, rfl⟩⟩
  · rw [← hu.1, ← hu.2]
    split
    · exact ⟨fun _ => hse _, ⟨rfl, rfl, rfl, rfl⟩⟩
    · exact ⟨fun h => by simp at h, ⟨rfl, rfl, rfl, rfl⟩⟩
  · exact ⟨fun _ => hse _, ⟨rfl, rfl, rfl, rfl⟩⟩
  · rw [← hu]; exact ⟨fun _ => hno, ⟨rfl, rfl, rfl, rfl⟩⟩
  · rw [← hu]
    split
    · exact ⟨fun _ => hse _, ⟨rfl, rfl, rfl, rfl⟩⟩
    · exact ⟨fun h => by simp at h, ⟨rfl, rfl, rfl, rfl⟩⟩
  · rw [← hu.1, ← hu.2]
    split
    · exact ⟨fun _ => hno, ⟨rfl, rfl, rfl, rfl⟩⟩
    · exact ⟨fun h => by simp at h, ⟨rfl, rfl, rfl, rfl⟩⟩
  · split
    · exact ⟨fun _ => hse _, ⟨rfl, rfl, rfl, rfl⟩⟩
    · exact ⟨fun _ => hse _, ⟨rfl, rfl, rfl, rfl⟩⟩
  · rw [← hu]
    split
    · exact ⟨fun h => by simp at h, ⟨rfl, rfl, rfl, rfl⟩⟩
    · exact ⟨fun _ => hno, ⟨rfl, rfl, rfl, rfl⟩⟩
  · exact ⟨fun _ => hno, hc rfl⟩
end Go.Proofs.Ytjdeediehmhdoaa
