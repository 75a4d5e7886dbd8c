/-
  Live registers: the examples, awake. No condition.
-/
import Derived.Test.YtjdeediehmhdoaaBQ
import Derived.Test.YtjdeediehmhdoaaVY
import Derived.Test.YtjdeediehmhdoaaSB
import Derived.Test.YtjdeediehmhdoaaB9
namespace Go.V
theorem Frz.ptr {n : Nat} {H : List VObj} {nx id s : Nat} {ob : VObj} {ys : List AV} (hid : n ≤ id) (ho : H[id]? = some ob) (hs : ob.s = s) (hz : ob.sz ≠ 0) (h : FrzL n H nx ob.cs ys) :
    Frz n H nx (.ptr id s 0) (.ip (.agg ys)) := fun M hR hH hnx v r => by
  subst hH
  simp only [RV] at r
  obtain ⟨hzz, g, hm, rfl⟩ := r.2.2 ob ho hs
  obtain ⟨vs, g1, g2, g3⟩ := hR.cells ho hzz hm 0 ob.cs.length (by omega)
  simp only [List.drop_zero, List.take_length] at g2
  have hrl := h.rl hR rfl hnx g2
  simp only [RV0]
  refine ⟨g, _, .agg vs.toArray, rfl, ⟨.inr ⟨(hR.lt hm).1, (hR.lt hm).2.1⟩, fun j hj e => by have := hR.inj j id g e hm; omega⟩, ⟨vs, rfl, hrl⟩, fun j u hu => ?_⟩
  have := g3 j u (by simpa [Value.cells] using hu)
  simpa using this
end Go.V
namespace Go.Proofs.Ytjdeediehmhdoaa
set_option linter.unusedSimpArgs false
set_option linter.unusedVariables false
set_option maxRecDepth 10000
open Go.V

def exF : BF := ⟨1, [⟨[⟨1, 0, 0, 0, 0, 0, 0, 1⟩, ⟨9, 0, 0, 0, 0, 0, 0, 0⟩], 3, 0, 0, 0⟩]⟩
def exL : LD := ⟨[[false]], [[false]]⟩
def exG : BF := ⟨2, [⟨[⟨1, 0, 0, 0, 0, 0, 0, 1⟩], 1, 0, 1, 0⟩, ⟨[⟨9, 0, 1, 0, 0, 0, 0, 0⟩], 2, 0, 1, 2⟩, ⟨[], 3, 0, 0, 0⟩]⟩
def exM : LD := ⟨[[false, true], [true, true], [false, false]], [[true, true], [true, true], [false, false]]⟩
theorem exF_fine : Fine exF := (small_fine (by decide)).1
theorem exG_fine : Fine exG := (small_fine (by decide)).1
theorem exF_least : Least exF exL := by
  refine ⟨(checkB_iff exF_fine exL).1 (by decide), fun I O h b hb v hv => ?_⟩
  have hb' : b = 0 := by have : exF.n = 1 := rfl; omega
  have hv' : v = 0 := by have : exF.r = 1 := rfl; omega
  subst hb'; subst hv'
  exact ⟨fun e => absurd e (by decide), fun e => absurd e (by decide)⟩
theorem exG_least : Least exG exM := by
  refine ⟨(checkB_iff exG_fine exM).1 (by decide), fun I O h b hb v hv => ?_⟩
  have a10 : I 1 0 = true := h.ahead 1 (by decide) 0 (by decide) (by cases O 1 0 <;> decide)
  have a11 : I 1 1 = true := h.ahead 1 (by decide) 1 (by decide) (by cases O 1 1 <;> decide)
  have o00 : O 0 0 = true := h.way 0 (by decide) 1 (by decide) 0 (by decide) a10
  have o01 : O 0 1 = true := h.way 0 (by decide) 1 (by decide) 1 (by decide) a11
  have o10 : O 1 0 = true := h.way 1 (by decide) 1 (by decide) 0 (by decide) a10
  have o11 : O 1 1 = true := h.way 1 (by decide) 1 (by decide) 1 (by decide) a11
  have a01 : I 0 1 = true := h.ahead 0 (by decide) 1 (by decide) (by rw [o01]; decide)
  have hb' : b = 0 ∨ b = 1 ∨ b = 2 := by have : exG.n = 3 := rfl; omega
  have hv' : v = 0 ∨ v = 1 := by have : exG.r = 2 := rfl; omega
  rcases hb' with rfl | rfl | rfl <;> rcases hv' with rfl | rfl <;>
    refine ⟨fun e => ?_, fun e => ?_⟩ <;> first | assumption | exact absurd e (by decide)

theorem give_all {env env' : List (Nat × AV)} {H : List VObj} {nx : Nat} (he : ∀ p ∈ env', get env p.1 = p.2 ∨ Frz 0 H nx (get env p.1) p.2) : Wk ⟨env, H, nx⟩ ⟨env', [], nx⟩ :=
  Wk.give he (by cases H <;> exact trivial) (Nat.le_refl _)
theorem frz_ins {H : List VObj} {nx id s len : Nat} {ob : VObj} (l : List Tac) (ho : H[id]? = some ob) (hs : ob.s = s) (hz : ob.sz = 8) (hcs : ob.cs = (l.map tacL).flatten) (hl : len = l.length) : Frz 0 H nx (.ref id s 0 len) (inA l) := by
  have h := Frz.refT (n := 0) (nx := nx) (yss := l.map tacL) (zss := l.map tacL) (len := len) (Nat.zero_le _) ho hs hz hcs (by intro q hq; obtain ⟨t, _, rfl⟩ := List.mem_map.1 hq; rfl) (by rw [List.length_map]; exact hl) (FrzLL.pure (by intro q hq; obtain ⟨t, _, rfl⟩ := List.mem_map.1 hq; rfl))
  rw [List.map_map] at h
  exact h
theorem frz_bks {H : List VObj} {nx id s len : Nat} {ob : VObj} (bs : List Bk) (xs : List AV) (hx : xs.length = bs.length) (hf : ∀ i < bs.length, Frz 0 H nx (xs.getD i .dead) (inA (bs.getD i default).ins)) (ho : H[id]? = some ob) (hs : ob.s = s) (hz : ob.sz = 5)
    (hcs : ob.cs = ((xs.zip bs).map fun p => [p.1, I p.2.e, I p.2.v, I p.2.to, I p.2.el]).flatten) (hl : len = bs.length) : Frz 0 H nx (.ref id s 0 len) (bksA bs) := by
  have key : ∀ (xs : List AV) (bs : List Bk), xs.length = bs.length → (∀ i < bs.length, Frz 0 H nx (xs.getD i .dead) (inA (bs.getD i default).ins)) → FrzLL 0 H nx ((xs.zip bs).map fun p => [p.1, I p.2.e, I p.2.v, I p.2.to, I p.2.el]) (bs.map bkL) := by
    intro xs
    induction xs with
    | nil => intro bs h _; cases bs with
      | nil => rfl
      | cons b bs => simp at h
    | cons x xs ih => intro bs h hf; cases bs with
      | nil => simp at h
      | cons b bs =>
        refine ⟨_, _, rfl, ⟨_, _, rfl, hf 0 (by simp), _, _, rfl, Frz.pure rfl, _, _, rfl, Frz.pure rfl, _, _, rfl, Frz.pure rfl, _, _, rfl, Frz.pure rfl, rfl⟩, ih bs (by simpa using h) fun i hi => ?_⟩
        have := hf (i + 1) (by simp; omega)
        simpa using this
  have h := Frz.refT (n := 0) (nx := nx) (len := len) (zss := bs.map bkL) (Nat.zero_le _) ho hs hz hcs (by intro l hl; obtain ⟨p, _, rfl⟩ := List.mem_map.1 hl; rfl) (by rw [List.length_map, List.length_zip, hx, Nat.min_self]; exact hl) (key xs bs hx hf)
  rw [List.map_map] at h
  exact h
theorem frz_rowB {H : List VObj} {nx id s len : Nat} {ob : VObj} (l : List Bool) (ho : H[id]? = some ob) (hs : ob.s = s) (hz : ob.sz = 1) (hcs : ob.cs = l.map B) (hl : len = l.length) : Frz 0 H nx (.ref id s 0 len) (.imm 1 (l.map B)) :=
  Frz.ref (Nat.zero_le _) ho hs hz (by rw [hcs, List.all_eq_true]; intro q hq; obtain ⟨t, _, rfl⟩ := List.mem_map.1 hq; rfl) (by rw [hcs, List.drop_zero, List.take_of_length_le (by simp [hl])]; exact FrzL.pure (by rw [List.all_eq_true]; intro q hq; obtain ⟨t, _, rfl⟩ := List.mem_map.1 hq; rfl))

theorem vals_true {b : Bool} : ∀ r, r = B b → (∃ u, r = .val u) ∨ ∃ us : List Value, r = .agg (us.map .val) := fun r h => .inl ⟨_, h⟩
theorem awake_c : Contract Try.prog 12 [] (fun r => r = B true) := by
  have hq := f_sclaw27_awake
  unfold compF compFp at hq
  refine Contract.of_call (VCall.of_bodyS (pt := false) (pf := false) hmix hq (by simp) ?_)
  simp only [go_sem,Nat.reduceEqDiff,Nat.reduceAdd,Nat.reduceMul,↓reduceIte,↓dreduceIte,reduceCtorEq,Nat.reduceLeDiff,Nat.reduceLT,Nat.reduceSub,Int.reduceToNat,Int.reduceLE,Int.reduceLT, c_sclaw27_awake, VWs_seq, VWs_ret, VWs_ops, VWs_cond]
  refine ⟨⟨[(0, B false)], [], 0⟩, Wk.mk (by simp [get_cons]) ⟨[], by simp⟩ (Nat.le_refl _), ?_⟩
  simp only [go_sem,Nat.reduceEqDiff,Nat.reduceAdd,Nat.reduceMul,↓reduceIte,↓dreduceIte,reduceCtorEq,Nat.reduceLeDiff,Nat.reduceLT,Nat.reduceSub,Int.reduceToNat,Int.reduceLE,Int.reduceLT, VWs_seq, VWs_ret, VWs_ops, VWs_cond, one_imm, one_ref]
  refine ⟨⟨[(1, .ip (.agg (bfL exF))), (0, B false)], [], 3⟩, give_all fun p hp => ?_, ?_⟩
  · simp only [List.mem_cons, List.not_mem_nil, or_false] at hp
    rcases hp with rfl | rfl
    · right
      refine Frz.ptr (id := 2) (Nat.zero_le _) rfl rfl (by decide) ⟨_, _, rfl, Frz.pure rfl, _, _, rfl, frz_bks exF.bks [.ref 0 0 0 2] rfl ?_ rfl rfl rfl rfl rfl, rfl⟩
      intro i hi
      have : i = 0 := by have : exF.bks.length = 1 := rfl; omega
      subst this
      exact frz_ins _ rfl rfl rfl rfl rfl
    · left; rfl
  simp only [go_sem,Nat.reduceEqDiff,Nat.reduceAdd,Nat.reduceMul,↓reduceIte,↓dreduceIte,reduceCtorEq,Nat.reduceLeDiff,Nat.reduceLT,Nat.reduceSub,Int.reduceToNat,Int.reduceLE,Int.reduceLT, VWs_seq, VWs_ret, VWs_ops, VWs_cond, one_imm, one_ref]
  refine VCall.of_contract (live_of_c exF exF_fine (by decide) exL exF_least) (SleL.pure rfl) fun x hx => ?_
  subst hx
  simp only [go_sem,Nat.reduceEqDiff,Nat.reduceAdd,Nat.reduceMul,↓reduceIte,↓dreduceIte,reduceCtorEq,Nat.reduceLeDiff,Nat.reduceLT,Nat.reduceSub,Int.reduceToNat,Int.reduceLE,Int.reduceLT, VWs_seq, VWs_ret, VWs_ops, VWs_cond, one_imm, one_ref]
  refine ⟨⟨[(1, .ip (.agg (bfL exF))), (2, .ip (liveA exL)), (0, B false)], [], 4⟩, give_all fun p hp => ?_, ?_⟩
  · simp only [List.mem_cons, List.not_mem_nil, or_false] at hp
    rcases hp with rfl | rfl | rfl
    · left; rfl
    · right
      exact Frz.ptr (id := 0) (Nat.zero_le _) rfl rfl (by decide) (FrzL.pure rfl)
    · left; rfl
  simp only [go_sem,Nat.reduceEqDiff,Nat.reduceAdd,Nat.reduceMul,↓reduceIte,↓dreduceIte,reduceCtorEq,Nat.reduceLeDiff,Nat.reduceLT,Nat.reduceSub,Int.reduceToNat,Int.reduceLE,Int.reduceLT, VWs_seq, VWs_ret, VWs_ops, VWs_cond, one_imm, one_ref]
  refine VCall.of_contract (behind_c exF exL 0 exF_fine (by decide) (by decide) rfl) (SleL.pure rfl) fun x hx => ?_
  subst hx
  simp only [go_sem,Nat.reduceEqDiff,Nat.reduceAdd,Nat.reduceMul,↓reduceIte,↓dreduceIte,reduceCtorEq,Nat.reduceLeDiff,Nat.reduceLT,Nat.reduceSub,Int.reduceToNat,Int.reduceLE,Int.reduceLT, VWs_seq, VWs_ret, VWs_ops, VWs_cond, one_imm, one_ref]
  refine ⟨⟨[(1, .ip (.agg (bfL exF))), (2, .ip (liveA exL)), (3, rowsA [[true], [false]]), (0, B false)], [], 4⟩, give_all fun p hp => ?_, ?_⟩
  · simp only [List.mem_cons, List.not_mem_nil, or_false] at hp
    rcases hp with rfl | rfl | rfl | rfl <;> left <;> rfl
  simp only [go_sem,Nat.reduceEqDiff,Nat.reduceAdd,Nat.reduceMul,↓reduceIte,↓dreduceIte,reduceCtorEq,Nat.reduceLeDiff,Nat.reduceLT,Nat.reduceSub,Int.reduceToNat,Int.reduceLE,Int.reduceLT, VWs_seq, VWs_ret, VWs_ops, VWs_cond, one_imm, one_ref]
  refine ⟨⟨[(4, .ip (.agg (bfL exG))), (1, .ip (.agg (bfL exF))), (2, .ip (liveA exL)), (3, rowsA [[true], [false]]), (0, B false)], [], 8⟩, give_all fun p hp => ?_, ?_⟩
  · simp only [List.mem_cons, List.not_mem_nil, or_false] at hp
    rcases hp with rfl | rfl | rfl | rfl | rfl
    · right
      refine Frz.ptr (id := 3) (Nat.zero_le _) rfl rfl (by decide) ⟨_, _, rfl, Frz.pure rfl, _, _, rfl, frz_bks exG.bks [.ref 0 4 0 1, .ref 1 5 0 1, nilv] rfl ?_ rfl rfl rfl rfl rfl, rfl⟩
      intro i hi
      have : i = 0 ∨ i = 1 ∨ i = 2 := by have : exG.bks.length = 3 := rfl; omega
      rcases this with rfl | rfl | rfl
      · exact frz_ins _ rfl rfl rfl rfl rfl
      · exact frz_ins _ rfl rfl rfl rfl rfl
      · exact Frz.nil 8
    all_goals left; rfl
  simp only [go_sem,Nat.reduceEqDiff,Nat.reduceAdd,Nat.reduceMul,↓reduceIte,↓dreduceIte,reduceCtorEq,Nat.reduceLeDiff,Nat.reduceLT,Nat.reduceSub,Int.reduceToNat,Int.reduceLE,Int.reduceLT, VWs_seq, VWs_ret, VWs_ops, VWs_cond, one_imm, one_ref]
  refine VCall.of_contract (live_of_c exG exG_fine (by decide) exM exG_least) (SleL.pure rfl) fun x hx => ?_
  subst hx
  simp only [go_sem,Nat.reduceEqDiff,Nat.reduceAdd,Nat.reduceMul,↓reduceIte,↓dreduceIte,reduceCtorEq,Nat.reduceLeDiff,Nat.reduceLT,Nat.reduceSub,Int.reduceToNat,Int.reduceLE,Int.reduceLT, VWs_seq, VWs_ret, VWs_ops, VWs_cond, one_imm, one_ref]
  refine ⟨⟨[(5, .ip (liveA exM)), (4, .ip (.agg (bfL exG))), (1, .ip (.agg (bfL exF))), (2, .ip (liveA exL)), (3, rowsA [[true], [false]]), (0, B false)], [], 9⟩, give_all fun p hp => ?_, ?_⟩
  · simp only [List.mem_cons, List.not_mem_nil, or_false] at hp
    rcases hp with rfl | rfl | rfl | rfl | rfl | rfl
    · right
      exact Frz.ptr (id := 0) (Nat.zero_le _) rfl rfl (by decide) (FrzL.pure rfl)
    all_goals left; rfl
  simp only [go_sem,Nat.reduceEqDiff,Nat.reduceAdd,Nat.reduceMul,↓reduceIte,↓dreduceIte,reduceCtorEq,Nat.reduceLeDiff,Nat.reduceLT,Nat.reduceSub,Int.reduceToNat,Int.reduceLE,Int.reduceLT, VWs_seq, VWs_ret, VWs_ops, VWs_cond, one_imm, one_ref]
  refine ⟨⟨[(6, .ip (liveA exM)), (5, .ip (liveA exM)), (4, .ip (.agg (bfL exG))), (1, .ip (.agg (bfL exF))), (2, .ip (liveA exL)), (3, rowsA [[true], [false]]), (0, B false)], [], 18⟩, give_all fun p hp => ?_, ?_⟩
  · simp only [List.mem_cons, List.not_mem_nil, or_false] at hp
    rcases hp with rfl | rfl | rfl | rfl | rfl | rfl | rfl
    · right
      refine Frz.ptr (id := 8) (Nat.zero_le _) rfl rfl (by decide) ⟨_, _, rfl, ?_, _, _, rfl, ?_, rfl⟩
      · exact Frz.ref (id := 3) (Nat.zero_le _) rfl rfl rfl rfl ⟨_, _, rfl, frz_rowB [false, true] rfl rfl rfl rfl rfl, _, _, rfl, frz_rowB [true, true] rfl rfl rfl rfl rfl, _, _, rfl, frz_rowB [false, false] rfl rfl rfl rfl rfl, rfl⟩
      · exact Frz.ref (id := 7) (Nat.zero_le _) rfl rfl rfl rfl ⟨_, _, rfl, frz_rowB [true, true] rfl rfl rfl rfl rfl, _, _, rfl, frz_rowB [true, true] rfl rfl rfl rfl rfl, _, _, rfl, frz_rowB [false, false] rfl rfl rfl rfl rfl, rfl⟩
    all_goals left; rfl
  simp only [go_sem,Nat.reduceEqDiff,Nat.reduceAdd,Nat.reduceMul,↓reduceIte,↓dreduceIte,reduceCtorEq,Nat.reduceLeDiff,Nat.reduceLT,Nat.reduceSub,Int.reduceToNat,Int.reduceLE,Int.reduceLT, VWs_seq, VWs_ret, VWs_ops, VWs_cond, one_imm, one_ref]
  have okL : LOK exL := ⟨by decide, by decide, by decide, by decide⟩
  have okM : LOK exM := ⟨by decide, by decide, by decide, by decide⟩
  have ok0 : LOK ⟨[], []⟩ := ⟨by decide, by decide, by decide, by decide⟩
  refine VCall.of_contractN ((rSame_c exL exL okL).vals fun r h => vals_true r h) ?_ fun x hx => ?_
  · exact ⟨_, _, rfl, Frz.pure rfl, _, _, rfl, Frz.agg ⟨_, _, rfl, Frz.ref (id := 1) (Nat.zero_le _) rfl rfl rfl rfl ⟨_, _, rfl, frz_rowB [false] rfl rfl rfl rfl rfl, rfl⟩, _, _, rfl, Frz.ref (id := 3) (Nat.zero_le _) rfl rfl rfl rfl ⟨_, _, rfl, frz_rowB [false] rfl rfl rfl rfl rfl, rfl⟩, rfl⟩, rfl⟩
  rw [sameB_self] at hx
  subst hx
  simp only [go_sem,Nat.reduceEqDiff,Nat.reduceAdd,Nat.reduceMul,↓reduceIte,↓dreduceIte,reduceCtorEq,Nat.reduceLeDiff,Nat.reduceLT,Nat.reduceSub,Int.reduceToNat,Int.reduceLE,Int.reduceLT, VWs_seq, VWs_ret, VWs_ops, VWs_cond, one_imm, one_ref]
  refine VCall.of_contractN ((rrows_c [[true], [false]] [[true], [false]] (by decide) (by decide)).vals fun r h => vals_true r h) ?_ fun x hx => ?_
  · exact ⟨_, _, rfl, Frz.pure rfl, _, _, rfl, Frz.ref (id := 6) (Nat.zero_le _) rfl rfl rfl rfl ⟨_, _, rfl, frz_rowB [true] rfl rfl rfl rfl rfl, _, _, rfl, frz_rowB [false] rfl rfl rfl rfl rfl, rfl⟩, rfl⟩
  replace hx : x = B true := hx
  subst hx
  simp only [go_sem,Nat.reduceEqDiff,Nat.reduceAdd,Nat.reduceMul,↓reduceIte,↓dreduceIte,reduceCtorEq,Nat.reduceLeDiff,Nat.reduceLT,Nat.reduceSub,Int.reduceToNat,Int.reduceLE,Int.reduceLT, VWs_seq, VWs_ret, VWs_ops, VWs_cond, one_imm, one_ref]
  refine VCall.of_contract (rSame_c exM exM okM) (SleL.pure rfl) fun x hx => ?_
  rw [sameB_self] at hx
  subst hx
  simp only [go_sem,Nat.reduceEqDiff,Nat.reduceAdd,Nat.reduceMul,↓reduceIte,↓dreduceIte,reduceCtorEq,Nat.reduceLeDiff,Nat.reduceLT,Nat.reduceSub,Int.reduceToNat,Int.reduceLE,Int.reduceLT, VWs_seq, VWs_ret, VWs_ops, VWs_cond, one_imm, one_ref]
  refine VCall.of_contract (check_c exG exM exG_fine okM) (SleL.pure rfl) fun x hx => ?_
  rw [(checkB_iff exG_fine exM).2 exG_least.cl] at hx
  subst hx
  simp only [go_sem,Nat.reduceEqDiff,Nat.reduceAdd,Nat.reduceMul,↓reduceIte,↓dreduceIte,reduceCtorEq,Nat.reduceLeDiff,Nat.reduceLT,Nat.reduceSub,Int.reduceToNat,Int.reduceLE,Int.reduceLT, VWs_seq, VWs_ret, VWs_ops, VWs_cond, one_imm, one_ref]
  refine VCall.of_contractN ((check_c exF ⟨[], []⟩ exF_fine ok0).vals fun r h => vals_true r h) ?_ fun x hx => ?_
  · exact ⟨_, _, rfl, Frz.pure rfl, _, _, rfl, Frz.agg ⟨_, _, rfl, Frz.nil 1, _, _, rfl, Frz.nil 1, rfl⟩, rfl⟩
  replace hx : x = B false := hx
  subst hx
  simp only [go_sem,Nat.reduceEqDiff,Nat.reduceAdd,Nat.reduceMul,↓reduceIte,↓dreduceIte,reduceCtorEq,Nat.reduceLeDiff,Nat.reduceLT,Nat.reduceSub,Int.reduceToNat,Int.reduceLE,Int.reduceLT, VWs_seq, VWs_ret, VWs_ops, VWs_cond, one_imm, one_ref]
  refine VCall.of_contract (Same_c exM exM okM) (SleL.pure rfl) fun x hx => ?_
  rw [sameB_self] at hx
  subst hx
  simp only [go_sem,Nat.reduceEqDiff,Nat.reduceAdd,Nat.reduceMul,↓reduceIte,↓dreduceIte,reduceCtorEq,Nat.reduceLeDiff,Nat.reduceLT,Nat.reduceSub,Int.reduceToNat,Int.reduceLE,Int.reduceLT, VWs_seq, VWs_ret, VWs_ops, VWs_cond, one_imm, one_ref]
  refine VCall.of_contract (Same_c exL exM okL) (SleL.pure rfl) fun x hx => ?_
  replace hx : x = B false := hx
  subst hx
  simp only [go_sem,Nat.reduceEqDiff,Nat.reduceAdd,Nat.reduceMul,↓reduceIte,↓dreduceIte,reduceCtorEq,Nat.reduceLeDiff,Nat.reduceLT,Nat.reduceSub,Int.reduceToNat,Int.reduceLE,Int.reduceLT, VWs_seq, VWs_ret, VWs_ops, VWs_cond, one_imm, one_ref]
  refine ⟨⟨[(0, B true)], [], _⟩, Wk.mk (by simp [get_cons]) ⟨_, (List.nil_append _).symm⟩ (Nat.le_refl _), ?_⟩
  simp only [go_sem,Nat.reduceEqDiff,Nat.reduceAdd,Nat.reduceMul,↓reduceIte,↓dreduceIte,reduceCtorEq,Nat.reduceLeDiff,Nat.reduceLT,Nat.reduceSub,Int.reduceToNat,Int.reduceLE,Int.reduceLT, VWs_seq, VWs_ret, VWs_ops, VWs_cond, one_imm, one_ref]
  exact ⟨_, Frz.pure rfl, rfl⟩
end Go.Proofs.Ytjdeediehmhdoaa
