/-
  How deep the stack is: the program's search: its contract. No condition.
-/
import Derived.Test.YtdfdkoajphcjbaaD3
namespace Go.Proofs.Ytdfdkoajphcjbaa
set_option linter.unusedSimpArgs false
set_option linter.unusedVariables false
set_option maxRecDepth 10000
open Go.V

theorem plen3 {α : Type} (a b c : α) (T : List α) : (a :: b :: c :: T).length = T.length + 3 := rfl
/-- A pile of places, the top first. -/
def PI (T : List VObj) (v : AV) (l : List Nat) : Prop :=
  (v = nilv ∧ l = []) ∨ ∃ k s rest, v = .ref (k + 3) s 0 l.length ∧ T[k]? = some ⟨s, 3, 1, tdA l.reverse ++ rest⟩
theorem PI.one {T : List VObj} {v : AV} {l : List Nat} (h : PI T v l) : v.one = true := by
  rcases h with ⟨h, _⟩ | ⟨_, _, _, h, _⟩ <;> rw [h] <;> rfl
abbrev piO (v : AV) : VObj := ⟨2, 82, 1, [v]⟩
section
variable (o0 o1 : VObj) (v : AV) (T : List VObj) (nx : Nat)
theorem ipush_v (l : List Nat) (x : Nat) (hl : l.length ≤ 2900000) (h : PI T v l) (C : AV → List VObj → Nat → Prop) (hC : ∀ r T' v' nx', PI T' v' (x :: l) → C r (o0 :: o1 :: piO v' :: T') nx') :
    VCall Try.prog 34 [.ptr 2 2 0, I x] (o0 :: o1 :: piO v :: T) nx C := by
  refine VCall.of_body hmix f_stack_pile_int_push (by simp) ?_
  have hmx : (3000000 : Nat) ≤ maxLen := by decide
  rcases h with ⟨rfl, rfl⟩ | ⟨k, s, rest, rfl, hT⟩
  · simp only [go_sem,Nat.reduceEqDiff,Nat.reduceAdd,Nat.reduceMul,↓reduceIte,↓dreduceIte,reduceCtorEq,Nat.reduceLeDiff,Nat.reduceLT,Nat.reduceSub,Int.reduceToNat,Int.reduceLE,Int.reduceLT, one_ref, one_imm, Int.reduceLT, Int.reduceEq, Int.reduceBEq, c_stack_pile_int_push, ↓plen3, ponx, pg0, pg01, pg1, ps0, ps1]
    repeat (refine And.intro (by omega) ?_)
    refine hC _ _ _ _ (.inr ⟨T.length + 1, nx + 1, [], rfl, ?_⟩)
    rw [pg1]; simp [tdA]
  · have hT2 : ∀ x : VObj, (T ++ [x])[k]? = some ⟨s, 3, 1, tdA l.reverse ++ rest⟩ := fun x => by rw [List.getElem?_append_left (List.getElem?_eq_some_iff.1 hT).1]; exact hT
    have hk := (List.getElem?_eq_some_iff.1 hT).1
    simp only [go_sem,Nat.reduceEqDiff,Nat.reduceAdd,Nat.reduceMul,↓reduceIte,↓dreduceIte,reduceCtorEq,Nat.reduceLeDiff,Nat.reduceLT,Nat.reduceSub,Int.reduceToNat,Int.reduceLE,Int.reduceLT, one_ref, one_imm, Int.reduceLT, Int.reduceEq, Int.reduceBEq, c_stack_pile_int_push, ↓plen3, ponx, pg0, pg01, pg1, ps0, ps1, hT2]
    repeat (refine And.intro (by first | omega | rfl) ?_)
    refine hC _ _ _ _ (.inr ⟨k, nx + 1, [], rfl, ?_⟩)
    rw [List.getElem?_set, if_pos rfl, if_pos (by simp; omega), List.take_append_of_le_length (by simp [tdA_len]), List.take_of_length_le (by simp [tdA_len])]
    simp [tdA]
theorem isize_v (l : List Nat) (h : PI T v l) (C : AV → List VObj → Nat → Prop) (hC : C (I l.length) (o0 :: o1 :: piO v :: T) nx) :
    VCall Try.prog 35 [.ptr 2 2 0] (o0 :: o1 :: piO v :: T) nx C := by
  refine VCall.of_body hmix f_stack_pile_int_size (by simp) ?_
  rcases h with ⟨rfl, rfl⟩ | ⟨k, s, rest, rfl, hT⟩
  · simp only [go_sem,Nat.reduceEqDiff,Nat.reduceAdd,Nat.reduceMul,↓reduceIte,↓dreduceIte,reduceCtorEq,Nat.reduceLeDiff,Nat.reduceLT,Nat.reduceSub,Int.reduceToNat,Int.reduceLE,Int.reduceLT, one_ref, one_imm, Int.reduceLT, Int.reduceEq, Int.reduceBEq, c_stack_pile_int_size, ↓plen3]
    exact hC
  · simp only [go_sem,Nat.reduceEqDiff,Nat.reduceAdd,Nat.reduceMul,↓reduceIte,↓dreduceIte,reduceCtorEq,Nat.reduceLeDiff,Nat.reduceLT,Nat.reduceSub,Int.reduceToNat,Int.reduceLE,Int.reduceLT, one_ref, one_imm, Int.reduceLT, Int.reduceEq, Int.reduceBEq, c_stack_pile_int_size, ↓plen3, hT]
    repeat (refine And.intro (by first | omega | rfl) ?_)
    exact hC
theorem ipop_v (l : List Nat) (x : Nat) (hl : l.length ≤ 2900000) (h : PI T v (x :: l)) (C : AV → List VObj → Nat → Prop) (hC : ∀ v', PI T v' l → C (I x) (o0 :: o1 :: piO v' :: T) nx) :
    VCall Try.prog 36 [.ptr 2 2 0] (o0 :: o1 :: piO v :: T) nx C := by
  refine VCall.of_body hmix f_stack_pile_int_pop (by simp) ?_
  rcases h with ⟨_, h⟩ | ⟨k, s, rest, rfl, hT⟩
  · cases h
  have e2 : tdA (x :: l).reverse ++ rest = tdA l.reverse ++ I x :: rest := by simp [tdA]
  rw [e2] at hT
  have e1' : IntKind.i64.wrap ((l.length : Int) + 1 - 1) = (l.length : Int) := by rw [i64_in (by omega) (by omega)]; omega
  have hcell : ∀ C : AV → Prop, cellT (tdA l.reverse ++ I x :: rest) l.length false 1 C .mk = C (I x) := fun C => by
    have e : (tdA l.reverse ++ I x :: rest).getD l.length .dead = I x := by simp [List.getD, tdA]
    simp only [cellT, cellW, partOK, partA, e]; simp [AV.one, Value.oneCell', tdA_len]
  simp only [go_sem,Nat.reduceEqDiff,Nat.reduceAdd,Nat.reduceMul,↓reduceIte,↓dreduceIte,reduceCtorEq,Nat.reduceLeDiff,Nat.reduceLT,Nat.reduceSub,Int.reduceToNat,Int.reduceLE,Int.reduceLT, one_ref, one_imm, Int.reduceLT, Int.reduceEq, Int.reduceBEq, c_stack_pile_int_pop, ↓plen3, hT, List.length_cons, Int.natCast_add, Int.cast_ofNat_Int, e1', hcell]
  repeat (refine And.intro (by first | omega | rfl) ?_)
  exact hC _ (.inr ⟨k, s, _, rfl, hT⟩)
end

structure DP where
  dl : List Int
  tl : List Nat
  v : AV
  T : List VObj
  nx : Nat
  j : Nat

theorem sdepths_c (s : SP) (hs : InP s) (f : Nat) (hf : f < s.funcs.length) : Contract Try.prog 18 [spA s, I f] (fun r => ∃ dl ok, r = .tup [ints dl, B ok] ∧ DepthsR s f dl ok) := by
  refine Contract.of_call (VCall.of_body hmix f_stack_Depths (by simp) ?_)
  have hfn : s.funcs.getD f default = s.fn f := rfl
  have hcl := hs.code f
  have hfl := hs.fn
  have hmx : (3000000 : Nat) ≤ maxLen := by decide
  by_cases hc : (s.fn f).code = []
  · have hc0 : ((s.fn f).code.length : Int) = 0 := by rw [hc]; rfl
    simp only [go_sem,Nat.reduceEqDiff,Nat.reduceAdd,Nat.reduceMul,↓reduceIte,↓dreduceIte,reduceCtorEq,Nat.reduceLeDiff,Nat.reduceLT,Nat.reduceSub,Int.reduceToNat,Int.reduceLE,Int.reduceLT, one_ref, one_imm, Int.reduceLT, Int.reduceEq, Int.reduceBEq, c_stack_Depths, hfn, eq_false (show ¬ (f : Int) < 0 by omega), eq_false (show ¬ (s.funcs.length : Int) ≤ (f : Int) by omega), eq_true hc0]
    repeat (refine And.intro (by omega) ?_)
    exact ⟨_, frzT_nil, [], false, rfl, depths_no fun out ho => ho.ne hc⟩
  have hpos : 0 < (s.fn f).code.length := by
    cases h : (s.fn f).code with
    | nil => exact absurd h hc
    | cons a l => simp
  have hn0 : ¬ ((s.fn f).code.length : Int) = 0 := by omega
  simp only [go_sem,Nat.reduceEqDiff,Nat.reduceAdd,Nat.reduceMul,↓reduceIte,↓dreduceIte,reduceCtorEq,Nat.reduceLeDiff,Nat.reduceLT,Nat.reduceSub,Int.reduceToNat,Int.reduceLE,Int.reduceLT, one_ref, one_imm, Int.reduceLT, Int.reduceEq, Int.reduceBEq, c_stack_Depths, hfn, eq_false (show ¬ (f : Int) < 0 by omega), eq_false (show ¬ (s.funcs.length : Int) ≤ (f : Int) by omega), eq_false hn0]
  repeat (refine And.intro (by omega) ?_)
  rw [flat_rep]
  refine VW_loop (fun i : Nat => ⟨[(1, I f), (2, .ptr 0 0 0), (6, .imm 4 ((s.fn f).code.map siA)), (7, .ref 1 1 0 (s.fn f).code.length), (44, I (s.fn f).code.length), (45, I i)],
      [⟨0, 24, 1, [I s.words, fnsA s.funcs]⟩, ⟨1, 3, 1, (List.replicate i (-1 : Int) ++ List.replicate ((s.fn f).code.length - i) 0).map I⟩], 2⟩)
    (fun i => i ≤ (s.fn f).code.length) (fun i => (s.fn f).code.length - i) 0 (Wk.mk (by simp [get_cons]) ⟨[], ?_⟩ (Nat.le_refl _)) (Nat.zero_le _) ?_
  · simp
  intro i hi
  by_cases hil : (i : Int) < ((s.fn f).code.length : Int)
  · have e1 : IntKind.i64.wrap ((i : Int) + 1) = ((i + 1 : Nat) : Int) := by rw [i64_in (by omega) (by omega)]; omega
    have hset := fill_set (s.fn f).code.length i (by omega)
    simp only [go_sem,Nat.reduceEqDiff,Nat.reduceAdd,Nat.reduceMul,↓reduceIte,↓dreduceIte,reduceCtorEq,Nat.reduceLeDiff,Nat.reduceLT,Nat.reduceSub,Int.reduceToNat,Int.reduceLE,Int.reduceLT, one_ref, one_imm, Int.reduceLT, Int.reduceEq, Int.reduceBEq, eq_true hil, e1, hset]
    repeat (refine And.intro (by first | omega | (simp; omega)) ?_)
    exact ⟨i + 1, by omega, by omega, Wk.mk (by simp [get_cons]) ⟨[], (List.append_nil _).symm⟩ (Nat.le_refl _)⟩
  obtain rfl : i = (s.fn f).code.length := by omega
  have hset0 : (List.map I (List.replicate (s.fn f).code.length (-1 : Int) ++ List.replicate ((s.fn f).code.length - (s.fn f).code.length) 0)).set 0 (I 0) = ((List.replicate (s.fn f).code.length (-1 : Int)).set 0 0).map I := by
    rw [Nat.sub_self, List.replicate_zero, List.append_nil, set_map I]
  simp only [go_sem,Nat.reduceEqDiff,Nat.reduceAdd,Nat.reduceMul,↓reduceIte,↓dreduceIte,reduceCtorEq,Nat.reduceLeDiff,Nat.reduceLT,Nat.reduceSub,Int.reduceToNat,Int.reduceLE,Int.reduceLT, one_ref, one_imm, Int.reduceLT, Int.reduceEq, Int.reduceBEq, eq_false hil, hset0]
  repeat (refine And.intro (by first | omega | (simp; omega)) ?_)
  refine ipush_v _ _ nilv [] _ [] 0 (by simp) (.inl ⟨rfl, rfl⟩) _ fun r T1 v1 nx1 g1 => ?_
  simp only [go_sem,Nat.reduceEqDiff,Nat.reduceAdd,Nat.reduceMul,↓reduceIte,↓dreduceIte,reduceCtorEq,Nat.reduceLeDiff,Nat.reduceLT,Nat.reduceSub,Int.reduceToNat,Int.reduceLE,Int.reduceLT, one_ref, one_imm, Int.reduceLT, Int.reduceEq, Int.reduceBEq]
  refine VW_loop (fun q : DP => ⟨[(1, I f), (2, .ptr 0 0 0), (6, .imm 4 ((s.fn f).code.map siA)), (7, .ref 1 1 0 (s.fn f).code.length), (9, .ptr 2 2 0)], ⟨0, 24, 1, [I s.words, fnsA s.funcs]⟩ :: ⟨1, 3, 1, q.dl.map I⟩ :: piO q.v :: q.T, q.nx⟩)
    (fun q => WL s f q.dl q.tl none ∧ PI q.T q.v q.tl ∧ 2 * negs q.dl + q.tl.length ≤ 2 * (s.fn f).code.length + 1) (fun q => 2 * negs q.dl + q.tl.length)
    ⟨(List.replicate (s.fn f).code.length (-1 : Int)).set 0 0, [0], v1, T1, nx1, 0⟩ (Wk.mk (by simp [get_cons]) ⟨[], (List.append_nil _).symm⟩ (Nat.le_refl _)) ⟨WL.start hc, g1, by have := negs_le ((List.replicate (s.fn f).code.length (-1 : Int)).set 0 0); simp at this ⊢; omega⟩ ?_
  rintro ⟨dl0, tl0, v0, T0, nx0, j0⟩ ⟨hwl, hpi, hmu⟩
  simp only at hwl hpi hmu ⊢
  cases tl0 with
  | nil =>
    have hll : (s.fn f).code.length = dl0.length := hwl.len.symm
    simp only [go_sem,Nat.reduceEqDiff,Nat.reduceAdd,Nat.reduceMul,↓reduceIte,↓dreduceIte,reduceCtorEq,Nat.reduceLeDiff,Nat.reduceLT,Nat.reduceSub,Int.reduceToNat,Int.reduceLE,Int.reduceLT, one_ref, one_imm, Int.reduceLT, Int.reduceEq, Int.reduceBEq]
    refine isize_v _ _ _ _ _ [] hpi _ ?_
    simp only [go_sem,Nat.reduceEqDiff,Nat.reduceAdd,Nat.reduceMul,↓reduceIte,↓dreduceIte,reduceCtorEq,Nat.reduceLeDiff,Nat.reduceLT,Nat.reduceSub,Int.reduceToNat,Int.reduceLE,Int.reduceLT, one_ref, one_imm, Int.reduceLT, Int.reduceEq, Int.reduceBEq, eq_false (show ¬ (0 : Int) < ((0 : Nat) : Int) by decide)]
    rw [hll]
    exact ⟨_, Frz.tup ⟨_, _, rfl, frz_ints (l := dl0) (Nat.zero_le _) rfl rfl, _, _, rfl, Frz.pure rfl, rfl⟩, dl0, true, rfl, fun _ => ⟨hwl.sol, fun i => by have := hwl.bound i; omega⟩, fun out ho => ⟨rfl, hwl.sub out ho⟩⟩
  | cons k rest =>
    obtain ⟨hk1, hk2⟩ := hwl.td k (by simp)
    have hbd := hwl.bound k
    have hdlen := hwl.len
    have hin : (s.fn f).code.getD k default = s.ins f k := rfl
    obtain ⟨x, hx⟩ : ∃ x, s.ins f k = x := ⟨_, rfl⟩
    have hxc : (s.fn f).code.getD k default = x := hx
    rw [hx] at hin
    have hgk : dl0.getD k default = dl0.getD k (-1) := getD_dm hk1
    obtain ⟨d, hd⟩ : ∃ d, dl0.getD k (-1) = d := ⟨_, rfl⟩
    rw [hd] at hgk hk2 hbd
    have hpos3 : (0 : Int) < (rest.length : Int) + 1 := by omega
    have hrl : rest.length ≤ 2000001 := by simp only [List.length_cons] at hmu; omega
    simp only [go_sem,Nat.reduceEqDiff,Nat.reduceAdd,Nat.reduceMul,↓reduceIte,↓dreduceIte,reduceCtorEq,Nat.reduceLeDiff,Nat.reduceLT,Nat.reduceSub,Int.reduceToNat,Int.reduceLE,Int.reduceLT, one_ref, one_imm, Int.reduceLT, Int.reduceEq, Int.reduceBEq]
    refine isize_v _ _ _ _ _ (k :: rest) hpi _ ?_
    simp only [go_sem,Nat.reduceEqDiff,Nat.reduceAdd,Nat.reduceMul,↓reduceIte,↓dreduceIte,reduceCtorEq,Nat.reduceLeDiff,Nat.reduceLT,Nat.reduceSub,Int.reduceToNat,Int.reduceLE,Int.reduceLT, one_ref, one_imm, Int.reduceLT, Int.reduceEq, Int.reduceBEq, List.length_cons, Int.natCast_add, Int.cast_ofNat_Int, eq_true hpos3]
    refine ipop_v _ _ _ _ _ rest k (by omega) hpi _ fun v2 g2 => ?_
    simp only [go_sem,Nat.reduceEqDiff,Nat.reduceAdd,Nat.reduceMul,↓reduceIte,↓dreduceIte,reduceCtorEq,Nat.reduceLeDiff,Nat.reduceLT,Nat.reduceSub,Int.reduceToNat,Int.reduceLE,Int.reduceLT, one_ref, one_imm, Int.reduceLT, Int.reduceEq, Int.reduceBEq, hin, cellT_I', hgk]
    repeat (refine And.intro (by first | omega | (simp; done) | (simp; omega)) ?_)
    refine VCall.of_contract (behind_c s hs f hf x d ⟨hk2, by omega⟩) (SleL.pure rfl) fun r hr => ?_
    obtain ⟨e, ok, rfl, hr⟩ := hr
    refine ⟨Stab.refl _ _ _, ?_⟩
    cases heff : effD s f x d with
    | none =>
      rw [heff] at hr
      simp only at hr
      subst hr
      simp only [go_sem,Nat.reduceEqDiff,Nat.reduceAdd,Nat.reduceMul,↓reduceIte,↓dreduceIte,reduceCtorEq,Nat.reduceLeDiff,Nat.reduceLT,Nat.reduceSub,Int.reduceToNat,Int.reduceLE,Int.reduceLT, one_ref, one_imm, Int.reduceLT, Int.reduceEq, Int.reduceBEq, hin, cellT_I', hgk]
      repeat (refine And.intro (by omega) ?_)
      exact ⟨_, frzT_nil, [], false, rfl, depths_no (hwl.fail (k := k) (by simp) (by rw [hxc, hd]; exact heff))⟩
    | some e' =>
      rw [heff] at hr
      obtain ⟨rfl, rfl⟩ := hr
      have hwl1 : WL s f dl0 rest (some (k, e, 0)) := hwl.take (by simp) (fun t ht => by simpa using ht) (fun t ht => by simp [ht]) (by rw [hxc, hd]; exact heff)
      have hkk : k ≤ 1000000 := by omega
      simp only [go_sem,Nat.reduceEqDiff,Nat.reduceAdd,Nat.reduceMul,↓reduceIte,↓dreduceIte,reduceCtorEq,Nat.reduceLeDiff,Nat.reduceLT,Nat.reduceSub,Int.reduceToNat,Int.reduceLE,Int.reduceLT, one_ref, one_imm, Int.reduceLT, Int.reduceEq, Int.reduceBEq, hin, cellT_I', hgk]
      repeat (refine And.intro (by first | omega | (simp; done)) ?_)
      refine VCall.of_contract (nextS_c x k hkk) (SleL.pure rfl) fun r hr => ?_
      subst hr
      simp only [go_sem,Nat.reduceEqDiff,Nat.reduceAdd,Nat.reduceMul,↓reduceIte,↓dreduceIte,reduceCtorEq,Nat.reduceLeDiff,Nat.reduceLT,Nat.reduceSub,Int.reduceToNat,Int.reduceLE,Int.reduceLT, one_ref, one_imm, Int.reduceLT, Int.reduceEq, Int.reduceBEq]
      refine VW_loop (fun q : DP => ⟨[(1, I f), (2, .ptr 0 0 0), (6, .imm 4 ((s.fn f).code.map siA)), (7, .ref 1 1 0 (s.fn f).code.length), (9, .ptr 2 2 0), (10, I k), (11, I e), (79, ints (nextL x k)), (80, I (nextL x k).length), (81, I q.j)], ⟨0, 24, 1, [I s.words, fnsA s.funcs]⟩ :: ⟨1, 3, 1, q.dl.map I⟩ :: piO q.v :: q.T, q.nx⟩)
        (fun q => WL s f q.dl q.tl (some (k, e, q.j)) ∧ PI q.T q.v q.tl ∧ q.j ≤ (nextL x k).length ∧ 2 * negs q.dl + q.tl.length + 1 ≤ 2 * negs dl0 + (k :: rest).length) (fun q => (nextL x k).length - q.j)
        ⟨dl0, rest, v2, T0, nx0, 0⟩ (Wk.mk (by simp [get_cons]) ⟨[], (List.append_nil _).symm⟩ (Nat.le_refl _)) ⟨hwl1, g2, Nat.zero_le _, by simp only [List.length_cons]; omega⟩ ?_
      rintro ⟨dl, tl, vt, T, nx, j⟩ ⟨u1, u2, u3, u4⟩
      simp only at u1 u2 u3 u4 ⊢
      have u5 := u1.len
      by_cases hj : (j : Int) < ((nextL x k).length : Int)
      · have hj' : j < (nextL ((s.fn f).code.getD k default) k).length := by rw [hxc]; omega
        have hnl := nextL_len x k
        obtain ⟨y, hy⟩ : ∃ y, (nextL x k).getD j default = y := ⟨_, rfl⟩
        have hy' : (nextL ((s.fn f).code.getD k default) k).getD j default = y := by rw [hxc]; exact hy
        have e3 : IntKind.i64.wrap ((j : Int) + 1) = ((j + 1 : Nat) : Int) := by rw [i64_in (by omega) (by omega)]; omega
        by_cases y1 : y < 0
        · simp only [go_sem,Nat.reduceEqDiff,Nat.reduceAdd,Nat.reduceMul,↓reduceIte,↓dreduceIte,reduceCtorEq,Nat.reduceLeDiff,Nat.reduceLT,Nat.reduceSub,Int.reduceToNat,Int.reduceLE,Int.reduceLT, one_ref, one_imm, Int.reduceLT, Int.reduceEq, Int.reduceBEq, eq_true hj, hy, eq_true y1]
          repeat (refine And.intro (by first | omega | (simp; done)) ?_)
          exact ⟨_, frzT_nil, [], false, rfl, depths_no (u1.fail2 hj' (.inl (by rw [hy']; exact y1)))⟩
        by_cases y2 : ((s.fn f).code.length : Int) ≤ y
        · simp only [go_sem,Nat.reduceEqDiff,Nat.reduceAdd,Nat.reduceMul,↓reduceIte,↓dreduceIte,reduceCtorEq,Nat.reduceLeDiff,Nat.reduceLT,Nat.reduceSub,Int.reduceToNat,Int.reduceLE,Int.reduceLT, one_ref, one_imm, Int.reduceLT, Int.reduceEq, Int.reduceBEq, eq_true hj, hy, eq_false y1, eq_true y2]
          repeat (refine And.intro (by first | omega | (simp; done)) ?_)
          exact ⟨_, frzT_nil, [], false, rfl, depths_no (u1.fail2 hj' (.inr (.inl (by rw [hy']; exact y2))))⟩
        have hyl : y.toNat < dl.length := by omega
        have hgy : dl.getD y.toNat default = dl.getD y.toNat (-1) := getD_dm hyl
        obtain ⟨dy, hdy⟩ : ∃ dy, dl.getD y.toNat (-1) = dy := ⟨_, rfl⟩
        rw [hdy] at hgy
        by_cases y3 : 0 ≤ dy
        · by_cases y4 : dy = e
          · simp only [go_sem,Nat.reduceEqDiff,Nat.reduceAdd,Nat.reduceMul,↓reduceIte,↓dreduceIte,reduceCtorEq,Nat.reduceLeDiff,Nat.reduceLT,Nat.reduceSub,Int.reduceToNat,Int.reduceLE,Int.reduceLT, one_ref, one_imm, Int.reduceLT, Int.reduceEq, Int.reduceBEq, eq_true hj, hy, eq_false y1, eq_false y2, cellT_I', hgy, eq_true y3, eq_true y4, eq_false (show ¬ dy < 0 by omega), e3]
            repeat (refine And.intro (by first | omega | (simp; done)) ?_)
            exact ⟨⟨dl, tl, vt, T, nx, j + 1⟩, ⟨u1.known hj' (by rw [hy']; omega) (by rw [hy']; omega) (by rw [hy', hdy]; exact y4), u2, by simp only; omega, u4⟩, by simp only; omega, Wk.mk (by simp [get_cons]) ⟨[], (List.append_nil _).symm⟩ (Nat.le_refl _)⟩
          · simp only [go_sem,Nat.reduceEqDiff,Nat.reduceAdd,Nat.reduceMul,↓reduceIte,↓dreduceIte,reduceCtorEq,Nat.reduceLeDiff,Nat.reduceLT,Nat.reduceSub,Int.reduceToNat,Int.reduceLE,Int.reduceLT, one_ref, one_imm, Int.reduceLT, Int.reduceEq, Int.reduceBEq, eq_true hj, hy, eq_false y1, eq_false y2, cellT_I', hgy, eq_true y3, eq_false y4]
            repeat (refine And.intro (by first | omega | (simp; done)) ?_)
            exact ⟨_, frzT_nil, [], false, rfl, depths_no (u1.fail2 hj' (.inr (.inr ⟨by rw [hy', hdy]; exact y3, by rw [hy', hdy]; exact y4⟩)))⟩
        · have hset : (dl.map I).set y.toNat (I e) = (dl.set y.toNat e).map I := set_map I _ _ _
          have htl : tl.length ≤ 2000001 := by simp only [List.length_cons] at u4 hmu; omega
          have hyn : I y = I ((y.toNat : Nat) : Int) := by rw [Int.toNat_of_nonneg (by omega)]
          simp only [go_sem,Nat.reduceEqDiff,Nat.reduceAdd,Nat.reduceMul,↓reduceIte,↓dreduceIte,reduceCtorEq,Nat.reduceLeDiff,Nat.reduceLT,Nat.reduceSub,Int.reduceToNat,Int.reduceLE,Int.reduceLT, one_ref, one_imm, Int.reduceLT, Int.reduceEq, Int.reduceBEq, eq_true hj, hy, eq_false y1, eq_false y2, cellT_I', hgy, eq_false y3, eq_true (show dy < 0 by omega), e3, hset]
          repeat (refine And.intro (by first | omega | (simp; done)) ?_)
          have hlt : negs (dl.set y.toNat e) + 1 = negs dl := negs_set hyl (by rw [hdy]; omega) (effD_bound heff).1
          rw [hyn]
          refine ipush_v _ _ vt T _ tl y.toNat (by omega) u2 _ fun r T' v' nx' g9 => ?_
          simp only [go_sem,Nat.reduceEqDiff,Nat.reduceAdd,Nat.reduceMul,↓reduceIte,↓dreduceIte,reduceCtorEq,Nat.reduceLeDiff,Nat.reduceLT,Nat.reduceSub,Int.reduceToNat,Int.reduceLE,Int.reduceLT, one_ref, one_imm, Int.reduceLT, Int.reduceEq, Int.reduceBEq, e3]
          have hw9 := u1.fresh (todo' := y.toNat :: tl) hj' (by rw [hy']; omega) (by rw [hy']; omega) (by rw [hy', hdy]; omega) (fun t => by rw [hy']; simp)
          rw [hy'] at hw9
          exact ⟨⟨dl.set y.toNat e, y.toNat :: tl, v', T', nx', j + 1⟩, ⟨hw9, g9, by simp only; omega, by simp only [List.length_cons] at u4 ⊢; omega⟩, by simp only; omega, Wk.mk (by simp [get_cons]) ⟨[], (List.append_nil _).symm⟩ (Nat.le_refl _)⟩
      · simp only [go_sem,Nat.reduceEqDiff,Nat.reduceAdd,Nat.reduceMul,↓reduceIte,↓dreduceIte,reduceCtorEq,Nat.reduceLeDiff,Nat.reduceLT,Nat.reduceSub,Int.reduceToNat,Int.reduceLE,Int.reduceLT, one_ref, one_imm, Int.reduceLT, Int.reduceEq, Int.reduceBEq, eq_false hj]
        refine ⟨⟨dl, tl, vt, T, nx, 0⟩, ⟨u1.done (by rw [hxc]; omega), u2, by simp only [List.length_cons] at u4 hmu; simp only; omega⟩, by simp only [List.length_cons] at u4 ⊢; omega, Wk.mk (by simp [get_cons]) ⟨[], (List.append_nil _).symm⟩ (Nat.le_refl _)⟩
end Go.Proofs.Ytdfdkoajphcjbaa
