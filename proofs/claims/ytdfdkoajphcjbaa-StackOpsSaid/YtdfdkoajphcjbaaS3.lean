/-
  The stack's machine: calls' pile, the input, a function's beginning: contracts. No condition.
-/
import Derived.Test.YtdfdkoajphcjbaaS2
namespace Go.Proofs.Ytdfdkoajphcjbaa
set_option linter.unusedSimpArgs false
set_option linter.unusedVariables false
set_option maxRecDepth 10000
open Go.V

section
variable {α : Type}
theorem pg2 (T : List α) (x y z : α) : (T ++ [x] ++ [y] ++ [z])[T.length + 1 + 1]? = some z := by
  rw [List.getElem?_append_right (by simp)]; simp
theorem pg02 (T : List α) (x y z : α) : (T ++ [x] ++ [y] ++ [z])[T.length]? = some x := by simp
theorem pg12 (T : List α) (x y z : α) : (T ++ [x] ++ [y] ++ [z])[T.length + 1]? = some y := by simp
theorem ps01 (T : List α) (x y z : α) : (T ++ [x] ++ [y]).set T.length z = T ++ [z] ++ [y] := by
  rw [List.append_assoc, List.set_append_right _ _ (by simp)]; simp
end
theorem frC_len (l : List Fm) : (l.flatMap frC).length = 2 * l.length := by
  induction l with
  | nil => rfl
  | cons c l ih => simp only [List.flatMap_cons, List.length_append, ih, List.length_cons]; simp [frC]; omega
theorem frC_all (l : List Fm) : (l.flatMap frC).all AV.one = true := by
  induction l with
  | nil => rfl
  | cons c l ih => simp only [List.flatMap_cons, List.all_append, ih]; simp [frC, AV.one, Value.oneCell']

section
variable (c0 c1 c2 vs vc c5 c6 c7 : AV) (o0 o1 o2 o4 : VObj) (T : List VObj) (sm nx : Nat)

theorem fpush_v (l : List Fm) (c : Fm) (hl : l.length ≤ 1000000) (h : PF T vc l) (C : AV → List VObj → Nat → Prop)
    (hC : ∀ r T' vc' nx', PF T' vc' (c :: l) → Kp 66 T T' → C r (o0 :: o1 :: o2 :: mcO sm [c0, c1, c2, vs, vc', c5, c6, c7] :: o4 :: T') nx') :
    VCall Try.prog 25 [.ptr 3 sm 4, .agg (frC c)] (o0 :: o1 :: o2 :: mcO sm [c0, c1, c2, vs, vc, c5, c6, c7] :: o4 :: T) nx C := by
  refine VCall.of_body hmix f_stack_pile_stack_frame_push (by simp) ?_
  have hmx : (2000000 : Nat) ≤ maxLen := by decide
  rcases h with ⟨rfl, rfl⟩ | ⟨k, s, rest, rfl, hT⟩
  · simp only [go_sem,Nat.reduceEqDiff,Nat.reduceAdd,Nat.reduceMul,↓reduceIte,↓dreduceIte,reduceCtorEq,Nat.reduceLeDiff,Nat.reduceLT,Nat.reduceSub,Int.reduceToNat,Int.reduceLE,Int.reduceLT, c_stack_pile_stack_frame_push, ↓plen, ponx, pg0, pg01, pg1, pg2, pg02, pg12, ps0, ps1, ps01, one_ref, frC]
    repeat (refine And.intro (by first | omega | rfl) ?_)
    refine hC _ _ _ _ (.inr ⟨T.length + 1 + 1, nx + 1 + 1, [], rfl, ?_⟩) ?_
    · rw [pg2]; simp [frC]
    · rw [List.append_assoc, List.append_assoc]; exact Kp.add _
  · have hT2 : ∀ x y : VObj, (T ++ [x] ++ [y])[k]? = some ⟨s, 66, 2, l.reverse.flatMap frC ++ rest⟩ := fun x y => by
      rw [List.append_assoc, List.getElem?_append_left (List.getElem?_eq_some_iff.1 hT).1]; exact hT
    have hT1 : ∀ x : VObj, (T ++ [x])[k]? = some ⟨s, 66, 2, l.reverse.flatMap frC ++ rest⟩ := fun x => by
      rw [List.getElem?_append_left (List.getElem?_eq_some_iff.1 hT).1]; exact hT
    have hk := (List.getElem?_eq_some_iff.1 hT).1
    have hfl : (l.reverse.flatMap frC).length = l.length * 2 := by rw [frC_len, List.length_reverse]; omega
    simp only [go_sem,Nat.reduceEqDiff,Nat.reduceAdd,Nat.reduceMul,↓reduceIte,↓dreduceIte,reduceCtorEq,Nat.reduceLeDiff,Nat.reduceLT,Nat.reduceSub,Int.reduceToNat,Int.reduceLE,Int.reduceLT, c_stack_pile_stack_frame_push, ↓plen, ponx, pg0, pg01, pg1, pg2, pg02, pg12, ps0, ps1, ps01, one_ref, frC, hT1, hT2]
    repeat (refine And.intro (by first | omega | rfl) ?_)
    refine hC _ _ _ _ (.inr ⟨k, nx + 1 + 1, [], rfl, ?_⟩) ?_
    · rw [List.getElem?_set, if_pos rfl, if_pos (by simp; omega), List.take_append_of_le_length (by omega), List.take_of_length_le (by omega)]
      simp [frC]
    · refine Kp.trans ?_ (Kp.put (hT2 _ _) rfl)
      rw [List.append_assoc]; exact Kp.add _

theorem fsize_v (l : List Fm) (h : PF T vc l) (C : AV → List VObj → Nat → Prop)
    (hC : C (I l.length) (o0 :: o1 :: o2 :: mcO sm [c0, c1, c2, vs, vc, c5, c6, c7] :: o4 :: T) nx) :
    VCall Try.prog 26 [.ptr 3 sm 4] (o0 :: o1 :: o2 :: mcO sm [c0, c1, c2, vs, vc, c5, c6, c7] :: o4 :: T) nx C := by
  refine VCall.of_body hmix f_stack_pile_stack_frame_size (by simp) ?_
  rcases h with ⟨rfl, rfl⟩ | ⟨k, s, rest, rfl, hT⟩
  · simp only [go_sem,Nat.reduceEqDiff,Nat.reduceAdd,Nat.reduceMul,↓reduceIte,↓dreduceIte,reduceCtorEq,Nat.reduceLeDiff,Nat.reduceLT,Nat.reduceSub,Int.reduceToNat,Int.reduceLE,Int.reduceLT, c_stack_pile_stack_frame_size, ↓plen, one_ref]
    exact hC
  · simp only [go_sem,Nat.reduceEqDiff,Nat.reduceAdd,Nat.reduceMul,↓reduceIte,↓dreduceIte,reduceCtorEq,Nat.reduceLeDiff,Nat.reduceLT,Nat.reduceSub,Int.reduceToNat,Int.reduceLE,Int.reduceLT, c_stack_pile_stack_frame_size, ↓plen, one_ref, hT]
    repeat (refine And.intro (by first | omega | rfl) ?_)
    exact hC

theorem fpop_v (l : List Fm) (c : Fm) (hl : l.length ≤ 1000000) (h : PF T vc (c :: l)) (C : AV → List VObj → Nat → Prop)
    (hC : ∀ R vc' nx', PF (T ++ R) vc' l → C (.agg (frC c)) (o0 :: o1 :: o2 :: mcO sm [c0, c1, c2, vs, vc', c5, c6, c7] :: o4 :: (T ++ R)) nx') :
    VCall Try.prog 27 [.ptr 3 sm 4] (o0 :: o1 :: o2 :: mcO sm [c0, c1, c2, vs, vc, c5, c6, c7] :: o4 :: T) nx C := by
  refine VCall.of_body hmix f_stack_pile_stack_frame_pop (by simp) ?_
  rcases h with ⟨_, h⟩ | ⟨k, s, rest, rfl, hT⟩
  · cases h
  have e1' : IntKind.i64.wrap ((l.length : Int) + 1 - 1) = (l.length : Int) := by rw [i64_in (by omega) (by omega)]; omega
  have e2 : (c :: l).reverse.flatMap frC ++ rest = l.reverse.flatMap frC ++ I c.f :: I c.at_ :: rest := by simp [frC]
  rw [e2] at hT
  have hfl : (l.reverse.flatMap frC).length = l.length * 2 := by rw [frC_len, List.length_reverse]; omega
  have hcell : ∀ C : AV → Prop, cellT (l.reverse.flatMap frC ++ I c.f :: I c.at_ :: rest) (l.length * 2) true 2 C .mk = C (.agg [I c.f, I c.at_]) := fun C => by
    simp only [cellT, cellW, partOK, partA, if_true]
    rw [← hfl, List.drop_left]
    simp
  have hT1 : ∀ x : VObj, (T ++ [x])[k]? = some ⟨s, 66, 2, l.reverse.flatMap frC ++ I c.f :: I c.at_ :: rest⟩ := fun x => by
    rw [List.getElem?_append_left (List.getElem?_eq_some_iff.1 hT).1]; exact hT
  have hT2 : ∀ x y : VObj, (T ++ [x] ++ [y])[k]? = some ⟨s, 66, 2, l.reverse.flatMap frC ++ I c.f :: I c.at_ :: rest⟩ := fun x y => by
    rw [List.append_assoc, List.getElem?_append_left (List.getElem?_eq_some_iff.1 hT).1]; exact hT
  simp only [go_sem,Nat.reduceEqDiff,Nat.reduceAdd,Nat.reduceMul,↓reduceIte,↓dreduceIte,reduceCtorEq,Nat.reduceLeDiff,Nat.reduceLT,Nat.reduceSub,Int.reduceToNat,Int.reduceLE,Int.reduceLT, c_stack_pile_stack_frame_pop, ↓plen, ponx, pg0, pg01, pg1, ps0, ps1, ps01, hT1, hT2, one_ref, List.length_cons, Int.natCast_add, Int.cast_ofNat_Int, e1', hcell]
  repeat (refine And.intro (by first | omega | rfl) ?_)
  have := hC [⟨nx, 66, 1, [I c.f, I c.at_]⟩, ⟨nx + 1, 66, 1, [I c.f, I c.at_]⟩] (.ref (k + 5) s 0 l.length) (nx + 1 + 1)
    (.inr ⟨k, s, I c.f :: I c.at_ :: rest, rfl, by rw [List.getElem?_append_left (List.getElem?_eq_some_iff.1 hT).1]; exact hT⟩)
  simpa [frC] using this
end
end Go.Proofs.Ytdfdkoajphcjbaa
