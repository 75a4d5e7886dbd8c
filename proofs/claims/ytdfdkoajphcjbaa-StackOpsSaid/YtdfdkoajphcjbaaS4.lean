/-
  The stack's machine: an instruction that goes on behind itself; a function's beginning: contracts. No condition.
-/
import Derived.Test.YtdfdkoajphcjbaaS3
namespace Go.Proofs.Ytdfdkoajphcjbaa
set_option linter.unusedSimpArgs false
set_option linter.unusedVariables false
set_option maxRecDepth 10000
open Go.V

theorem stab3 {o0 o1 o2 o3 o3' o4 : VObj} {T : List VObj} (h : o3'.s = o3.s) (hz : o3'.sz = o3.sz) : Stab (fun _ => True) 1 (o0 :: o1 :: o2 :: o3 :: o4 :: T) (o0 :: o1 :: o2 :: o3' :: o4 :: T) :=
  Stab.put (H := o0 :: o1 :: o2 :: o3 :: o4 :: T) (k := 3) (ob := o3) (ob' := o3') rfl h hz

theorem own_eq {α : Type} (m : List α) (f s p : Nat) (z : α) (xs : List α) (ha : xs.length = p) (hp : p ≤ s) (hs : f + s ≤ m.length) :
    (m.take f ++ List.replicate s z ++ m.drop (f + s)).take f ++ xs.take (min s p) ++ (m.take f ++ List.replicate s z ++ m.drop (f + s)).drop (f + min s p) = m.take f ++ (xs ++ List.replicate (s - p) z) ++ m.drop (f + s) := by
  have hf : (m.take f).length = f := by simp; omega
  rw [Nat.min_eq_right hp, List.take_of_length_le (by omega : xs.length ≤ p)]
  have e1 : (m.take f ++ List.replicate s z ++ m.drop (f + s)).take f = m.take f := by
    rw [List.append_assoc, List.take_append_of_le_length (by omega), List.take_of_length_le (by omega)]
  have e2 : (m.take f ++ List.replicate s z ++ m.drop (f + s)).drop (f + p) = List.replicate (s - p) z ++ m.drop (f + s) := by
    rw [List.append_assoc, List.drop_append, List.drop_eq_nil_of_le (by omega), hf, Nat.add_sub_cancel_left, List.nil_append, List.drop_append_of_le_length (by simp; omega), List.drop_replicate]
  rw [e1, e2]; simp
theorem args_eq (l : List Int) (rest : List AV) (p : Nat) (hp : p ≤ l.length) : ((l.reverse.map U32 ++ rest).drop (l.length - p)).take p = ((l.take p).reverse).map U32 := by
  have e : l.reverse = (l.drop p).reverse ++ (l.take p).reverse := by rw [← List.reverse_append, List.take_append_drop]
  rw [e, List.map_append, List.append_assoc, List.drop_append, List.drop_eq_nil_of_le (by simp), List.nil_append]
  simp only [List.length_map, List.length_reverse, List.length_drop, Nat.sub_self, List.drop_zero]
  rw [List.take_append_of_le_length (by simp; omega), List.take_of_length_le (by simp; omega)]

section
variable (c0 c1 vs vc vo : AV) (inp : ByteArray) (o0 o1 o4 : VObj) (T : List VObj) (s2 sm nx : Nat) (mem : List Int) (rd : Nat)
abbrev wdO (s2 : Nat) (mem : List Int) : VObj := ⟨s2, 34, 1, mem.map U32⟩

theorem not_v (v : Int) (H : List VObj) (C : AV → List VObj → Nat → Prop) (hC : C (U32 (if v = 0 then 1 else 0)) H nx) : VCall Try.prog 43 [U32 v] H nx C := by
  refine VCall.of_body hmix f_stack_not (by simp) ?_
  by_cases h : v = 0
  · simp only [go_sem,Nat.reduceEqDiff,Nat.reduceAdd,Nat.reduceMul,↓reduceIte,↓dreduceIte,reduceCtorEq,Nat.reduceLeDiff,Nat.reduceLT,Nat.reduceSub,Int.reduceToNat,Int.reduceLE,Int.reduceLT, c_stack_not, eq_true h]; rw [if_pos h] at hC; exact hC
  · simp only [go_sem,Nat.reduceEqDiff,Nat.reduceAdd,Nat.reduceMul,↓reduceIte,↓dreduceIte,reduceCtorEq,Nat.reduceLeDiff,Nat.reduceLT,Nat.reduceSub,Int.reduceToNat,Int.reduceLE,Int.reduceLT, c_stack_not, eq_false h]; rw [if_neg h] at hC; exact hC

theorem sget_v (hi : inp.size ≤ 1000000000) (hr : rd ≤ 1000000000) (C : AV → List VObj → Nat → Prop)
    (hC : C (U32 (if rd < inp.size then byteAt inp rd else 256)) (o0 :: o1 :: wdO s2 mem :: mcO sm [c0, c1, .ref 2 s2 0 mem.length, vs, vc, strv inp, I ((if rd < inp.size then rd + 1 else rd : Nat) : Int), vo] :: o4 :: T) nx) :
    VCall Try.prog 44 [.ptr 3 sm 0] (o0 :: o1 :: wdO s2 mem :: mcO sm [c0, c1, .ref 2 s2 0 mem.length, vs, vc, strv inp, I rd, vo] :: o4 :: T) nx C := by
  refine VCall.of_body hmix f_stack_machine_get (by simp) ?_
  by_cases h : rd < inp.size
  · have h1 : ¬ (inp.size : Int) ≤ (rd : Int) := by omega
    have h2 : (rd : Int) < (inp.size : Int) := by omega
    have e1 : IntKind.i64.wrap ((rd : Int) + 1) = ((rd + 1 : Nat) : Int) := by rw [i64_in (by omega) (by omega)]; omega
    rw [if_pos h, if_pos h] at hC
    have hb : IntKind.u32.wrap (byteAt inp rd) = byteAt inp rd := by
      refine w32_in ⟨?_, ?_⟩ <;> unfold byteAt
      · omega
      · have := (inp.data.toList.getD rd 0).toNat_lt; omega
    simp only [go_sem,Nat.reduceEqDiff,Nat.reduceAdd,Nat.reduceMul,↓reduceIte,↓dreduceIte,reduceCtorEq,Nat.reduceLeDiff,Nat.reduceLT,Nat.reduceSub,Int.reduceToNat,Int.reduceLE,Int.reduceLT, c_stack_machine_get, ↓plen, eq_false h1, e1, hb]
    exact ⟨h, hC⟩
  · have h1 : (inp.size : Int) ≤ (rd : Int) := by omega
    rw [if_neg h, if_neg h] at hC
    simp only [go_sem,Nat.reduceEqDiff,Nat.reduceAdd,Nat.reduceMul,↓reduceIte,↓dreduceIte,reduceCtorEq,Nat.reduceLeDiff,Nat.reduceLT,Nat.reduceSub,Int.reduceToNat,Int.reduceLE,Int.reduceLT, c_stack_machine_get, ↓plen, eq_true h1]
    exact hC

theorem enter_v (g : SF) (l : List Int) (hg : CallOK g mem.length l.length) (hm : mem.length ≤ 1000000) (hl : l.length ≤ 1000000) (h : PW T vs l) (C : AV → List VObj → Nat → Prop)
    (hC : ∀ r R vs' nx', PW (T ++ R) vs' (l.drop g.params.toNat) → C r (o0 :: o1 :: wdO s2 (putR mem g.first.toNat (ownW g l)) :: mcO sm [c0, c1, .ref 2 s2 0 mem.length, vs', vc, strv inp, I rd, vo] :: o4 :: (T ++ R)) nx') :
    VCall Try.prog 24 [.ptr 3 sm 0, sfA g] (o0 :: o1 :: wdO s2 mem :: mcO sm [c0, c1, .ref 2 s2 0 mem.length, vs, vc, strv inp, I rd, vo] :: o4 :: T) nx C := by
  refine VCall.of_body hmix f_stack_machine_enter (by simp) ?_
  obtain ⟨g1, g2, g3, g4, g5⟩ := hg
  have e1 : IntKind.i64.wrap (g.first + g.slots) = g.first + g.slots := i64_in (by omega) (by omega)
  simp only [go_sem,Nat.reduceEqDiff,Nat.reduceAdd,Nat.reduceMul,↓reduceIte,↓dreduceIte,reduceCtorEq,Nat.reduceLeDiff,Nat.reduceLT,Nat.reduceSub,Int.reduceToNat,Int.reduceLE,Int.reduceLT, c_stack_machine_enter, ↓plen, ponx, pg0, ps0, one_ref, one_imm, e1]
  repeat (refine And.intro (by first | omega | rfl) ?_)
  refine take_v c0 c1 _ vs vc _ _ vo o0 o1 _ o4 _ sm _ l g.params ⟨g1, g5⟩ hl (by
    rcases h with h | ⟨k, s, rest, q1, q2, q3⟩
    · exact .inl h
    · exact .inr ⟨k, s, rest, q1, by rw [List.getElem?_append_left (List.getElem?_eq_some_iff.1 q2).1]; exact q2, q3⟩) _ fun vs' r h1 h2 => ?_
  refine ⟨stab3 rfl rfl, ?_⟩
  have e2 : (g.first + g.slots).toNat - g.first.toNat = g.slots.toNat := by omega
  have e3 : g.first.toNat + g.slots.toNat = g.first.toNat + (ownW g l).length := by rw [ownW_length ⟨g1, g2, g3, g4, g5⟩ rfl]
  have key : ∀ xs : List AV, xs = ((l.take g.params.toNat).reverse).map U32 →
      (((mem.map U32).take g.first.toNat ++ List.replicate g.slots.toNat (AV.val (.int .u32 0)) ++ (mem.map U32).drop (g.first.toNat + g.slots.toNat)).take g.first.toNat ++ xs.take (min g.slots.toNat g.params.toNat) ++
        ((mem.map U32).take g.first.toNat ++ List.replicate g.slots.toNat (AV.val (.int .u32 0)) ++ (mem.map U32).drop (g.first.toNat + g.slots.toNat)).drop (g.first.toNat + min g.slots.toNat g.params.toNat)) =
      (putR mem g.first.toNat (ownW g l)).map U32 := fun xs hx => by
    rw [own_eq (mem.map U32) g.first.toNat g.slots.toNat g.params.toNat (AV.val (.int .u32 0)) xs (by rw [hx]; simp; omega) (by omega) (by simp; omega), hx, e3]
    simp [putR, ownW]
  rcases h2 with ⟨rfl, h0⟩ | ⟨k, s, rest, rfl, hT, hr1⟩
  · have h00 : g.params.toNat = 0 := by omega
    have k1 := key [] (by rw [h00]; simp)
    rw [h00, Nat.min_zero] at k1
    simp only [go_sem,Nat.reduceEqDiff,Nat.reduceAdd,Nat.reduceMul,↓reduceIte,↓dreduceIte,reduceCtorEq,Nat.reduceLeDiff,Nat.reduceLT,Nat.reduceSub,Int.reduceToNat,Int.reduceLE,Int.reduceLT, ↓plen, ponx, pg0, ps0, one_ref, one_imm, e2, Nat.min_zero]
    simp only [List.take_zero, List.append_nil, Nat.add_zero] at k1
    rw [k1]
    exact hC _ _ _ _ h1
  · have k1 := key _ (args_eq l rest g.params.toNat (by omega))
    have hall : (l.reverse.map U32 ++ rest).all AV.one = true := by rw [List.all_append, hr1, Bool.and_true]; exact one_map (fun _ => rfl) _
    simp only [go_sem,Nat.reduceEqDiff,Nat.reduceAdd,Nat.reduceMul,↓reduceIte,↓dreduceIte,reduceCtorEq,Nat.reduceLeDiff,Nat.reduceLT,Nat.reduceSub,Int.reduceToNat,Int.reduceLE,Int.reduceLT, ↓plen, ponx, pg0, ps0, one_ref, one_imm, e2, hT, hall]
    rw [k1]
    exact hC _ _ _ _ h1
end
end Go.Proofs.Ytdfdkoajphcjbaa
