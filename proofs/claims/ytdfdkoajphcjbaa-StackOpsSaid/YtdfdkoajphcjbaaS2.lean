/-
  The stack's machine: its piles: contracts. No condition.
-/
import Derived.Test.YtdfdkoajphcjbaaS1
namespace Go.Proofs.Ytdfdkoajphcjbaa
set_option linter.unusedSimpArgs false
set_option linter.unusedVariables false
set_option maxRecDepth 10000
open Go.V

section
variable {α : Type}
theorem plen (a b c d e : α) (T : List α) : (a :: b :: c :: d :: e :: T).length = T.length + 5 := rfl
theorem ponx (T : List α) (x : α) : (T ++ [x]).length = T.length + 1 := by simp
theorem pg0 (T : List α) (x : α) : (T ++ [x])[T.length]? = some x := by simp
theorem pg01 (T : List α) (x y : α) : (T ++ [x] ++ [y])[T.length]? = some x := by simp
theorem pg1 (T : List α) (x y : α) : (T ++ [x] ++ [y])[T.length + 1]? = some y := by simp
theorem ps0 (T : List α) (x y : α) : (T ++ [x]).set T.length y = T ++ [y] := by simp
theorem ps1 (T : List α) (x y z : α) : (T ++ [x] ++ [y]).set (T.length + 1) z = T ++ [x] ++ [z] := by
  rw [List.set_append_right _ _ (by simp)]; simp
theorem pg01' (T : List α) (x y : α) : (T ++ [x, y])[T.length]? = some x := by simp
theorem pg1' (T : List α) (x y : α) : (T ++ [x, y])[T.length + 1]? = some y := by simp
end

/-- A pile of words, the top first. -/
def PW (T : List VObj) (v : AV) (l : List Int) : Prop :=
  (v = nilv ∧ l = []) ∨ ∃ k s rest, v = .ref (k + 5) s 0 l.length ∧ T[k]? = some ⟨s, 34, 1, l.reverse.map U32 ++ rest⟩ ∧ rest.all AV.one = true
def frC (c : Fm) : List AV := [I c.f, I c.at_]
/-- A pile of calls. -/
def PF (T : List VObj) (v : AV) (l : List Fm) : Prop :=
  (v = nilv ∧ l = []) ∨ ∃ k s rest, v = .ref (k + 5) s 0 l.length ∧ T[k]? = some ⟨s, 66, 2, l.reverse.flatMap frC ++ rest⟩
/-- What was put out. -/
def PO (T : List VObj) (v : AV) (l : List UInt8) : Prop :=
  (v = nilv ∧ l = []) ∨ ∃ k s, v = .ref (k + 5) s 0 l.length ∧ T[k]? = some ⟨s, 5, 1, l.map U8⟩
/-- All objects but those of a type stay. -/
def Kp (ty : Nat) (T T' : List VObj) : Prop := ∀ (k : Nat) (ob : VObj), T[k]? = some ob → ob.ty ≠ ty → T'[k]? = some ob
theorem Kp.refl (ty : Nat) (T : List VObj) : Kp ty T T := fun _ _ h _ => h
theorem Kp.add {ty : Nat} {T : List VObj} (R : List VObj) : Kp ty T (T ++ R) := fun k ob h _ => by rw [List.getElem?_append_left (List.getElem?_eq_some_iff.1 h).1]; exact h
theorem Kp.put {ty : Nat} {T : List VObj} {k : Nat} {ob ob' : VObj} (h : T[k]? = some ob) (ht : ob.ty = ty) : Kp ty T (T.set k ob') := fun i o h1 h2 => by
  have hne : k ≠ i := fun e => by subst e; rw [h] at h1; cases h1; exact h2 ht
  rw [List.getElem?_set, if_neg hne]; exact h1
theorem Kp.trans {ty : Nat} {T T' T'' : List VObj} (h : Kp ty T T') (k : Kp ty T' T'') : Kp ty T T'' := fun i ob h1 h2 => k i ob (h i ob h1 h2) h2
theorem PW.kp {ty : Nat} {T T' : List VObj} {v : AV} {l : List Int} (h : PW T v l) (k : Kp ty T T') (ht : 34 ≠ ty) : PW T' v l := by
  rcases h with h | ⟨k0, s, rest, h1, h2, h3⟩
  · exact .inl h
  · exact .inr ⟨k0, s, rest, h1, k _ _ h2 ht, h3⟩
theorem PF.kp {ty : Nat} {T T' : List VObj} {v : AV} {l : List Fm} (h : PF T v l) (k : Kp ty T T') (ht : 66 ≠ ty) : PF T' v l := by
  rcases h with h | ⟨k0, s, rest, h1, h2⟩
  · exact .inl h
  · exact .inr ⟨k0, s, rest, h1, k _ _ h2 ht⟩
theorem PO.kp {ty : Nat} {T T' : List VObj} {v : AV} {l : List UInt8} (h : PO T v l) (k : Kp ty T T') (ht : 5 ≠ ty) : PO T' v l := by
  rcases h with h | ⟨k0, s, h1, h2⟩
  · exact .inl h
  · exact .inr ⟨k0, s, h1, k _ _ h2 ht⟩
theorem PW.one {T : List VObj} {v : AV} {l : List Int} (h : PW T v l) : v.one = true := by
  rcases h with ⟨h, _⟩ | ⟨_, _, _, h, _, _⟩ <;> rw [h] <;> rfl
theorem PF.one {T : List VObj} {v : AV} {l : List Fm} (h : PF T v l) : v.one = true := by
  rcases h with ⟨h, _⟩ | ⟨_, _, _, h, _⟩ <;> rw [h] <;> rfl
theorem PO.one {T : List VObj} {v : AV} {l : List UInt8} (h : PO T v l) : v.one = true := by
  rcases h with ⟨h, _⟩ | ⟨_, _, h, _⟩ <;> rw [h] <;> rfl
/-- An object's stamp stays. -/
theorem Stab.put {H : List VObj} {k : Nat} {ob ob' : VObj} (h : H[k]? = some ob) (hs : ob'.s = ob.s) (hz : ob'.sz = ob.sz) : Stab (fun _ => True) 1 H (H.set k ob') := fun id o _ ho => by
  rw [List.getElem?_set]
  by_cases e : k = id
  · subst e
    rw [h] at ho; cases ho
    rw [if_pos rfl, if_pos (List.getElem?_eq_some_iff.1 h).1]; exact ⟨_, rfl, hs, hz⟩
  · rw [if_neg e]; exact ⟨o, ho, rfl, rfl⟩

abbrev mcO (sm : Nat) (cs : List AV) : VObj := ⟨sm, 64, 1, cs⟩

section
variable (c0 c1 c2 vs vc c5 c6 c7 : AV) (o0 o1 o2 o4 : VObj) (T : List VObj) (sm nx : Nat)

theorem push_v (l : List Int) (v : Int) (hl : l.length ≤ 1000000) (h : PW T vs l) (C : AV → List VObj → Nat → Prop)
    (hC : ∀ r T' vs' nx', PW T' vs' (v :: l) → Kp 34 T T' → C r (o0 :: o1 :: o2 :: mcO sm [c0, c1, c2, vs', vc, c5, c6, c7] :: o4 :: T') nx') :
    VCall Try.prog 42 [.ptr 3 sm 3, U32 v] (o0 :: o1 :: o2 :: mcO sm [c0, c1, c2, vs, vc, c5, c6, c7] :: o4 :: T) nx C := by
  refine VCall.of_body hmix f_stack_pile_uint32_push (by simp) ?_
  have hmx : (2000000 : Nat) ≤ maxLen := by decide
  have h1 := h.one
  rcases h with ⟨rfl, rfl⟩ | ⟨k, s, rest, rfl, hT, hr1⟩
  · simp only [go_sem,Nat.reduceEqDiff,Nat.reduceAdd,Nat.reduceMul,↓reduceIte,↓dreduceIte,reduceCtorEq,Nat.reduceLeDiff,Nat.reduceLT,Nat.reduceSub,Int.reduceToNat,Int.reduceLE,Int.reduceLT, c_stack_pile_uint32_push, ↓plen, ponx, pg0, pg01, pg1, ps0, ps1]
    repeat (refine And.intro (by omega) ?_)
    refine hC _ _ _ _ (.inr ⟨T.length + 1, nx + 1, [], rfl, ?_, rfl⟩) ?_
    · rw [pg1]; simp
    · rw [List.append_assoc]; exact Kp.add _
  · have hT2 : ∀ x : VObj, (T ++ [x])[k]? = some ⟨s, 34, 1, l.reverse.map U32 ++ rest⟩ := fun x => by rw [List.getElem?_append_left (List.getElem?_eq_some_iff.1 hT).1]; exact hT
    have hk := (List.getElem?_eq_some_iff.1 hT).1
    simp only [go_sem,Nat.reduceEqDiff,Nat.reduceAdd,Nat.reduceMul,↓reduceIte,↓dreduceIte,reduceCtorEq,Nat.reduceLeDiff,Nat.reduceLT,Nat.reduceSub,Int.reduceToNat,Int.reduceLE,Int.reduceLT, c_stack_pile_uint32_push, ↓plen, ponx, pg0, pg01, pg1, ps0, ps1, hT2, one_ref]
    repeat (refine And.intro (by first | omega | rfl) ?_)
    refine hC _ _ _ _ (.inr ⟨k, nx + 1, [], rfl, ?_, rfl⟩) ?_
    · rw [List.getElem?_set, if_pos rfl, if_pos (by simp; omega)]
      rw [List.take_append_of_le_length (by simp)]; simp [List.take_of_length_le]
    · exact (Kp.add _).trans (Kp.put (hT2 _) rfl)

theorem pop_v (l : List Int) (v : Int) (hl : l.length ≤ 1000000) (h : PW T vs (v :: l)) (C : AV → List VObj → Nat → Prop)
    (hC : ∀ vs', PW T vs' l → C (U32 v) (o0 :: o1 :: o2 :: mcO sm [c0, c1, c2, vs', vc, c5, c6, c7] :: o4 :: T) nx) :
    VCall Try.prog 23 [.ptr 3 sm 3] (o0 :: o1 :: o2 :: mcO sm [c0, c1, c2, vs, vc, c5, c6, c7] :: o4 :: T) nx C := by
  refine VCall.of_body hmix f_stack_pile_uint32_pop (by simp) ?_
  rcases h with ⟨_, h⟩ | ⟨k, s, rest, rfl, hT, hr1⟩
  · cases h
  have e2 : (v :: l).reverse.map U32 ++ rest = l.reverse.map U32 ++ U32 v :: rest := by simp
  rw [e2] at hT
  have e1' : IntKind.i64.wrap ((l.length : Int) + 1 - 1) = (l.length : Int) := by rw [i64_in (by omega) (by omega)]; omega
  have hcell : ∀ C : AV → Prop, cellT (l.reverse.map U32 ++ U32 v :: rest) l.length false 1 C .mk = C (U32 v) := fun C => by
    have e : (l.reverse.map U32 ++ U32 v :: rest).getD l.length .dead = U32 v := by simp [List.getD]
    simp only [cellT, cellW, partOK, partA, e]; simp [AV.one, Value.oneCell']
  simp only [go_sem,Nat.reduceEqDiff,Nat.reduceAdd,Nat.reduceMul,↓reduceIte,↓dreduceIte,reduceCtorEq,Nat.reduceLeDiff,Nat.reduceLT,Nat.reduceSub,Int.reduceToNat,Int.reduceLE,Int.reduceLT, c_stack_pile_uint32_pop, ↓plen, hT, one_ref, List.length_cons, Int.natCast_add, Int.cast_ofNat_Int, e1', hcell]
  repeat (refine And.intro (by first | omega | rfl) ?_)
  exact hC _ (.inr ⟨k, s, _, rfl, hT, by simpa [AV.one, Value.oneCell'] using hr1⟩)

theorem take_v (l : List Int) (n : Int) (hn : 0 ≤ n ∧ n ≤ l.length) (hl : l.length ≤ 1000000) (h : PW T vs l) (C : AV → List VObj → Nat → Prop)
    (hC : ∀ vs' r, PW T vs' (l.drop n.toNat) → ((r = nilv ∧ n = 0) ∨ ∃ k s rest, r = .ref (k + 5) s (l.length - n.toNat) n.toNat ∧ T[k]? = some ⟨s, 34, 1, l.reverse.map U32 ++ rest⟩ ∧ rest.all AV.one = true) →
      C r (o0 :: o1 :: o2 :: mcO sm [c0, c1, c2, vs', vc, c5, c6, c7] :: o4 :: T) nx) :
    VCall Try.prog 41 [.ptr 3 sm 3, I n] (o0 :: o1 :: o2 :: mcO sm [c0, c1, c2, vs, vc, c5, c6, c7] :: o4 :: T) nx C := by
  refine VCall.of_body hmix f_stack_pile_uint32_take (by simp) ?_
  obtain ⟨hn1, hn2⟩ := hn
  rcases h with ⟨rfl, rfl⟩ | ⟨k, s, rest, rfl, hT, hr1⟩
  · obtain rfl : n = 0 := by simp at hn2; omega
    have e0 : IntKind.i64.wrap (0 - 0) = 0 := rfl
    simp only [go_sem,Nat.reduceEqDiff,Nat.reduceAdd,Nat.reduceMul,↓reduceIte,↓dreduceIte,reduceCtorEq,Nat.reduceLeDiff,Nat.reduceLT,Nat.reduceSub,Int.reduceToNat,Int.reduceLE,Int.reduceLT, c_stack_pile_uint32_take, ↓plen, one_ref, e0]
    exact hC _ _ (.inl ⟨rfl, rfl⟩) (.inl ⟨rfl, rfl⟩)
  · have e1 : IntKind.i64.wrap ((l.length : Int) - n) = ((l.length - n.toNat : Nat) : Int) := by rw [i64_in (by omega) (by omega)]; omega
    simp only [go_sem,Nat.reduceEqDiff,Nat.reduceAdd,Nat.reduceMul,↓reduceIte,↓dreduceIte,reduceCtorEq,Nat.reduceLeDiff,Nat.reduceLT,Nat.reduceSub,Int.reduceToNat,Int.reduceLE,Int.reduceLT, c_stack_pile_uint32_take, ↓plen, hT, one_ref, e1]
    repeat (refine And.intro (by first | omega | rfl) ?_)
    rw [show l.length - (l.length - n.toNat) = n.toNat by omega, show l.length - n.toNat - 0 = (l.drop n.toNat).length by simp]
    refine hC _ _ (.inr ⟨k, s, (l.take n.toNat).reverse.map U32 ++ rest, rfl, ?_, ?_⟩) (.inr ⟨k, s, rest, rfl, hT, hr1⟩)
    · rw [hT, ← List.append_assoc, ← List.map_append, ← List.reverse_append, List.take_append_drop]
    · rw [List.all_append, hr1, Bool.and_true]; exact one_map (fun _ => rfl) _
end
end Go.Proofs.Ytdfdkoajphcjbaa
