/-
  The document's stack machine: its piles: contracts. No condition.
-/
import Derived.Test.YtdfdkoajphcjbaaS6
namespace Go.Proofs.Ytdfdkoajphcjbaa
set_option linter.unusedSimpArgs false
set_option linter.unusedVariables false
set_option maxRecDepth 10000
open Go.V

/-- The objects of a run by the document's machine: the memory and the calls lie in either order. -/
def hpR (sw : Bool) (o0 o1 mem calls mach : VObj) (T : List VObj) : List VObj := o0 :: o1 :: (if sw then mem else calls) :: (if sw then calls else mem) :: mach :: T
def mi (sw : Bool) : Nat := if sw then 2 else 3
def ci (sw : Bool) : Nat := if sw then 3 else 2
section
variable {sw : Bool} {o0 o1 mem calls mach x : VObj} {T : List VObj} {k : Nat}
theorem q_mach : (hpR sw o0 o1 mem calls mach T)[4]? = some mach := rfl
theorem q_0 : (hpR sw o0 o1 mem calls mach T)[0]? = some o0 := rfl
theorem q_1 : (hpR sw o0 o1 mem calls mach T)[1]? = some o1 := rfl
theorem q_mem : (hpR sw o0 o1 mem calls mach T)[mi sw]? = some mem := by cases sw <;> rfl
theorem q_calls : (hpR sw o0 o1 mem calls mach T)[ci sw]? = some calls := by cases sw <;> rfl
theorem q_T : (hpR sw o0 o1 mem calls mach T)[k + 5]? = T[k]? := rfl
theorem q_len : (hpR sw o0 o1 mem calls mach T).length = T.length + 5 := rfl
theorem q_add : hpR sw o0 o1 mem calls mach T ++ [x] = hpR sw o0 o1 mem calls mach (T ++ [x]) := rfl
theorem qs_mach : (hpR sw o0 o1 mem calls mach T).set 4 x = hpR sw o0 o1 mem calls x T := rfl
theorem qs_1 : (hpR sw o0 o1 mem calls mach T).set 1 x = hpR sw o0 x mem calls mach T := rfl
theorem qs_mem : (hpR sw o0 o1 mem calls mach T).set (mi sw) x = hpR sw o0 o1 x calls mach T := by cases sw <;> rfl
theorem qs_calls : (hpR sw o0 o1 mem calls mach T).set (ci sw) x = hpR sw o0 o1 mem x mach T := by cases sw <;> rfl
theorem qs_T : (hpR sw o0 o1 mem calls mach T).set (k + 5) x = hpR sw o0 o1 mem calls mach (T.set k x) := rfl
end

def idOf : AV → Option Nat
  | .ref id _ _ _ => some id
  | _ => none
/-- What changes where a pile grows, or is taken from. -/
def UpT (T T' : List VObj) (v v' : AV) : Prop :=
  (∀ (k : Nat) (ob : VObj), T[k]? = some ob → idOf v ≠ some (k + 5) → T'[k]? = some ob) ∧ (idOf v' = idOf v ∨ ∃ k, idOf v' = some (k + 5) ∧ T.length ≤ k)
/-- Calls' piles, the upmost call first: no two in one object. -/
def FA (T : List VObj) : List Fm → List AV → Prop
  | [], vs => vs = []
  | c :: fs, vs => ∃ v l, vs = v :: l ∧ PW T v c.L ∧ FA T fs l ∧ ∀ u ∈ l, idOf u = none ∨ idOf u ≠ idOf v
theorem PW.get {T : List VObj} {v : AV} {l : List Int} {k : Nat} (h : PW T v l) (hv : idOf v = some (k + 5)) : ∃ ob : VObj, T[k]? = some ob ∧ ob.ty = 34 := by
  rcases h with ⟨rfl, _⟩ | ⟨k', s, rest, rfl, h2, _⟩
  · cases hv
  · simp only [idOf, Option.some.injEq] at hv
    obtain rfl : k = k' := by omega
    exact ⟨_, h2, rfl⟩
theorem PW.up {T T' : List VObj} {v v' u : AV} {l : List Int} (h : PW T u l) (k : UpT T T' v v') (hn : idOf u = none ∨ idOf u ≠ idOf v) : PW T' u l := by
  rcases h with h | ⟨k0, s, rest, rfl, h2, h3⟩
  · exact .inl h
  · refine .inr ⟨k0, s, rest, rfl, k.1 _ _ h2 fun e => ?_, h3⟩
    rcases hn with hn | hn
    · cases hn
    · exact hn e.symm
theorem FA.up {T T' : List VObj} {v v' : AV} (k : UpT T T' v v') : ∀ {fs : List Fm} {vs : List AV}, FA T fs vs → (∀ u ∈ vs, idOf u = none ∨ idOf u ≠ idOf v) → FA T' fs vs ∧ ∀ u ∈ vs, idOf u = none ∨ idOf u ≠ idOf v'
  | [], vs, h, _ => by simp only [FA] at h; subst h; exact ⟨rfl, by simp⟩
  | c :: fs, vs, h, hn => by
    simp only [FA] at h
    obtain ⟨u, l, rfl, h1, h2, h3⟩ := h
    obtain ⟨g1, g2⟩ := FA.up k h2 fun x hx => hn x (List.mem_cons_of_mem _ hx)
    refine ⟨⟨u, l, rfl, h1.up k (hn u (by simp)), g1, h3⟩, fun x hx => ?_⟩
    rcases List.mem_cons.1 hx with rfl | hx
    · rcases k.2 with e | ⟨j, e, hj⟩
      · rw [e]; exact hn x (by simp)
      · rw [e]
        cases hx : idOf x with
        | none => exact .inl rfl
        | some i =>
          refine .inr fun e2 => ?_
          cases e2
          obtain ⟨ob, ho, _⟩ := h1.get hx
          have := (List.getElem?_eq_some_iff.1 ho).1
          omega
    · exact g2 x hx
theorem PO.up {T T' : List VObj} {v v' u : AV} {l : List UInt8} {m : List Int} (h : PO T u l) (hv : PW T v m) (k : UpT T T' v v') : PO T' u l := by
  rcases h with h | ⟨k0, s, rfl, h2⟩
  · exact .inl h
  · refine .inr ⟨k0, s, rfl, k.1 _ _ h2 fun e => ?_⟩
    obtain ⟨ob, g1, g2⟩ := hv.get e
    rw [h2] at g1; cases g1; exact absurd g2 (by show ¬ 5 = 34; decide)
theorem FA.add {T : List VObj} (R : List VObj) : ∀ {fs : List Fm} {vs : List AV}, FA T fs vs → FA (T ++ R) fs vs
  | [], vs, h => by simp only [FA] at h; subst h; rfl
  | c :: fs, vs, h => by
    simp only [FA] at h
    obtain ⟨u, l, rfl, h1, h2, h3⟩ := h
    exact ⟨u, l, rfl, h1.add R, FA.add R h2, h3⟩
theorem UpT.same {T : List VObj} {v v' : AV} (h : idOf v' = idOf v) : UpT T T v v' := ⟨fun _ _ h _ => h, .inl h⟩

abbrev frO (sc : Nat) (cs : List AV) : VObj := ⟨sc, 75, 3, cs⟩
abbrev rmO (sM : Nat) (cs : List AV) : VObj := ⟨sM, 78, 1, cs⟩
section
variable {bel junk : List AV} {F A v : AV} {t : Nat}
theorem fr_len (ht : bel.length = t * 3) : (bel ++ F :: A :: v :: junk).length = t * 3 + 3 + junk.length := by simp [ht]; omega
theorem fr_0 (ht : bel.length = t * 3) {C : AV → Prop} : cellT (bel ++ F :: A :: v :: junk) (t * 3) false 1 C .mk = (F.one = true ∧ C F) := by
  have e : (bel ++ F :: A :: v :: junk).getD (t * 3) .dead = F := by rw [← ht]; simp [List.getD]
  simp only [cellT, cellW, partOK, partA, e, fr_len ht]; simp <;> omega
theorem fr_1 (ht : bel.length = t * 3) {C : AV → Prop} : cellT (bel ++ F :: A :: v :: junk) (t * 3 + 1) false 1 C .mk = (A.one = true ∧ C A) := by
  have e : (bel ++ F :: A :: v :: junk).getD (t * 3 + 1) .dead = A := by rw [← ht, List.getD, List.getElem?_append_right (by omega)]; simp
  simp only [cellT, cellW, partOK, partA, e, fr_len ht]; simp <;> omega
theorem fr_2 (ht : bel.length = t * 3) {C : AV → Prop} : cellT (bel ++ F :: A :: v :: junk) (t * 3 + 2) false 1 C .mk = (v.one = true ∧ C v) := by
  have e : (bel ++ F :: A :: v :: junk).getD (t * 3 + 2) .dead = v := by rw [← ht, List.getD, List.getElem?_append_right (by omega)]; simp
  simp only [cellT, cellW, partOK, partA, e, fr_len ht]; simp <;> omega
theorem fr_all (ht : bel.length = t * 3) {C : AV → Prop} : cellT (bel ++ F :: A :: v :: junk) (t * 3) true 3 C .mk = C (.agg [F, A, v]) := by
  have e : (bel ++ F :: A :: v :: junk).drop (t * 3) = F :: A :: v :: junk := by rw [← ht, List.drop_left]
  simp only [cellT, cellW, partOK, partA, e, if_true, fr_len ht]; simp <;> omega
theorem frs_1 (ht : bel.length = t * 3) {x : AV} : (bel ++ F :: A :: v :: junk).set (t * 3 + 1) x = bel ++ F :: x :: v :: junk := by
  rw [← ht, List.set_append_right _ _ (by omega)]; simp
theorem frs_2 (ht : bel.length = t * 3) {x : AV} : (bel ++ F :: A :: v :: junk).set (t * 3 + 2) x = bel ++ F :: A :: x :: junk := by
  rw [← ht, List.set_append_right _ _ (by omega)]; simp
end

section
variable (sw : Bool) (o0 o1 mem : VObj) (sc sM nx : Nat) (bel junk : List AV) (F A v : AV) (t : Nat) (c0 c1 c2 c3 c4 c5 c6 c7 : AV) (T : List VObj)

theorem rjump_v (ht : bel.length = t * 3) (h2 : t ≤ 1000000) (a : Int) (C : AV → List VObj → Nat → Prop)
    (hC : ∀ r, C r (hpR sw o0 o1 mem (frO sc (bel ++ F :: I a :: v :: junk)) (rmO sM [c0, c1, c2, c3, c4, c5, c6, c7, .ref (ci sw) sc 0 (t + 1)]) T) nx) :
    VCall Try.prog 45 [.ptr 4 sM 0, I a] (hpR sw o0 o1 mem (frO sc (bel ++ F :: A :: v :: junk)) (rmO sM [c0, c1, c2, c3, c4, c5, c6, c7, .ref (ci sw) sc 0 (t + 1)]) T) nx C := by
  refine VCall.of_body hmix f_scref20_M_jump (by simp) ?_
  have e1 : IntKind.i64.wrap (((t + 1 : Nat) : Int) - 1) = (t : Int) := by rw [i64_in (by omega) (by omega)]; omega
  simp only [go_sem,Nat.reduceEqDiff,Nat.reduceAdd,Nat.reduceMul,↓reduceIte,↓dreduceIte,reduceCtorEq,Nat.reduceLeDiff,Nat.reduceLT,Nat.reduceSub,Int.reduceToNat,Int.reduceLE,Int.reduceLT, c_scref20_M_jump, q_mach, q_calls, qs_calls, q_len, q_add, q_T, one_ref, one_imm, e1, frs_1 ht, fr_len ht]
  repeat (refine And.intro (by omega) ?_)
  exact hC _

theorem rpush_v (ht : bel.length = t * 3) (h2 : t ≤ 1000000) (l : List Int) (x : Int) (hl : l.length ≤ 1000000) (h : PW T v l) (C : AV → List VObj → Nat → Prop)
    (hC : ∀ r T' v' nx', PW T' v' (x :: l) → UpT T T' v v' → C r (hpR sw o0 o1 mem (frO sc (bel ++ F :: A :: v' :: junk)) (rmO sM [c0, c1, c2, c3, c4, c5, c6, c7, .ref (ci sw) sc 0 (t + 1)]) T') nx') :
    VCall Try.prog 46 [.ptr 4 sM 0, U32 x] (hpR sw o0 o1 mem (frO sc (bel ++ F :: A :: v :: junk)) (rmO sM [c0, c1, c2, c3, c4, c5, c6, c7, .ref (ci sw) sc 0 (t + 1)]) T) nx C := by
  refine VCall.of_body hmix f_scref20_M_push (by simp) ?_
  have hmx : (2000000 : Nat) ≤ maxLen := by decide
  have e1 : IntKind.i64.wrap (((t + 1 : Nat) : Int) - 1) = (t : Int) := by rw [i64_in (by omega) (by omega)]; omega
  rcases h with ⟨rfl, rfl⟩ | ⟨k, s, rest, rfl, hT, hr1⟩
  · have key : ∀ r, C r (hpR sw o0 o1 mem (frO sc (bel ++ F :: A :: AV.ref (T.length + 1 + 5) (nx + 1) 0 1 :: junk)) (rmO sM [c0, c1, c2, c3, c4, c5, c6, c7, .ref (ci sw) sc 0 (t + 1)]) (T ++ [(⟨nx, 34, 1, [U32 x]⟩ : VObj)] ++ [(⟨nx + 1, 34, 1, [U32 x]⟩ : VObj)])) (nx + 1 + 1) := fun r => by
      have hU : UpT T (T ++ [(⟨nx, 34, 1, [U32 x]⟩ : VObj)] ++ [(⟨nx + 1, 34, 1, [U32 x]⟩ : VObj)]) nilv (.ref (T.length + 1 + 5) (nx + 1) 0 1) := ⟨fun k ob hk _ => by
        rw [List.append_assoc, List.getElem?_append_left (List.getElem?_eq_some_iff.1 hk).1]; exact hk, .inr ⟨T.length + 1, rfl, by omega⟩⟩
      exact hC r _ _ _ (.inr ⟨T.length + 1, nx + 1, [], rfl, by rw [pg1]; rfl, rfl⟩) hU
    simp only [go_sem,Nat.reduceEqDiff,Nat.reduceAdd,Nat.reduceMul,↓reduceIte,↓dreduceIte,reduceCtorEq,Nat.reduceLeDiff,Nat.reduceLT,Nat.reduceSub,Int.reduceToNat,Int.reduceLE,Int.reduceLT, c_scref20_M_push, q_mach, q_calls, qs_calls, q_len, q_add, q_T, qs_T, one_ref, one_imm, e1, frs_2 ht, fr_2 ht, fr_len ht, ponx, pg0, pg01, pg1]
    repeat' apply And.intro
    all_goals first | omega | rfl | exact key _
  · have hk := (List.getElem?_eq_some_iff.1 hT).1
    have hT2 : ∀ y : VObj, (T ++ [y])[k]? = some ⟨s, 34, 1, l.reverse.map U32 ++ rest⟩ := fun y => by rw [List.getElem?_append_left hk]; exact hT
    have htk : List.take l.length (l.reverse.map U32 ++ rest) = l.reverse.map U32 := by rw [List.take_append_of_le_length (by simp)]; simp [List.take_of_length_le]
    have key : ∀ r, C r (hpR sw o0 o1 mem (frO sc (bel ++ F :: A :: AV.ref (k + 5) (nx + 1) 0 (l.length + 1) :: junk)) (rmO sM [c0, c1, c2, c3, c4, c5, c6, c7, .ref (ci sw) sc 0 (t + 1)]) ((T ++ [(⟨nx, 34, 1, [U32 x]⟩ : VObj)]).set k ⟨nx + 1, 34, 1, l.reverse.map U32 ++ [U32 x]⟩)) (nx + 1 + 1) := fun r => by
      have hU : UpT T ((T ++ [(⟨nx, 34, 1, [U32 x]⟩ : VObj)]).set k ⟨nx + 1, 34, 1, l.reverse.map U32 ++ [U32 x]⟩) (.ref (k + 5) s 0 l.length) (.ref (k + 5) (nx + 1) 0 (l.length + 1)) := ⟨fun j ob hj hne => by
        have : k ≠ j := fun e => hne (by rw [e]; rfl)
        rw [List.getElem?_set, if_neg this, List.getElem?_append_left (List.getElem?_eq_some_iff.1 hj).1]; exact hj, .inl rfl⟩
      refine hC r _ _ _ (.inr ⟨k, nx + 1, [], rfl, ?_, rfl⟩) hU
      rw [List.getElem?_set, if_pos rfl, if_pos (by simp; omega)]; simp
    simp only [go_sem,Nat.reduceEqDiff,Nat.reduceAdd,Nat.reduceMul,↓reduceIte,↓dreduceIte,reduceCtorEq,Nat.reduceLeDiff,Nat.reduceLT,Nat.reduceSub,Int.reduceToNat,Int.reduceLE,Int.reduceLT, c_scref20_M_push, q_mach, q_calls, qs_calls, q_len, q_add, q_T, qs_T, one_ref, one_imm, e1, frs_2 ht, fr_2 ht, fr_len ht, ponx, pg0, pg01, pg1, hT, hT2, htk]
    repeat' apply And.intro
    all_goals first | omega | rfl | exact key _

theorem rpop_v (ht : bel.length = t * 3) (h2 : t ≤ 1000000) (l : List Int) (x : Int) (hl : l.length ≤ 1000000) (h : PW T v (x :: l)) (C : AV → List VObj → Nat → Prop)
    (hC : ∀ v', PW T v' l → idOf v' = idOf v → C (U32 x) (hpR sw o0 o1 mem (frO sc (bel ++ F :: A :: v' :: junk)) (rmO sM [c0, c1, c2, c3, c4, c5, c6, c7, .ref (ci sw) sc 0 (t + 1)]) T) nx) :
    VCall Try.prog 47 [.ptr 4 sM 0] (hpR sw o0 o1 mem (frO sc (bel ++ F :: A :: v :: junk)) (rmO sM [c0, c1, c2, c3, c4, c5, c6, c7, .ref (ci sw) sc 0 (t + 1)]) T) nx C := by
  refine VCall.of_body hmix f_scref20_M_pop (by simp) ?_
  have e1 : IntKind.i64.wrap (((t + 1 : Nat) : Int) - 1) = (t : Int) := by rw [i64_in (by omega) (by omega)]; omega
  rcases h with ⟨_, h⟩ | ⟨k, s, rest, rfl, hT, hr1⟩
  · cases h
  have e2 : (x :: l).reverse.map U32 ++ rest = l.reverse.map U32 ++ U32 x :: rest := by simp
  rw [e2] at hT
  have e1' : IntKind.i64.wrap ((t : Int) + 1 - 1) = (t : Int) := by rw [i64_in (by omega) (by omega)]; omega
  have hcell : ∀ C : AV → Prop, cellT (l.reverse.map U32 ++ U32 x :: rest) l.length false 1 C .mk = C (U32 x) := fun C => by
    have e : (l.reverse.map U32 ++ U32 x :: rest).getD l.length .dead = U32 x := by simp [List.getD]
    simp only [cellT, cellW, partOK, partA, e]; simp [AV.one, Value.oneCell']
  have e3' : IntKind.i64.wrap ((l.length : Int) + 1 - 1) = (l.length : Int) := by rw [i64_in (by omega) (by omega)]; omega
  simp only [go_sem,Nat.reduceEqDiff,Nat.reduceAdd,Nat.reduceMul,↓reduceIte,↓dreduceIte,reduceCtorEq,Nat.reduceLeDiff,Nat.reduceLT,Nat.reduceSub,Int.reduceToNat,Int.reduceLE,Int.reduceLT, c_scref20_M_pop, q_mach, q_calls, qs_calls, q_len, q_add, q_T, qs_T, one_ref, one_imm, e1, frs_2 ht, fr_2 ht, fr_len ht, hT, List.length_cons, Int.natCast_add, Int.cast_ofNat_Int, e1', e3', hcell]
  repeat (refine And.intro (by first | omega | rfl) ?_)
  exact hC _ (.inr ⟨k, s, _, rfl, hT, by simpa [AV.one, Value.oneCell'] using hr1⟩) rfl
end
end Go.Proofs.Ytdfdkoajphcjbaa
