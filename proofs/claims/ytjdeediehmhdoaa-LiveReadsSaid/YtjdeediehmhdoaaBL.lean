/-
  Tables of the call's own; the document's empty one: contract. No condition.
-/
import Derived.Test.YtjdeediehmhdoaaBK
import Derived.Test.YtjdeediehmhdoaaBH
namespace Go.Proofs.Ytjdeediehmhdoaa
set_option linter.unusedSimpArgs false
set_option linter.unusedVariables false
set_option maxRecDepth 10000
open Go.V

section
variable {H R : List VObj} {i : Nat} {x : VObj}
theorem app_get : (H ++ R)[H.length + i]? = R[i]? := by rw [List.getElem?_append_right (by omega)]; congr 1; omega
theorem app_get0 : (H ++ R)[H.length]? = R[0]? := by rw [List.getElem?_append_right (by omega), Nat.sub_self]
theorem app_set : (H ++ R).set (H.length + i) x = H ++ R.set i x := by rw [List.set_append_right _ _ (by omega)]; congr 2; omega
theorem app_set0 : (H ++ R).set H.length x = H ++ R.set 0 x := by rw [List.set_append_right _ _ (by omega), Nat.sub_self]
theorem app_old {a : VObj} (h : H[i]? = some a) : ∀ R, (H ++ R)[i]? = some a := fun R => by rw [List.getElem?_append_left (List.getElem?_eq_some_iff.1 h).1]; exact h
end

/-- A table in memory: so many rows of so many. -/
structure MT (n r : Nat) (H : List VObj) (k s : Nat) (g : Nat → Nat × Nat) (m : List (List Bool)) : Prop where
  l : H[k]? = some ⟨s, 39, 1, (List.range n).map fun b => .ref (g b).1 (g b).2 0 r⟩
  r : ∀ b < n, H[(g b).1]? = some ⟨(g b).2, 4, 1, (m.getD b []).map B⟩
  d : ∀ b < n, ∀ c < n, (g b).1 = (g c).1 → b = c
theorem MT.app {n r : Nat} {H : List VObj} {k s : Nat} {g : Nat → Nat × Nat} {m : List (List Bool)} (h : MT n r H k s g m) (R : List VObj) : MT n r (H ++ R) k s g m :=
  ⟨app_old h.l R, fun b hb => app_old (h.r b hb) R, h.d⟩
theorem cellT_row {n r b : Nat} {g : Nat → Nat × Nat} {C : AV → Prop} : cellT ((List.range n).map fun b => AV.ref (g b).1 (g b).2 0 r) b false 1 C .mk = (b < n ∧ C (.ref (g b).1 (g b).2 0 r)) := by
  rw [cellT_map (fun _ => rfl)]
  apply propext
  rw [List.length_range]
  refine ⟨fun ⟨h1, h2⟩ => ⟨h1, ?_⟩, fun ⟨h1, h2⟩ => ⟨h1, ?_⟩⟩
  · rw [range_get h1] at h2; exact h2
  · rw [range_get h1]; exact h2

structure NQ where
  i : Nat
  s : Nat
  T : List VObj
  g : Nat → Nat × Nat
  nx : Nat
theorem none_v (n r : Nat) (hn : n ≤ 500) (hr : r ≤ 4000) (H : List VObj) (nx : Nat) (C : AV → List VObj → Nat → Prop)
    (hC : ∀ s g R nx', MT n r (H ++ R) H.length s g (List.replicate n (List.replicate r false)) → (∀ b < n, H.length < (g b).1) → C (.ref H.length s 0 n) (H ++ R) nx') :
    VCall Try.prog 34 [I n, I r] H nx C := by
  refine VCall.of_body hmix f_scref27_none (by simp) ?_
  have hmx : (200000 : Nat) ≤ maxLen := by decide
  simp only [go_sem,Nat.reduceEqDiff,Nat.reduceAdd,Nat.reduceMul,↓reduceIte,↓dreduceIte,reduceCtorEq,Nat.reduceLeDiff,Nat.reduceLT,Nat.reduceSub,Int.reduceToNat,Int.reduceLE,Int.reduceLT, c_scref27_none, one_imm, one_ref]
  refine VW_loop (fun x : NQ => ⟨[(0, I n), (1, I r), (5, .ref H.length x.s 0 x.i), (6, I x.i)], H ++ ⟨x.s, 39, 1, (List.range x.i).map fun b => .ref (x.g b).1 (x.g b).2 0 r⟩ :: x.T, x.nx⟩)
    (fun x => x.i ≤ n ∧ (∀ b < x.i, H.length < (x.g b).1 ∧ (H ++ ⟨x.s, 39, 1, (List.range x.i).map fun b => .ref (x.g b).1 (x.g b).2 0 r⟩ :: x.T)[(x.g b).1]? = some ⟨(x.g b).2, 4, 1, (List.replicate r false).map B⟩) ∧
      ∀ b < x.i, ∀ c < x.i, (x.g b).1 = (x.g c).1 → b = c) (fun x => n - x.i) ⟨0, nx, [], fun _ => (0, 0), nx + 1⟩
    (Wk.virt 39 1 (by decide) (by simp [get_cons]) ⟨H, by simp, rfl, fun j ob' ho => ⟨ob', ho, rfl, rfl, rfl, rfl, fun _ => rfl, fun i x y hx hy => .inl (by rw [hx] at hy; exact Option.some.inj hy)⟩⟩ rfl)
    ⟨by simp, by simp, by simp⟩ ?_
  rintro ⟨i, s, T, g, nx⟩ ⟨hi, hg, hd⟩
  simp only at hi hg hd
  by_cases hlt : i < n
  · simp only [go_sem,Nat.reduceEqDiff,Nat.reduceAdd,Nat.reduceMul,↓reduceIte,↓dreduceIte,reduceCtorEq,Nat.reduceLeDiff,Nat.reduceLT,Nat.reduceSub,Int.reduceToNat,Int.reduceLE,Int.reduceLT, one_imm, one_ref, rep_B, eq_true (show (i : Int) < n by omega), app_get, app_get0, app_set0, List.append_assoc, List.length_append]
    repeat ((with_reducible refine And.intro ?_ ?_); · first | omega | exact ⟨rfl, rfl, rfl⟩)
    rw [i64_in (by omega) (by omega)]
    have hle : ((List.range i).map fun b => AV.ref (g b).1 (g b).2 0 r).length = i := by simp
    refine ⟨⟨i + 1, nx + 1 + 1, T ++ [⟨nx, 4, 1, (List.replicate r false).map B⟩, ⟨nx + 1, 39, 1, [.ref (H.length + (T.length + 1)) nx 0 r]⟩], fun b => if b = i then (H.length + (T.length + 1), nx) else g b, nx + 1 + 1 + 1⟩, ⟨by simp only; omega, fun b hb => ?_, fun b hb c hc e => ?_⟩, by simp only; omega, Wk.mk (by simp [get_cons]) ⟨[], ?_⟩ (Nat.le_refl _)⟩
    · simp only at hb ⊢
      by_cases e : b = i
      · subst e
        rw [if_pos rfl]
        refine ⟨by omega, ?_⟩
        simp only [app_get, List.getElem?_cons_succ, app_get0, List.getElem?_cons_zero]
      · rw [if_neg e]
        have hb' := hg b (by omega)
        refine ⟨hb'.1, ?_⟩
        have h2 := hb'.2
        obtain ⟨j, hj⟩ : ∃ j, (g b).1 = H.length + (j + 1) := ⟨(g b).1 - H.length - 1, by have := hb'.1; omega⟩
        rw [hj, app_get, List.getElem?_cons_succ] at h2 ⊢
        exact app_old h2 _
    · simp only at hb hc e
      by_cases e1 : b = i
      · by_cases e2 : c = i
        · rw [e1, e2]
        · rw [if_pos e1, if_neg e2] at e
          obtain ⟨h1, h2⟩ := hg c (by omega)
          have := (List.getElem?_eq_some_iff.1 h2).1
          simp at this; omega
      · by_cases e2 : c = i
        · rw [if_neg e1, if_pos e2] at e
          obtain ⟨h1, h2⟩ := hg b (by omega)
          have := (List.getElem?_eq_some_iff.1 h2).1
          simp at this; omega
        · rw [if_neg e1, if_neg e2] at e
          exact hd b (by omega) c (by omega) e
    · rw [List.append_nil]
      have key : ((List.range i).map fun b => AV.ref (g b).1 (g b).2 0 r).take i ++ [AV.ref (H.length + (T.length + 1)) nx 0 r] =
          (List.range (i + 1)).map fun b => AV.ref (if b = i then (H.length + (T.length + 1), nx) else g b).1 (if b = i then (H.length + (T.length + 1), nx) else g b).2 0 r := by
        rw [List.take_of_length_le (by rw [hle]; omega), List.range_succ, List.map_append]
        congr 1
        · refine List.map_congr_left fun b hb => ?_
          have : b ≠ i := by have := List.mem_range.1 hb; omega
          rw [if_neg this]
        · simp
      exact congrArg (fun c => H ++ VObj.mk (nx + 1 + 1) 39 1 c :: (T ++ [⟨nx, 4, 1, (List.replicate r false).map B⟩, ⟨nx + 1, 39, 1, [.ref (H.length + (T.length + 1)) nx 0 r]⟩])) key
  · obtain rfl : i = n := by omega
    simp only [go_sem,Nat.reduceEqDiff,Nat.reduceAdd,Nat.reduceMul,↓reduceIte,↓dreduceIte,reduceCtorEq,Nat.reduceLeDiff,Nat.reduceLT,Nat.reduceSub,Int.reduceToNat,Int.reduceLE,Int.reduceLT, eq_false (show ¬ (i : Int) < i by omega)]
    refine hC s g _ nx ⟨by rw [app_get0]; rfl, fun b hb => ?_, hd⟩ fun b hb => (hg b hb).1
    rw [(hg b hb).2, List.getD, List.getElem?_replicate, if_pos hb]
    rfl
end Go.Proofs.Ytjdeediehmhdoaa
