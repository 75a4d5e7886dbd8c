/-
  The engine: programs of the call's own, given to functions that answer with values. No condition.
-/
import Derived.Test.YtjdeediehmhdoaaVH
import Derived.Test.YtjdeediehmhdoaaVC
namespace Go.V
set_option linter.unusedSimpArgs false
set_option linter.unusedVariables false

section
variable {P : Program}
theorem rl0_vals {w : World} {I J : Nat → Prop} : ∀ {us : List Value} {vs : List Value}, RL0 w I (us.map .val) vs → RL0 w J (us.map .val) vs
  | [], vs, h => by simpa only [List.map_nil, RL0] using h
  | u :: us, vs, h => by
    simp only [List.map_cons, RL0] at h ⊢
    obtain ⟨v, vs', rfl, h1, h2⟩ := h
    exact ⟨v, vs', rfl, by simpa only [RV0] using h1, rl0_vals h2⟩
/-- A function that answers with values alone. -/
theorem Contract.vals {f : Nat} {args : List AV} {C : AV → Prop} (h : Contract P f args C) (hC : ∀ r, C r → (∃ u, r = .val u) ∨ ∃ us : List Value, r = .agg (us.map .val)) : ContractN P f args C :=
  ⟨h.1, fun I w vs hI hvs => (h.2 I w vs hI hvs).mono fun e w' hp => by
    obtain ⟨v, r, h1, h2, h3, h4⟩ := hp
    refine ⟨v, r, h1, ?_, h3, h4⟩
    rcases hC r h4 with ⟨u, rfl⟩ | ⟨us, rfl⟩
    · simpa only [RV0] using h2
    · simp only [RV0] at h2 ⊢
      obtain ⟨vs, e1, e2⟩ := h2
      exact ⟨vs, e1, rl0_vals e2⟩⟩
end

theorem flat_get {α : Type} {z : Nat} : ∀ {ls : List (List α)}, (∀ l ∈ ls, l.length = z) → ∀ {i j : Nat} {l : List α} {u : α}, ls[i]? = some l → l[j]? = some u → ls.flatten[i * z + j]? = some u
  | [], _, i, j, l, u, h, _ => by simp at h
  | a :: ls, hz, i, j, l, u, h, hu => by
    have ha := hz a (by simp)
    cases i with
    | zero =>
      simp at h; subst h
      rw [List.flatten_cons, Nat.zero_mul, Nat.zero_add, List.getElem?_append_left (List.getElem?_eq_some_iff.1 hu).1]; exact hu
    | succ i =>
      simp only [List.getElem?_cons_succ] at h
      rw [List.flatten_cons, List.getElem?_append_right (by rw [ha, Nat.succ_mul]; omega), ha, show (i + 1) * z + j - z = i * z + j by rw [Nat.succ_mul]; omega]
      exact flat_get (fun l hl => hz l (by simp [hl])) h hu

theorem RL.split {M : MM} : ∀ {xs ys : List AV} {vs : List Value}, RL M (xs ++ ys) vs → ∃ v1 v2, vs = v1 ++ v2 ∧ RL M xs v1 ∧ RL M ys v2
  | [], ys, vs, h => ⟨[], vs, rfl, by simp only [RL], h⟩
  | x :: xs, ys, vs, h => by
    simp only [List.cons_append, RL] at h
    obtain ⟨v, vs', rfl, h1, h2⟩ := h
    obtain ⟨v1, v2, rfl, h3, h4⟩ := RL.split h2
    exact ⟨v :: v1, v2, rfl, by simp only [RL]; exact ⟨v, v1, rfl, h1, h3⟩, h4⟩

theorem RL.chunks {M : MM} : ∀ {yss : List (List AV)} {vs : List Value}, RL M yss.flatten vs → ∃ vss : List (List Value), vs = vss.flatten ∧ vss.length = yss.length ∧ ∀ (i : Nat) (l : List AV) (v : List Value), yss[i]? = some l → vss[i]? = some v → RL M l v
  | [], vs, h => by
    simp only [List.flatten_nil, RL] at h
    exact ⟨[], h, rfl, fun i l v h => by simp at h⟩
  | y :: yss, vs, h => by
    rw [List.flatten_cons] at h
    obtain ⟨v1, v2, rfl, h1, h2⟩ := RL.split h
    obtain ⟨vss, rfl, h3, h4⟩ := RL.chunks h2
    refine ⟨v1 :: vss, by simp, by simp [h3], fun i l v hl hv => ?_⟩
    cases i with
    | zero => simp at hl hv; subst hl; subst hv; exact h1
    | succ i => exact h4 i l v (by simpa using hl) (by simpa using hv)

/-- Elements, one after the other. -/
def FrzLL (n : Nat) (H : List VObj) (nx : Nat) : List (List AV) → List (List AV) → Prop
  | [], zs => zs = []
  | y :: ys, zs => ∃ z zs', zs = z :: zs' ∧ FrzL n H nx y z ∧ FrzLL n H nx ys zs'
theorem FrzLL.pure {n : Nat} {H : List VObj} {nx : Nat} : ∀ {yss : List (List AV)}, (∀ l ∈ yss, l.all AV.pure = true) → FrzLL n H nx yss yss
  | [], _ => rfl
  | y :: ys, h => ⟨y, ys, rfl, FrzL.pure (h y (by simp)), FrzLL.pure fun l hl => h l (by simp [hl])⟩

theorem FrzLL.length {n : Nat} {H : List VObj} {nx : Nat} : ∀ {yss zss : List (List AV)}, FrzLL n H nx yss zss → zss.length = yss.length
  | [], _, h => by simp only [FrzLL] at h; subst h; rfl
  | y :: ys, _, h => by
    simp only [FrzLL] at h
    obtain ⟨z, zs', rfl, _, h3⟩ := h
    simp [FrzLL.length h3]

theorem rl0_aggsT {M : MM} {n : Nat} (hR : RH M) : ∀ {yss zss : List (List AV)} {vss : List (List Value)}, vss.length = yss.length → (∀ (i : Nat) (l : List AV) (v : List Value), yss[i]? = some l → vss[i]? = some v → RL M l v) → FrzLL n M.H M.nx yss zss →
    RL0 M.w (Drop M n) (zss.map .agg) (vss.map fun l => Value.agg l.toArray)
  | [], _, [], _, _, h => by simp only [FrzLL] at h; subst h; simp only [List.map_nil, RL0]
  | [], _, v :: vs, h, _, _ => by simp at h
  | y :: ys, _, [], h, _, _ => by simp at h
  | y :: ys, _, v :: vs, h, h1, h2 => by
    simp only [FrzLL] at h2
    obtain ⟨z, zs', rfl, h2, h3⟩ := h2
    simp only [List.map_cons, RL0]
    refine ⟨_, _, rfl, ?_, rl0_aggsT hR (by simpa using h) (fun i l v hl hv => h1 (i + 1) l v (by simpa using hl) (by simpa using hv)) h3⟩
    simp only [RV0]
    exact ⟨v, rfl, h2.rl hR rfl rfl (h1 0 y v (by simp) (by simp))⟩

theorem flatz_len {α : Type} {z : Nat} : ∀ {ls : List (List α)}, (∀ l ∈ ls, l.length = z) → ls.flatten.length = ls.length * z
  | [], _ => by simp
  | y :: ys, h => by rw [List.flatten_cons, List.length_append, flatz_len (fun l hl => h l (by simp [hl])), h y (by simp), List.length_cons, Nat.succ_mul]; omega

/-- A slice over an object of structs. -/
theorem Frz.refT {n : Nat} {H : List VObj} {nx id s len z : Nat} {ob : VObj} {yss zss : List (List AV)} (hid : n ≤ id) (ho : H[id]? = some ob) (hs : ob.s = s) (hz : ob.sz = z) (hcs : ob.cs = yss.flatten)
    (hy : ∀ l ∈ yss, l.length = z) (hlen : len = yss.length) (hf : FrzLL n H nx yss zss) : Frz n H nx (.ref id s 0 len) (.imm z (zss.map .agg)) := fun M hR hH hnx v r => by
  subst hH; subst hnx; subst hlen
  simp only [RV] at r
  obtain ⟨hzz, r⟩ := r.2.2 ob ho hs
  have hfl : yss.flatten.length = yss.length * z := flatz_len hy
  cases hm : M.m.getD id none with
  | none =>
    rw [hm] at r
    obtain ⟨rfl, h1, h2⟩ := r
    have : yss = [] := List.length_eq_zero_iff.1 (by omega)
    subst this
    simp only [FrzLL] at hf
    subst hf
    simp only [List.map_nil, RV0, RL0]
    exact ⟨none, 0, 0, [], rfl, rfl, Nat.le_refl _, by simp [maxLen], rfl, by simp, .inl rfl⟩
  | some g =>
    rw [hm] at r
    obtain ⟨oo, cap, rfl, q2, q3, q4, q5, q6⟩ := r
    obtain ⟨vs, g1, g2, g3⟩ := hR.cells ho hzz hm 0 (yss.length * z) (by rw [hcs, hfl]; omega)
    rw [List.drop_zero, hcs, List.take_of_length_le (by omega)] at g2
    obtain ⟨vss, rfl, h3, h4⟩ := RL.chunks g2
    have hlv : ∀ i v, vss[i]? = some v → ∃ l, yss[i]? = some l ∧ RL M l v ∧ v.length = z := fun i v hv => by
      have hi : i < yss.length := by have := (List.getElem?_eq_some_iff.1 hv).1; omega
      have hl := List.getElem?_eq_getElem hi
      have := h4 i _ v hl hv
      exact ⟨_, hl, this, by rw [this.length]; exact hy _ (List.getElem_mem hi)⟩
    have hmem : ∀ v ∈ vss, v.length = z := fun v hv => by
      obtain ⟨i, hi⟩ := List.getElem?_of_mem hv
      obtain ⟨_, _, _, e⟩ := hlv i v hi
      exact e
    simp only [RV0]
    refine ⟨_, yss.length, cap, vss.map fun l => Value.agg l.toArray, rfl, by simp [h3, hf.length], q2, q3, ?_, fun u hu => ?_, ?_⟩
    · exact rl0_aggsT hR h3 h4 hf
    · obtain ⟨l, hl, rfl⟩ := List.mem_map.1 hu
      simp [Value.cells, hmem l hl]
    · by_cases hl : yss.length = 0
      · exact .inl hl
      · refine .inr ⟨g, oo, rfl, ⟨.inr ⟨(hR.lt hm).1, (hR.lt hm).2.1⟩, fun j hj e => by have := hR.inj j id g e hm; omega⟩, fun i u hu j x hx => ?_⟩
        have hoo : oo = M.o id + 0 := by rcases q5 with q5 | q5 <;> omega
        rw [List.getElem?_map] at hu
        cases hv : vss[i]? with
        | none => rw [hv] at hu; cases hu
        | some l =>
          rw [hv] at hu
          simp only [Option.map_some, Option.some.injEq] at hu
          subst hu
          have hx' : l[j]? = some x := by simpa [Value.cells] using hx
          have := g3 _ _ (flat_get hmem hv hx')
          rw [hoo, Nat.add_assoc]; exact this
end Go.V
