/-
  The search's beginning: nil slices taken for slices over objects that are not there yet. No condition.
-/
import Derived.Test.YtjdeediehmhdoaaBJ
namespace Go.Proofs.Ytjdeediehmhdoaa
set_option linter.unusedSimpArgs false
set_option linter.unusedVariables false
set_option maxRecDepth 10000
open Go.V

theorem virt_set {env : List (Nat × AV)} {H : List VObj} {nx i j : Nat} {ob : VObj} (ty sz : Nat) (hsz : sz ≠ 0) (he : ∀ p ∈ env, get env p.1 = p.2) (ho : H[i]? = some ob) (hz : ob.sz ≠ 0) (hj : ob.cs[j]? = some nilv) :
    Wk ⟨env, H, nx⟩ ⟨env, H.set i ⟨ob.s, ob.ty, ob.sz, ob.cs.set j (.ref H.length nx 0 0)⟩ ++ [⟨nx, ty, sz, []⟩], nx + 1⟩ :=
  virt_at ty sz hsz he ho hz (by simp) fun m x y hx hy => by
    rw [List.getElem?_set] at hy
    by_cases e : j = m
    · subst e
      rw [if_pos rfl, if_pos (List.getElem?_eq_some_iff.1 hj).1] at hy
      rw [hj] at hx
      cases hx; cases hy
      exact .inr ⟨rfl, rfl⟩
    · rw [if_neg e] at hy
      rw [hx] at hy; exact .inl (Option.some.inj hy)

theorem virt_cells (n ka : Nat) (hka : ka < 10) (env : List (Nat × AV)) (he : ∀ p ∈ env, get env p.1 = p.2) (H : List VObj) (hl : H.length = 10) (ha : H[ka]? = some ⟨ka, 43, 1, List.replicate n nilv⟩) : ∀ c, c ≤ n →
    ∃ H', Wk ⟨env, H, 10⟩ ⟨env, H', 10 + c⟩ ∧ H'.length = 10 + c ∧ (∀ i, i < 10 → i ≠ ka → H'[i]? = H[i]?) ∧ H'[ka]? = some ⟨ka, 43, 1, (List.range n).map fun d => if d < c then .ref (10 + d) (10 + d) 0 0 else nilv⟩ ∧ ∀ d < c, H'[10 + d]? = some ⟨10 + d, 3, 1, []⟩
  | 0, _ => ⟨H, Wk.refl _, hl, fun _ _ _ => rfl, by rw [ha]; congr 2; refine List.ext_getElem (by simp) fun i h1 h2 => by simp, fun d hd => by omega⟩
  | c + 1, hc => by
    obtain ⟨H', hw, h1, h2, h3, h4⟩ := virt_cells n ka hka env he H hl ha c (by omega)
    have hv := virt_set (env := env) (nx := 10 + c) (j := c) 3 1 (by decide) he h3 (by simp) (by simp [show c < n by omega])
    refine ⟨_, hw.trans hv, by simp [h1]; omega, fun i hi hne => ?_, ?_, fun d hd => ?_⟩
    · rw [List.getElem?_append_left (by simp; omega), List.getElem?_set_ne (by omega)]
      exact h2 i hi hne
    · rw [List.getElem?_append_left (by simp; omega), List.getElem?_set_self (by omega), h1]
      congr 2
      refine List.ext_getElem (by simp) fun i g1 g2 => ?_
      rw [List.getElem_set]
      simp only [List.getElem_map, List.getElem_range]
      by_cases e : c = i
      · subst e; simp
      · rw [if_neg e]
        by_cases e2 : i < c
        · rw [if_pos e2, if_pos (by omega)]
        · rw [if_neg e2, if_neg (by omega)]
    · by_cases e : d = c
      · subst e
        rw [List.getElem?_append_right (by simp; omega)]
        simp [h1]
      · rw [List.getElem?_append_left (by simp; omega), List.getElem?_set_ne (by omega)]
        exact h4 d (by omega)

theorem begin_virt (f : BF) (ka kw : Nat) (hk : (ka = 3 ∧ kw = 4) ∨ (ka = 4 ∧ kw = 3)) (o0 o1 : VObj) (env : List (Nat × AV)) (he : ∀ p ∈ env, get env p.1 = p.2) (H : List VObj) (hl : H.length = 6) (h0 : H[0]? = some o0) (h1 : H[1]? = some o1)
    (h2 : H[2]? = some ⟨2, 24, 1, bfL f⟩) (hS : H[5]? = some ⟨5, 66, 1, [nextA f, .ref ka ka 0 f.n, nilv, nilv, nilv, nilv, nilv, .ref kw kw 0 f.n]⟩)
    (ha : H[ka]? = some ⟨ka, 43, 1, List.replicate f.n nilv⟩) (hw : H[kw]? = some ⟨kw, 4, 1, (List.replicate f.n false).map B⟩) :
    ∃ H' nx', Wk ⟨env, H, 6⟩ ⟨env, H', nx'⟩ ∧ SB f ka kw o0 o1 (fun _ => []) ⟨0, H', 6, 7, 8, 9, fun c => 10 + c, fun _ => (0, 0), fun _ => (0, 0), nx'⟩ := by
  have w1 := virt_set (env := env) (nx := 6) (j := 2) 70 1 (by decide) he hS (by simp) rfl
  obtain ⟨H1, e1⟩ : ∃ H1, H1 = H.set 5 ⟨5, 66, 1, [nextA f, .ref ka ka 0 f.n, .ref 6 6 0 0, nilv, nilv, nilv, nilv, .ref kw kw 0 f.n]⟩ ++ [⟨6, 70, 1, []⟩] := ⟨_, rfl⟩
  rw [hl] at w1
  have w1' : Wk ⟨env, H, 6⟩ ⟨env, H1, 7⟩ := by rw [e1]; exact w1
  have l1 : H1.length = 7 := by rw [e1]; simp [hl]
  have hS1 : H1[5]? = some ⟨5, 66, 1, [nextA f, .ref ka ka 0 f.n, .ref 6 6 0 0, nilv, nilv, nilv, nilv, .ref kw kw 0 f.n]⟩ := by rw [e1, List.getElem?_append_left (by simp [hl]), List.getElem?_set_self (by omega)]
  have o1' : ∀ i, i < 6 → i ≠ 5 → H1[i]? = H[i]? := fun i hi hne => by rw [e1, List.getElem?_append_left (by simp [hl]; omega), List.getElem?_set_ne (by omega)]
  have n1 : H1[6]? = some ⟨6, 70, 1, []⟩ := by rw [e1, List.getElem?_append_right (by simp [hl])]; simp [hl]
  clear e1 w1
  have w2 := virt_set (env := env) (nx := 7) (j := 3) 70 1 (by decide) he hS1 (by simp) rfl
  obtain ⟨H2, e2⟩ : ∃ H2, H2 = H1.set 5 ⟨5, 66, 1, [nextA f, .ref ka ka 0 f.n, .ref 6 6 0 0, .ref 7 7 0 0, nilv, nilv, nilv, .ref kw kw 0 f.n]⟩ ++ [⟨7, 70, 1, []⟩] := ⟨_, rfl⟩
  rw [l1] at w2
  have w2' : Wk ⟨env, H1, 7⟩ ⟨env, H2, 8⟩ := by rw [e2]; exact w2
  have l2 : H2.length = 8 := by rw [e2]; simp [l1]
  have hS2 : H2[5]? = some ⟨5, 66, 1, [nextA f, .ref ka ka 0 f.n, .ref 6 6 0 0, .ref 7 7 0 0, nilv, nilv, nilv, .ref kw kw 0 f.n]⟩ := by rw [e2, List.getElem?_append_left (by simp [l1]), List.getElem?_set_self (by omega)]
  have o2' : ∀ i, i < 7 → i ≠ 5 → H2[i]? = H1[i]? := fun i hi hne => by rw [e2, List.getElem?_append_left (by simp [l1]; omega), List.getElem?_set_ne (by omega)]
  have n2 : H2[7]? = some ⟨7, 70, 1, []⟩ := by rw [e2, List.getElem?_append_right (by simp [l1])]; simp [l1]
  clear e2 w2
  have w3 := virt_set (env := env) (nx := 8) (j := 4) 70 1 (by decide) he hS2 (by simp) rfl
  obtain ⟨H3, e3⟩ : ∃ H3, H3 = H2.set 5 ⟨5, 66, 1, [nextA f, .ref ka ka 0 f.n, .ref 6 6 0 0, .ref 7 7 0 0, .ref 8 8 0 0, nilv, nilv, .ref kw kw 0 f.n]⟩ ++ [⟨8, 70, 1, []⟩] := ⟨_, rfl⟩
  rw [l2] at w3
  have w3' : Wk ⟨env, H2, 8⟩ ⟨env, H3, 9⟩ := by rw [e3]; exact w3
  have l3 : H3.length = 9 := by rw [e3]; simp [l2]
  have hS3 : H3[5]? = some ⟨5, 66, 1, [nextA f, .ref ka ka 0 f.n, .ref 6 6 0 0, .ref 7 7 0 0, .ref 8 8 0 0, nilv, nilv, .ref kw kw 0 f.n]⟩ := by rw [e3, List.getElem?_append_left (by simp [l2]), List.getElem?_set_self (by omega)]
  have o3' : ∀ i, i < 8 → i ≠ 5 → H3[i]? = H2[i]? := fun i hi hne => by rw [e3, List.getElem?_append_left (by simp [l2]; omega), List.getElem?_set_ne (by omega)]
  have n3 : H3[8]? = some ⟨8, 70, 1, []⟩ := by rw [e3, List.getElem?_append_right (by simp [l2])]; simp [l2]
  clear e3 w3
  have w4 := virt_set (env := env) (nx := 9) (j := 5) 70 1 (by decide) he hS3 (by simp) rfl
  obtain ⟨H4, e4⟩ : ∃ H4, H4 = H3.set 5 ⟨5, 66, 1, slB f ka kw 0 6 7 8 9⟩ ++ [⟨9, 70, 1, []⟩] := ⟨_, rfl⟩
  rw [l3] at w4
  have w4' : Wk ⟨env, H3, 9⟩ ⟨env, H4, 10⟩ := by rw [e4]; exact w4
  have l4 : H4.length = 10 := by rw [e4]; simp [l3]
  have hS4 : H4[5]? = some ⟨5, 66, 1, slB f ka kw 0 6 7 8 9⟩ := by rw [e4, List.getElem?_append_left (by simp [l3]), List.getElem?_set_self (by omega)]
  have o4' : ∀ i, i < 9 → i ≠ 5 → H4[i]? = H3[i]? := fun i hi hne => by rw [e4, List.getElem?_append_left (by simp [l3]; omega), List.getElem?_set_ne (by omega)]
  have n4 : H4[9]? = some ⟨9, 70, 1, []⟩ := by rw [e4, List.getElem?_append_right (by simp [l3])]; simp [l3]
  clear e4 w4
  have old : ∀ i, i < 6 → i ≠ 5 → H4[i]? = H[i]? := fun i hi hne => by rw [o4' i (by omega) hne, o3' i (by omega) hne, o2' i (by omega) hne, o1' i hi hne]
  obtain ⟨H', hw', g1, g2, g3, g4⟩ := virt_cells f.n ka (by omega) env he H4 l4 (by rw [old ka (by omega) (by omega)]; exact ha) f.n (Nat.le_refl _)
  refine ⟨H', _, (((w1'.trans w2').trans w3').trans w4').trans hw', ?_⟩
  refine ⟨?_, ?_, ?_, ?_, ?_, fun c hc => g4 c hc, ?_, ?_, ?_, ?_, fun c hc => absurd hc (by simp), fun c hc => absurd hc (by simp), ?_, fun c hc => absurd hc (by simp), fun c hc => absurd hc (by simp), fun c hc => absurd hc (by simp)⟩
  · rw [g2 0 (by omega) (by omega), old 0 (by omega) (by omega)]; exact h0
  · rw [g2 1 (by omega) (by omega), old 1 (by omega) (by omega)]; exact h1
  · rw [g2 2 (by omega) (by omega), old 2 (by omega) (by omega)]; exact h2
  · rw [g2 5 (by omega) (by omega)]; exact hS4
  · rw [g3]
    congr 2
    refine List.ext_getElem (by simp) fun i q1 q2 => ?_
    have : i < f.n := by simpa using q1
    simp [this]
  · rw [g2 6 (by omega) (by omega), o4' 6 (by omega) (by omega), o3' 6 (by omega) (by omega), o2' 6 (by omega) (by omega)]; exact n1
  · rw [g2 7 (by omega) (by omega), o4' 7 (by omega) (by omega), o3' 7 (by omega) (by omega)]; exact n2
  · rw [g2 8 (by omega) (by omega), o4' 8 (by omega) (by omega)]; exact n3
  · rw [g2 9 (by omega) (by omega)]; exact n4
  · rw [g2 kw (by omega) (by omega), old kw (by omega) (by omega)]; exact hw
end Go.Proofs.Ytjdeediehmhdoaa
