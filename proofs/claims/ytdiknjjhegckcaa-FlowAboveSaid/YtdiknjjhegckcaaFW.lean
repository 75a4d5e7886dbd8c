/-
  Graphs, plainly: what is reached without one block's ways; how a walk with a list of blocks to do finds it. No condition.
-/
import Derived.Test.YtdiknjjhegckcaaFL
namespace Go.V.FL
set_option linter.unusedSimpArgs false
set_option linter.unusedVariables false

/-- Reached from the first block, if nothing goes on from a. -/
inductive Rch (g : G) (a : Int) : Nat → Prop where
  | zero : 0 < g.length → Rch g a 0
  | step {b k : Nat} : Rch g a b → (b : Int) ≠ a → (k : Int) ∈ row g b → k < g.length → Rch g a k

open Classical in
/-- The answer of Without. -/
noncomputable def reachL (g : G) (a : Int) : List Bool := (List.range g.length).map fun k => decide (Rch g a k)

theorem reachL_length (g : G) (a : Int) : (reachL g a).length = g.length := by simp [reachL]
theorem reachL_get {g : G} {a : Int} {k : Nat} (h : k < g.length) : (reachL g a).getD k false = true ↔ Rch g a k := by
  simp [reachL, List.getD, h]
theorem Rch.lt {g : G} {a : Int} {k : Nat} (h : Rch g a k) : k < g.length := by cases h <;> assumption

theorem eq_reachL {g : G} {a : Int} {out : List Bool} (hl : out.length = g.length) (h : ∀ k, k < g.length → (out.getD k false = true ↔ Rch g a k)) : out = reachL g a := by
  refine List.ext_getElem (by rw [hl, reachL_length]) fun k h1 h2 => ?_
  have hk : k < g.length := by omega
  have e1 := h k hk
  have e2 := reachL_get (a := a) hk
  rw [← e2] at e1
  simp only [List.getD, List.getElem?_eq_getElem h1, List.getElem?_eq_getElem h2, Option.getD_some] at e1
  cases hb : out[k] <;> cases hc : (reachL g a)[k] <;> simp_all

/-- What holds between two blocks. -/
structure BI (g : G) (a : Int) (out : List Bool) (todo : List Int) : Prop where
  len : out.length = g.length
  mem : ∀ b ∈ todo, 0 ≤ b ∧ b < g.length ∧ out.getD b.toNat false = true
  sound : ∀ k, out.getD k false = true → Rch g a k
  zero : 0 < g.length → out.getD 0 false = true
  closed : ∀ b : Nat, out.getD b false = true → (b : Int) ∉ todo → (b : Int) ≠ a → ∀ k : Nat, (k : Int) ∈ row g b → k < g.length → out.getD k false = true

theorem BI.start {g : G} {a : Int} (h : 0 < g.length) : BI g a ((List.replicate g.length false).set 0 true) [0] := by
  have key : ∀ k : Nat, ((List.replicate g.length false).set 0 true).getD k false = true → k = 0 := fun k hk => by
    simp only [List.getD, List.getElem?_set] at hk
    split at hk
    · rename_i e; exact e.symm
    · rename_i e
      rw [List.getElem?_replicate] at hk
      split at hk <;> simp at hk
  have h0 : ((List.replicate g.length false).set 0 true).getD 0 false = true := by simp [List.getD, List.getElem?_set, h]
  refine ⟨by simp, fun b hb => ?_, fun k hk => ?_, fun _ => h0, fun b hb hn => ?_⟩
  · simp at hb; subst hb; exact ⟨by omega, by omega, h0⟩
  · rw [key k hk]; exact .zero h
  · rw [key b hb] at hn; simp at hn

theorem BI.done {g : G} {a : Int} {out : List Bool} (h : BI g a out []) : out = reachL g a := by
  refine eq_reachL h.len fun k hk => ⟨h.sound k, fun hr => ?_⟩
  clear hk
  induction hr with
  | zero h0 => exact h.zero h0
  | step hb hn hm hk ih => exact h.closed _ ih (by simp) hn _ hm hk

/-- What holds amid a block's ways on: those ahead of i are done. -/
structure BJ (g : G) (a : Int) (out : List Bool) (todo : List Int) (b i : Nat) : Prop where
  len : out.length = g.length
  mem : ∀ b ∈ todo, 0 ≤ b ∧ b < g.length ∧ out.getD b.toNat false = true
  sound : ∀ k, out.getD k false = true → Rch g a k
  zero : 0 < g.length → out.getD 0 false = true
  self : out.getD b false = true
  closed : ∀ c : Nat, c ≠ b → out.getD c false = true → (c : Int) ∉ todo → (c : Int) ≠ a → ∀ k : Nat, (k : Int) ∈ row g c → k < g.length → out.getD k false = true
  part : (b : Int) ≠ a → ∀ k : Nat, (k : Int) ∈ (row g b).take i → k < g.length → out.getD k false = true

theorem BI.pop {g : G} {a : Int} {out : List Bool} {b : Int} {todo : List Int} (h : BI g a out (b :: todo)) : 0 ≤ b ∧ b < g.length ∧ BJ g a out todo b.toNat 0 := by
  obtain ⟨h1, h2, h3⟩ := h.mem b (by simp)
  refine ⟨h1, h2, h.len, fun c hc => h.mem c (by simp [hc]), h.sound, h.zero, h3, fun c hne hc hn ha => h.closed c hc ?_ ha, fun _ k hk => by simp at hk⟩
  simp only [List.mem_cons, not_or]
  exact ⟨fun e => hne (by omega), hn⟩

theorem BJ.skip {g : G} {a : Int} {out : List Bool} {todo : List Int} {b i : Nat} (h : BJ g a out todo b i) (hi : i < (row g b).length) (hf : ¬ (0 ≤ (row g b).getD i 0 ∧ (row g b).getD i 0 < g.length ∧ out.getD ((row g b).getD i 0).toNat false = false)) : BJ g a out todo b (i + 1) := by
  refine ⟨h.len, h.mem, h.sound, h.zero, h.self, h.closed, fun ha k hk hkl => ?_⟩
  rw [List.take_add_one, List.getElem?_eq_getElem hi] at hk
  rcases List.mem_append.1 hk with hk | hk
  · exact h.part ha k hk hkl
  · simp at hk
    have e : (row g b).getD i 0 = (k : Int) := by simp [List.getD, List.getElem?_eq_getElem hi, hk]
    rw [e] at hf
    simp only [Int.toNat_natCast, not_and] at hf
    have := hf (by omega) (by omega)
    simpa using this

theorem getD_set {out : List Bool} {k j : Nat} (hk : k < out.length) : (out.set k true).getD j false = if j = k then true else out.getD j false := by
  simp only [List.getD, List.getElem?_set]
  by_cases e : k = j
  · subst e; simp [hk]
  · rw [if_neg e, if_neg (fun h => e h.symm)]

theorem BJ.push {g : G} {a : Int} {out : List Bool} {todo : List Int} {b i : Nat} (h : BJ g a out todo b i) (hi : i < (row g b).length) (ha : (b : Int) ≠ a) {k : Int} (hk : (row g b).getD i 0 = k) (h0 : 0 ≤ k) (h1 : k < g.length) : BJ g a (out.set k.toNat true) (todo ++ [k]) b (i + 1) := by
  have hkl : k.toNat < out.length := by rw [h.len]; omega
  have hmem : ((k.toNat : Nat) : Int) ∈ row g b := by
    rw [Int.toNat_of_nonneg h0, ← hk]
    simp [List.getD, List.getElem?_eq_getElem hi]
  have up : ∀ j, out.getD j false = true → (out.set k.toNat true).getD j false = true := fun j hj => by rw [getD_set hkl]; split <;> simp_all
  refine ⟨by simp [h.len], fun c hc => ?_, fun j hj => ?_, fun hz => up _ (h.zero hz), up _ h.self, fun c hne hc hn hca j hj hjl => ?_, fun _ j hj hjl => ?_⟩
  · rcases List.mem_append.1 hc with hc | hc
    · obtain ⟨e1, e2, e3⟩ := h.mem c hc; exact ⟨e1, e2, up _ e3⟩
    · simp at hc; subst hc; exact ⟨h0, h1, by rw [getD_set hkl, if_pos rfl]⟩
  · rw [getD_set hkl] at hj
    split at hj
    · rename_i e; subst e; exact .step (h.sound b h.self) ha hmem (by omega)
    · exact h.sound j hj
  · simp only [List.mem_append, List.mem_singleton, not_or] at hn
    rw [getD_set hkl] at hc
    split at hc
    · rename_i e; exact (hn.2 (by omega)).elim
    · exact up _ (h.closed c hne hc hn.1 hca j hj hjl)
  · rw [List.take_add_one, List.getElem?_eq_getElem hi] at hj
    rcases List.mem_append.1 hj with hj | hj
    · exact up _ (h.part ha j hj hjl)
    · simp at hj
      have e : (row g b).getD i 0 = (j : Int) := by simp [List.getD, List.getElem?_eq_getElem hi, hj]
      rw [hk] at e
      rw [getD_set hkl, if_pos (by omega)]

theorem BJ.over {g : G} {a : Int} {out : List Bool} {todo : List Int} {b i : Nat} (h : BJ g a out todo b i) (hi : (b : Int) = a ∨ (row g b).length ≤ i) : BI g a out todo := by
  refine ⟨h.len, h.mem, h.sound, h.zero, fun c hc hn hca k hk hkl => ?_⟩
  by_cases e : c = b
  · subst e
    rcases hi with hi | hi
    · exact (hca hi).elim
    · exact h.part hca k (by rw [List.take_of_length_le hi]; exact hk) hkl
  · exact h.closed c e hc hn hca k hk hkl

/-- How many are not marked. -/
def falses : List Bool → Nat
  | [] => 0
  | b :: l => (if b then 0 else 1) + falses l
theorem falses_set : ∀ (l : List Bool) (k : Nat), k < l.length → l.getD k false = false → falses l = falses (l.set k true) + 1
  | [], k, h, _ => by simp at h
  | b :: l, 0, _, h => by simp at h; subst h; simp [falses]; omega
  | b :: l, k + 1, h, hs => by
    have := falses_set l k (by simpa using h) (by simpa using hs)
    simp only [falses, List.set_cons_succ]; omega
theorem falses_le : ∀ (l : List Bool), falses l ≤ l.length
  | [] => Nat.le_refl _
  | b :: l => by
    have := falses_le l
    simp only [falses, List.length_cons]
    split <;> omega
end Go.V.FL
