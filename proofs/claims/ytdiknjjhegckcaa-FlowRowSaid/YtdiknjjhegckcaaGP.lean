/-
  Graphs, plainly: what one must go through is a row; cut ways, ways more. No condition.
-/
import Derived.Test.YtdiknjjhegckcaaFW
namespace Go.V.FL
set_option linter.unusedSimpArgs false
set_option linter.unusedVariables false

theorem rch_other {g : G} {a b : Int} {k : Nat} (h : Rch g a k) (hb : ∀ j : Nat, (j : Int) = b → ¬ Rch g a j) : Rch g b k := by
  induction h with
  | zero h => exact .zero h
  | @step d k hd hne hm hl ih => exact .step ih (fun e => hb d e hd) hm hl

theorem rch_one {g : G} {a b k : Nat} (h : Rch g (-1) k) : (Rch g a k ∧ Rch g b k) ∨ Rch g b a ∨ Rch g a b := by
  induction h with
  | zero h => exact .inl ⟨.zero h, .zero h⟩
  | @step d k hd hne hm hl ih =>
    rcases ih with ⟨h1, h2⟩ | h | h
    · by_cases ha : d = a
      · subst ha; exact .inr (.inl h2)
      · by_cases hb : d = b
        · subst hb; exact .inr (.inr h1)
        · exact .inl ⟨.step h1 (by omega) hm hl, .step h2 (by omega) hm hl⟩
    · exact .inr (.inl h)
    · exact .inr (.inr h)

theorem rch_via {g : G} {a k : Nat} (h : Rch g (-1) k) : Rch g a k ∨ Rch g (-1) a := by
  induction h with
  | zero h => exact .inl (.zero h)
  | @step d k hd hne hm hl ih =>
    rcases ih with h | h
    · by_cases ha : d = a
      · subst ha; exact .inr hd
      · exact .inl (.step h (by omega) hm hl)
    · exact .inr h

theorem rch_two {g : G} {a b k : Nat} (hab : a ≠ b) (h1 : Rch g a b) (h2 : Rch g b a) (h : Rch g (-1) k) : Rch g a k ∨ Rch g b k := by
  induction h with
  | zero h => exact .inl (.zero h)
  | @step d k hd hne hm hl ih =>
    rcases ih with h | h
    · by_cases ha : d = a
      · subst ha; exact .inr (.step h2 (by omega) hm hl)
      · exact .inl (.step h (by omega) hm hl)
    · by_cases hb : d = b
      · subst hb; exact .inl (.step h1 (by omega) hm hl)
      · exact .inr (.step h (by omega) hm hl)

/-- One must go through a to b. -/
def Dom (g : G) (a b : Nat) : Prop := Rch g (-1) b ∧ (a = b ∨ ¬ Rch g a b)

theorem Dom.trans {g : G} {a b c : Nat} (h1 : Dom g a b) (h2 : Dom g b c) : Dom g a c := by
  rcases h1.2 with rfl | h1'
  · exact h2
  rcases h2.2 with rfl | h2'
  · exact h1
  refine ⟨h2.1, .inr fun h => h2' (rch_other h fun j e => ?_)⟩
  have : j = b := by omega
  subst this; exact h1'

theorem Dom.one {g : G} {a b : Nat} (h1 : Dom g a b) (h2 : Dom g b a) : a = b := by
  rcases h1.2 with h | h1'
  · exact h
  rcases h2.2 with h | h2'
  · exact h.symm
  rcases rch_one (a := a) (b := b) h1.1 with ⟨h, _⟩ | h | h
  · exact (h1' h).elim
  · exact (h2' h).elim
  · exact (h1' h).elim

theorem Dom.row {g : G} {a b c : Nat} (h1 : Dom g a c) (h2 : Dom g b c) : Dom g a b ∨ Dom g b a := by
  rcases h1.2 with rfl | h1'
  · exact .inr h2
  rcases h2.2 with rfl | h2'
  · exact .inl h1
  have ha : Rch g (-1) a := (rch_via (a := a) h1.1).resolve_left h1'
  have hb : Rch g (-1) b := (rch_via (a := b) h1.1).resolve_left h2'
  by_cases hab : a = b
  · exact .inl ⟨hb, .inl hab⟩
  by_cases e1 : Rch g a b
  · by_cases e2 : Rch g b a
    · rcases rch_two hab e1 e2 h1.1 with h | h
      · exact (h1' h).elim
      · exact (h2' h).elim
    · exact .inr ⟨ha, .inr e2⟩
  · exact .inl ⟨hb, .inr e1⟩

theorem row_set {g : G} {a k : Nat} {r : List Int} : row (g.set a r) k = if k = a ∧ a < g.length then r else row g k := by
  unfold row
  simp only [List.getD, List.getElem?_set]
  split
  · rename_i h; subst h
    split
    · rename_i h; simp [h]
    · rename_i h; rw [if_neg (by omega), List.getElem?_eq_none (by omega)]
  · rename_i h; rw [if_neg (by omega)]

/-- Without a's ways. -/
theorem rch_cut {g : G} {a k : Nat} (ha : a < g.length) : Rch (g.set a []) (-1) k ↔ Rch g a k := by
  constructor
  · intro h
    induction h with
    | zero h => exact .zero (by simpa using h)
    | @step d k hd hne hm hl ih =>
      rw [row_set] at hm
      split at hm
      · cases hm
      · rename_i h; exact .step ih (by omega) hm (by simpa using hl)
  · intro h
    induction h with
    | zero h => exact .zero (by simpa using h)
    | @step d k hd hne hm hl ih =>
      refine .step ih (by omega) ?_ (by simpa using hl)
      rw [row_set, if_neg (by omega)]; exact hm

/-- With a way more. -/
theorem rch_more {g : G} {a : Int} {b k : Nat} {r : List Int} (hb : b < g.length) (h : Rch g a k) : Rch (g.set b (row g b ++ r)) a k := by
  induction h with
  | zero h => exact .zero (by simpa using h)
  | @step d k hd hne hm hl ih =>
    refine .step ih hne ?_ (by simpa using hl)
    rw [row_set]
    split
    · rename_i h; rw [h.1] at hm; simp [hm]
    · exact hm
end Go.V.FL
