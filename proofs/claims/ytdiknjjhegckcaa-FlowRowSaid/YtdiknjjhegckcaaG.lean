/-
  flow: graphs as data. No condition.
-/
import Derived.Test.YtdiknjjhegckcaaF6
import Derived.Test.YtdiknjjhegckcaaGP
import Derived.Test.YtdiknjjhegckcaaAW
import Derived.SizedLaws
namespace Go.Proofs.Ytdiknjjhegckcaa
set_option linter.unusedSimpArgs false
set_option linter.unusedVariables false
open Go.V Go.V.FL Go.ChangeShapes Go.WideShapes Go.ChangeAt Go.RowKit

theorem Try.own : ownKnob Try.prog.godebug = none := by kernel_rfl
theorem Try.laidOut : laidOutB Try.prog = true := by kernel_rfl

abbrev rowSh : Sh := .sl 1 8 (.int .i64)
abbrev gSh : Sh := .sl 1 24 rowSh

/-- What a graph of any input may be. -/
structure Any (g : G) : Prop where
  len : g.length ≤ 140737488351232
  row : ∀ r ∈ g, r.length ≤ 140737488351232

theorem graph_of {x : AV} (h : Sh.fit gSh x) : ∃ g : G, x = grph g ∧ Any g := by
  simp only [gSh, Sh.fit] at h
  obtain ⟨xs, rfl, _, h1, h2⟩ := h
  obtain ⟨g, rfl, h3⟩ := maps_of (f := ints) (p := fun l : List Int => l.length ≤ 140737488351232) (fun y hy => by
    obtain ⟨l, rfl, h4, _⟩ := fit_ints (show Sh.fit (.sl 1 8 (.int .i64)) y from hy)
    exact ⟨l, rfl, by omega⟩) xs h2
  refine ⟨g, rfl, by simp [reachBytes] at h1; omega, h3⟩

theorem ways_mem {g : G} {r : List Int} (h : r ∈ g) : r.length ≤ ways g := by
  induction g with
  | nil => cases h
  | cons a g ih =>
    simp only [ways, List.map_cons, List.sum_cons] at ih ⊢
    rcases List.mem_cons.1 h with rfl | h
    · omega
    · have := ih h; omega

theorem fine_of {g : G} {b w : Nat} (h : small g b w = true) (hb : b ≤ 1000) (hw : w ≤ 1000) : Fine g := by
  unfold small at h
  simp only [Bool.and_eq_true, decide_eq_true_eq] at h
  exact ⟨by omega, fun r hr => by have := ways_mem hr; omega⟩

abbrev Y8 (n : Int) : AV := .val (.int .u8 n)
theorem must_iff {g : G} {a b : Int} : mustL g a b = true ↔ ∃ x y : Nat, a = x ∧ b = y ∧ x < g.length ∧ y < g.length ∧ Dom g x y := by
  by_cases h : 0 ≤ a ∧ a < g.length ∧ 0 ≤ b ∧ b < g.length
  · rw [must_in h]
    obtain ⟨h1, h2, h3, h4⟩ := h
    have e1 := reachL_get (g := g) (a := -1) (k := b.toNat) (by omega)
    have e2 := reachL_get (g := g) (a := a) (k := b.toNat) (by omega)
    constructor
    · intro h
      simp only [Bool.and_eq_true, Bool.or_eq_true, beq_iff_eq, Bool.not_eq_true'] at h
      refine ⟨a.toNat, b.toNat, by omega, by omega, by omega, by omega, e1.1 h.1, ?_⟩
      rcases h.2 with h | h
      · exact .inl (by rw [h])
      · refine .inr fun k => ?_
        rw [show ((a.toNat : Nat) : Int) = a by omega, ← e2] at k
        rw [show (reachL g a).getD b.toNat false = (reachL g a).getD b.toNat default from rfl, h] at k; cases k
    · rintro ⟨x, y, rfl, rfl, hx, hy, hd⟩
      simp only [Bool.and_eq_true, Bool.or_eq_true, beq_iff_eq, Bool.not_eq_true']
      refine ⟨e1.2 hd.1, ?_⟩
      rcases hd.2 with h | h
      · exact .inl (by rw [h])
      · refine .inr ?_
        have : ¬ (reachL g x).getD y false = true := fun k => h (e2.1 k)
        exact Bool.eq_false_iff.2 this
  · rw [must_false h]
    constructor
    · intro h; cases h
    · rintro ⟨x, y, rfl, rfl, hx, hy, hd⟩
      exact (h (by omega)).elim

theorem fit_u8 {x : AV} (h : Sh.fit (.int .u8) x) : ∃ n : Int, x = .val (.int .u8 n) ∧ 0 ≤ n ∧ n ≤ 255 := by
  simp only [Sh.fit] at h
  obtain ⟨n, h1, h2⟩ := h
  simp [Lit.wf, IntKind.min, IntKind.max, IntKind.bits, IntKind.signed] at h2
  exact ⟨n, h1, by omega, by omega⟩

end Go.Proofs.Ytdiknjjhegckcaa
