/-
  exec: results, questions and pairs as data. No condition.
-/
import Derived.Test.YtjoldjcfabbekaaE5
import Derived.Test.YtjoldjcfabbekaaM16
namespace Go.Proofs.Ytjoldjcfabbekaa
set_option linter.unusedSimpArgs false
set_option linter.unusedVariables false
set_option maxRecDepth 10000
open Go.V Go.ChangeShapes Go.WideShapes Go.ChangeAt Go.RowKit

theorem fitL_cons {s : Sh} {ss : List Sh} {ys : List AV} (h : Sh.fitL (s :: ss) ys) : ∃ y ys', ys = y :: ys' ∧ s.fit y ∧ Sh.fitL ss ys' := by
  simpa only [Sh.fitL] using h
theorem fitL_nil {ys : List AV} (h : Sh.fitL [] ys) : ys = [] := by
  simpa only [Sh.fitL] using h
theorem fit_str {x : AV} (h : Sh.fit .str x) : ∃ s : ByteArray, x = strv s := by
  simp only [Sh.fit] at h
  obtain ⟨s, rfl, _⟩ := h
  exact ⟨s, rfl⟩
abbrev resSh : Sh := .agg [.int .i64, .str, .int .i64]
theorem res_of {x : AV} (h : Sh.fit resSh x) : ∃ e out st, x = resA e out st := by
  simp only [resSh, Sh.fit.eq_5] at h
  obtain ⟨ys, rfl, h⟩ := h
  obtain ⟨a, _, rfl, ha, hB⟩ := fitL_cons h
  obtain ⟨b, _, rfl, hb, hC⟩ := fitL_cons hB
  obtain ⟨c, _, rfl, hc, hD⟩ := fitL_cons hC
  have := fitL_nil hD
  subst this
  obtain ⟨n, rfl, _⟩ := fit_int ha
  obtain ⟨s, rfl⟩ := fit_str hb
  obtain ⟨k, rfl, _⟩ := fit_int hc
  exact ⟨n, s, k, rfl⟩
end Go.Proofs.Ytjoldjcfabbekaa
