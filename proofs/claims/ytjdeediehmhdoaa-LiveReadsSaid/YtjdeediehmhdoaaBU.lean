/-
  Live registers, plain: what the least table is. No condition.
-/
import Derived.Test.YtjdeediehmhdoaaB3
namespace Go.Proofs.Ytjdeediehmhdoaa
set_option linter.unusedSimpArgs false
set_option linter.unusedVariables false
open Go.V

/-- What matters behind a block is what matters ahead of those that follow. -/
theorem Least.way {f : BF} {L : LD} (h : Least f L) {b v : Nat} (hb : b < f.n) (hv : v < f.r) : L.O b v = true ↔ ∃ k ∈ nxt (f.bk b), L.I k.toNat v = true := by
  classical
  refine ⟨fun e => ?_, fun ⟨k, hk, e⟩ => h.cl.cl.way b hb k hk v hv e⟩
  have hc : Closed f L.I (fun b v => decide (∃ k ∈ nxt (f.bk b), L.I k.toNat v = true)) := by
    refine ⟨fun b hb k hk v hv e => decide_eq_true ⟨k, hk, e⟩, fun b hb v hv e => h.cl.cl.ahead b hb v hv ((Tri.ahead1 _ v).mono (fun e2 => ?_) e)⟩
    obtain ⟨k, hk, e3⟩ := of_decide_eq_true e2
    exact h.cl.cl.way b hb k hk v hv e3
  exact of_decide_eq_true ((h.min _ _ hc b hb v hv).2 e)
/-- What matters ahead of a block is what its code makes of what matters behind it. -/
theorem Least.ahead {f : BF} {L : LD} (hf : Fine f) (h : Least f L) {b v : Nat} (hb : b < f.n) (hv : v < f.r) : L.I b v = ahead1 (f.bk b) v (L.O b v) := by
  have hc : Closed f (fun b v => ahead1 (f.bk b) v (L.O b v)) L.O :=
    ⟨fun b hb k hk v hv e => h.cl.cl.way b hb k hk v hv (by
      refine h.cl.cl.ahead k.toNat ?_ v hv e
      have := hf.to _ (BF.mem hb) k hk
      unfold BF.n; omega), fun b hb v hv e => e⟩
  have h1 := (h.min _ _ hc b hb v hv).1
  have h2 := h.cl.cl.ahead b hb v hv
  cases e : L.I b v
  · cases e2 : ahead1 (f.bk b) v (L.O b v)
    · rfl
    · rw [h2 e2] at e; cases e
  · exact (h1 e).symm
end Go.Proofs.Ytjdeediehmhdoaa
