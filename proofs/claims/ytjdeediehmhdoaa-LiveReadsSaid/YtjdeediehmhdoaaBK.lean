/-
  The document's search, plainly: block by block, the last one first, until nothing is added. No condition.
-/
import Derived.Test.YtjdeediehmhdoaaBB
namespace Go.Proofs.Ytjdeediehmhdoaa
set_option linter.unusedSimpArgs false
set_option linter.unusedVariables false
open Go.V

/-- A pass in the midst: the rows, and whether any was added to. -/
structure PV where
  I : List (List Bool)
  O : List (List Bool)
  m : Bool
def inOf (f : BF) (I O : List (List Bool)) (b : Nat) : List Bool := aheadL (f.bk b) (newO f I O b)
def stepR (f : BF) (p : PV) (b : Nat) : PV := ⟨p.I.set b (orL (p.I.getD b []) (inOf f p.I p.O b)), p.O.set b (newO f p.I p.O b), p.m || decide (orL (p.I.getD b []) (inOf f p.I p.O b) ≠ p.I.getD b [])⟩
def passR (f : BF) (I O : List (List Bool)) : Nat → PV
  | 0 => ⟨I, O, false⟩
  | c + 1 => stepR f (passR f I O c) (f.n - 1 - c)

structure RInv (f : BF) (I O : List (List Bool)) : Prop where
  sz : SizedP f ⟨I, O⟩
  un : Under f ⟨I, O⟩
section
variable {f : BF}
theorem RInv.olen (hf : Fine f) {I O : List (List Bool)} (h : RInv f I O) {b : Nat} (hb : b < f.n) : (newO f I O b).length = f.r := newO_len (σ := ⟨I, O, []⟩) hf h.sz hb
theorem RInv.alen (hf : Fine f) {I O : List (List Bool)} (h : RInv f I O) {b : Nat} (hb : b < f.n) : (inOf f I O b).length = f.r := by unfold inOf; rw [aheadL_len, h.olen hf hb]
theorem RInv.step (hf : Fine f) {p : PV} (h : RInv f p.I p.O) {b : Nat} (hb : b < f.n) : RInv f (stepR f p b).I (stepR f p b).O := by
  have hbO : b < p.O.length := by rw [show p.O.length = f.n from h.sz.o]; exact hb
  have hil : (p.I.getD b []).length = f.r := h.sz.il hb
  have hs1 := h.sz.setO (b := b) (h.olen hf hb)
  refine ⟨hs1.setI (by rw [orL_len, hil]), under_in hf hs1 (under_out hf h.sz h.un hb) hb fun v hv e => ?_⟩
  rw [gB_or _ _ (by rw [hil]; exact hv), Bool.or_eq_true] at e
  rcases e with e | e
  · exact .inl e
  · refine .inr ?_
    rw [row_set hbO, if_pos rfl]
    exact e
theorem RInv.pass (hf : Fine f) {I O : List (List Bool)} (h : RInv f I O) : ∀ c, c ≤ f.n → RInv f (passR f I O c).I (passR f I O c).O
  | 0, _ => h
  | c + 1, hc => RInv.step hf (RInv.pass hf h c (by omega)) (by omega)
theorem or_self_ge {a b : List Bool} {v : Nat} (hv : v < a.length) (e : orL a b = a) (h : gB b v = true) : gB a v = true := by
  rw [← e, gB_or _ _ hv, h, Bool.or_true]

theorem pass_mono (hf : Fine f) {I O : List (List Bool)} (h : RInv f I O) : ∀ c, c ≤ f.n → unset (passR f I O c).I ≤ unset I ∧ ((passR f I O c).m = true → unset (passR f I O c).I < unset I)
  | 0, _ => ⟨Nat.le_refl _, fun e => by simp [passR] at e⟩
  | c + 1, hc => by
    obtain ⟨h1, h2⟩ := pass_mono hf h c (by omega)
    have hI := h.pass hf c (by omega)
    have hb : f.n - 1 - c < f.n := by omega
    have hu := unset_set (m := (passR f I O c).I) (b := f.n - 1 - c) (l := orL ((passR f I O c).I.getD (f.n - 1 - c) []) (inOf f (passR f I O c).I (passR f I O c).O (f.n - 1 - c)))
      (by rw [show (passR f I O c).I.length = f.n from hI.sz.i]; exact hb) (by rw [orL_len]) fun v e => by rw [gB_or _ _ (gB_le e), e]; rfl
    refine ⟨Nat.le_trans hu.1 h1, fun e => ?_⟩
    have e' : ((passR f I O c).m || decide (orL ((passR f I O c).I.getD (f.n - 1 - c) []) (inOf f (passR f I O c).I (passR f I O c).O (f.n - 1 - c)) ≠ (passR f I O c).I.getD (f.n - 1 - c) [])) = true := e
    rw [Bool.or_eq_true, decide_eq_true_eq] at e'
    rcases e' with e' | e'
    · exact Nat.lt_of_le_of_lt hu.1 (h2 e')
    · exact Nat.lt_of_lt_of_le (hu.2 (fun g => e' g.symm)) h1

/-- A pass that adds nothing. -/
theorem pass_still (hf : Fine f) {I O : List (List Bool)} (h : RInv f I O) : ∀ c, c ≤ f.n → (passR f I O c).m = false → (passR f I O c).I = I ∧
    ∀ b < f.n, f.n - c ≤ b → (∀ k ∈ nxt (f.bk b), ∀ v < f.r, gB (I.getD k.toNat []) v = true → gB ((passR f I O c).O.getD b []) v = true) ∧ ∀ v < f.r, gB (aheadL (f.bk b) ((passR f I O c).O.getD b [])) v = true → gB (I.getD b []) v = true
  | 0, _, _ => ⟨rfl, fun b hb h => by omega⟩
  | c + 1, hc, hm => by
    have hm' : ((passR f I O c).m || decide (orL ((passR f I O c).I.getD (f.n - 1 - c) []) (inOf f (passR f I O c).I (passR f I O c).O (f.n - 1 - c)) ≠ (passR f I O c).I.getD (f.n - 1 - c) [])) = false := hm
    rw [Bool.or_eq_false_iff, decide_eq_false_iff_not] at hm'
    obtain ⟨h1, h2⟩ := pass_still hf h c (by omega) hm'.1
    have hI := h.pass hf c (by omega)
    have hsame : orL ((passR f I O c).I.getD (f.n - 1 - c) []) (inOf f (passR f I O c).I (passR f I O c).O (f.n - 1 - c)) = (passR f I O c).I.getD (f.n - 1 - c) [] := Classical.not_not.1 hm'.2
    have hb : f.n - 1 - c < f.n := by omega
    have hOl : f.n - 1 - c < (passR f I O c).O.length := by rw [show (passR f I O c).O.length = f.n from hI.sz.o]; exact hb
    have hIl : f.n - 1 - c < (passR f I O c).I.length := by rw [show (passR f I O c).I.length = f.n from hI.sz.i]; exact hb
    have hset : (passR f I O (c + 1)).I = I := by
      show (passR f I O c).I.set (f.n - 1 - c) _ = I
      rw [hsame, h1]
      rw [h1] at hIl
      have : I.getD (f.n - 1 - c) [] = I[f.n - 1 - c] := by simp [List.getD, List.getElem?_eq_getElem hIl]
      rw [this, List.set_getElem_self]
    refine ⟨hset, fun b hb' hlo => ?_⟩
    have hO : (passR f I O (c + 1)).O.getD b [] = if f.n - 1 - c = b then newO f (passR f I O c).I (passR f I O c).O (f.n - 1 - c) else (passR f I O c).O.getD b [] := row_set hOl
    rw [hO]
    by_cases e : f.n - 1 - c = b
    · subst e
      rw [if_pos rfl]
      refine ⟨fun k hk v hv g => ?_, fun v hv g => ?_⟩
      · refine newO_way (σ := ⟨(passR f I O c).I, (passR f I O c).O, []⟩) hf hI.sz hb hk hv ?_
        rw [h1]; exact g
      · rw [← h1]
        exact or_self_ge (by rw [show ((passR f I O c).I.getD (f.n - 1 - c) []).length = f.r from hI.sz.il hb]; exact hv) hsame g
    · rw [if_neg e]
      exact h2 b hb' (by omega)

theorem pass_least (hf : Fine f) {I O : List (List Bool)} (h : RInv f I O) (hm : (passR f I O f.n).m = false) : Least f ⟨(passR f I O f.n).I, (passR f I O f.n).O⟩ := by
  have hI := h.pass hf f.n (Nat.le_refl _)
  obtain ⟨h1, h2⟩ := pass_still hf h f.n (Nat.le_refl _) hm
  refine ⟨⟨hI.sz, ⟨fun b hb k hk v hv e => ?_, fun b hb v hv e => ?_⟩⟩, hI.un⟩
  · have e' : gB ((passR f I O f.n).I.getD k.toNat []) v = true := e
    rw [h1] at e'
    exact (h2 b hb (by omega)).1 k hk v hv e'
  · show gB ((passR f I O f.n).I.getD b []) v = true
    rw [h1]
    refine (h2 b hb (by omega)).2 v hv ?_
    rw [gB_ahead hf hb ((passR f I O f.n).O.getD b []) (hI.sz.ol hb) hv]
    exact e
theorem begin_r (f : BF) : RInv f (beginS f).I (beginS f).O := ⟨(begin_inv f).sz, (begin_inv f).un⟩
end
end Go.Proofs.Ytjdeediehmhdoaa
