/-
  How deep the stack is, plainly: what a function's depths are, and that a search finds them. No condition.
-/
import Derived.Test.YtdfdkoajphcjbaaS1
namespace Go.Proofs.Ytdfdkoajphcjbaa
set_option linter.unusedSimpArgs false
set_option linter.unusedVariables false
open Go.V

/-- How many values an instruction takes off, and how many it pushes. -/
def tkS (s : SP) (f : Nat) (x : SI) : Option (Int × Int) :=
  if x.op = 1 ∨ x.op = 2 ∨ x.op = 12 then some (0, 1)
  else if x.op = 3 ∨ x.op = 9 ∨ x.op = 13 then some (1, 0)
  else if x.op = 4 ∨ x.op = 7 then some (1, 1)
  else if x.op = 5 then some (2, 0)
  else if x.op = 6 then some (2, 1)
  else if x.op = 8 then some (0, 0)
  else if x.op = 10 then (if 0 ≤ x.a ∧ x.a < s.funcs.length then some ((s.fn x.a.toNat).params, cntB (s.fn x.a.toNat).word) else none)
  else if x.op = 11 then some (cntB (s.fn f).word, 0)
  else none
/-- How deep it is behind an instruction. -/
def effD (s : SP) (f : Nat) (x : SI) (d : Int) : Option Int :=
  match tkS s f x with
  | none => none
  | some (t, p) => if t < 0 ∨ d < t ∨ (x.op = 11 ∧ d ≠ t) then none else some (d - t + p)
def nextL (x : SI) (k : Nat) : List Int := if x.op = 8 then [x.a] else if x.op = 9 then [(k : Int) + 1, x.a] else if x.op = 11 then [] else [(k : Int) + 1]
/-- All is as it must be at one place. -/
def Cl (s : SP) (f : Nat) (code : List SI) (dl : List Int) (i : Nat) : Prop :=
  ∃ e, effD s f (code.getD i default) (dl.getD i (-1)) = some e ∧ ∀ k ∈ nextL (code.getD i default) i, 0 ≤ k ∧ k < code.length ∧ dl.getD k.toNat (-1) = e
/-- A function's depths: -1 where it isn't reached. -/
structure Sol (s : SP) (f : Nat) (dl : List Int) : Prop where
  ne : (s.fn f).code ≠ []
  len : dl.length = (s.fn f).code.length
  zero : dl.getD 0 (-1) = 0
  cl : ∀ i, i < dl.length → 0 ≤ dl.getD i (-1) → Cl s f (s.fn f).code dl i

theorem tkS_p {s : SP} {f : Nat} {x : SI} {t p : Int} (h : tkS s f x = some (t, p)) : 0 ≤ p ∧ p ≤ 1 := by
  unfold tkS at h
  have cb : ∀ b : Bool, (0 : Int) ≤ (cntB b : Nat) ∧ ((cntB b : Nat) : Int) ≤ 1 := fun b => by cases b <;> decide
  by_cases e : x.op = 1 ∨ x.op = 2 ∨ x.op = 12
  · rw [if_pos e] at h; cases h; decide
  rw [if_neg e] at h; clear e
  by_cases e : x.op = 3 ∨ x.op = 9 ∨ x.op = 13
  · rw [if_pos e] at h; cases h; decide
  rw [if_neg e] at h; clear e
  by_cases e : x.op = 4 ∨ x.op = 7
  · rw [if_pos e] at h; cases h; decide
  rw [if_neg e] at h; clear e
  by_cases e : x.op = 5
  · rw [if_pos e] at h; cases h; decide
  rw [if_neg e] at h; clear e
  by_cases e : x.op = 6
  · rw [if_pos e] at h; cases h; decide
  rw [if_neg e] at h; clear e
  by_cases e : x.op = 8
  · rw [if_pos e] at h; cases h; decide
  rw [if_neg e] at h; clear e
  by_cases e : x.op = 10
  · rw [if_pos e] at h
    split at h
    · cases h; exact cb _
    · cases h
  rw [if_neg e] at h; clear e
  by_cases e : x.op = 11
  · rw [if_pos e] at h; cases h; decide
  rw [if_neg e] at h; cases h

theorem effD_bound {s : SP} {f : Nat} {x : SI} {d e : Int} (h : effD s f x d = some e) : 0 ≤ e ∧ e ≤ d + 1 := by
  unfold effD at h
  split at h
  · cases h
  · rename_i t p ht
    have := tkS_p ht
    split at h
    · cases h
    · cases h; omega

theorem getD_lt {l : List Int} {j : Nat} (h : j < l.length) : l.getD j default = l[j] := by simp [List.getD, h]
def negs (dl : List Int) : Nat := dl.countP fun d => decide (d < 0)
theorem negs_set {dl : List Int} {k : Nat} {e : Int} (hk : k < dl.length) (h : dl.getD k (-1) < 0) (he : 0 ≤ e) : negs (dl.set k e) + 1 = negs dl := by
  unfold negs
  rw [List.getD, List.getElem?_eq_getElem hk, Option.getD_some] at h
  have hp : 0 < dl.countP fun d => decide (d < 0) := List.countP_pos_iff.2 ⟨dl[k], List.getElem_mem hk, by simpa using h⟩
  rw [List.countP_set hk]
  have a1 : decide (dl[k] < 0) = true := by simpa using h
  have a2 : decide (e < 0) = false := by simp; omega
  simp only [a1, a2, if_true, Bool.false_eq_true, if_false]
  omega
theorem negs_le (dl : List Int) : negs dl ≤ dl.length := List.countP_le_length

/-- What is known in the midst of the search; one: the place that is looked at, and how many of those behind it were. -/
structure WL (s : SP) (f : Nat) (dl : List Int) (todo : List Nat) (one : Option (Nat × Int × Nat)) : Prop where
  len : dl.length = (s.fn f).code.length
  zero : dl.getD 0 (-1) = 0
  td : ∀ t ∈ todo, t < dl.length ∧ 0 ≤ dl.getD t (-1)
  cl : ∀ i, i < dl.length → 0 ≤ dl.getD i (-1) → i ∈ todo ∨ (∃ e j, one = some (i, e, j)) ∨ Cl s f (s.fn f).code dl i
  on : ∀ i e j, one = some (i, e, j) → i < dl.length ∧ 0 ≤ dl.getD i (-1) ∧ effD s f ((s.fn f).code.getD i default) (dl.getD i (-1)) = some e ∧
    ∀ k ∈ (nextL ((s.fn f).code.getD i default) i).take j, 0 ≤ k ∧ k < (s.fn f).code.length ∧ dl.getD k.toNat (-1) = e
  bound : ∀ i, dl.getD i (-1) + negs dl ≤ dl.length
  sub : ∀ out, Sol s f out → ∀ i, 0 ≤ dl.getD i (-1) → out.getD i (-1) = dl.getD i (-1)

theorem WL.start {s : SP} {f : Nat} (h : (s.fn f).code ≠ []) : WL s f ((List.replicate (s.fn f).code.length (-1)).set 0 0) [0] none := by
  obtain ⟨n, hn⟩ : ∃ n, (s.fn f).code.length = n + 1 := by
    cases hc : (s.fn f).code with
    | nil => exact absurd hc h
    | cons a l => exact ⟨l.length, rfl⟩
  have hd : (List.replicate (s.fn f).code.length (-1 : Int)).set 0 0 = 0 :: List.replicate n (-1) := by rw [hn]; rfl
  have hr : ∀ i, (List.replicate n (-1 : Int)).getD i (-1) = -1 := fun i => by
    rw [List.getD]
    by_cases hi : i < n
    · rw [List.getElem?_replicate, if_pos hi]; rfl
    · rw [List.getElem?_replicate, if_neg hi]; rfl
  rw [hd]
  have g0 : (0 :: List.replicate n (-1 : Int)).getD 0 (-1) = 0 := rfl
  have gs : ∀ i, (0 :: List.replicate n (-1 : Int)).getD (i + 1) (-1) = -1 := fun i => by rw [List.getD_cons_succ]; exact hr i
  refine ⟨by simp [hn], g0, ?_, ?_, ?_, ?_, ?_⟩
  · intro t ht
    simp only [List.mem_singleton] at ht; subst ht
    exact ⟨by simp, by rw [g0]; decide⟩
  · intro i _ hi
    cases i with
    | zero => exact .inl (by simp)
    | succ i => rw [gs] at hi; omega
  · intro i e j h; cases h
  · intro i
    have hneg : negs (0 :: List.replicate n (-1 : Int)) = n := by
      unfold negs; rw [List.countP_cons, List.countP_replicate]; simp
    rw [hneg]
    cases i with
    | zero => rw [g0]; simp; omega
    | succ i => rw [gs]; simp; omega
  · intro out ho i hi
    cases i with
    | zero => rw [g0]; exact ho.zero
    | succ i => rw [gs] at hi; omega

/-- A place is taken out of those to be looked at. -/
theorem WL.take {s : SP} {f : Nat} {dl : List Int} {todo rest : List Nat} {k : Nat} {e : Int} (h : WL s f dl todo none) (hk : k ∈ todo) (hr : ∀ t, t ∈ todo → t = k ∨ t ∈ rest) (hr2 : ∀ t ∈ rest, t ∈ todo)
    (he : effD s f ((s.fn f).code.getD k default) (dl.getD k (-1)) = some e) : WL s f dl rest (some (k, e, 0)) := by
  obtain ⟨h1, h2, h3, h4, h5, h6, h7⟩ := h
  refine ⟨h1, h2, fun t ht => h3 t (hr2 t ht), fun i hi hd => ?_, ?_, h6, h7⟩
  · rcases h4 i hi hd with g | ⟨e, j, g⟩ | g
    · rcases hr i g with rfl | g
      · exact .inr (.inl ⟨e, 0, rfl⟩)
      · exact .inl g
    · cases g
    · exact .inr (.inr g)
  · intro i e' j hx
    cases hx
    exact ⟨(h3 k hk).1, (h3 k hk).2, he, by simp⟩
theorem WL.fail {s : SP} {f : Nat} {dl : List Int} {todo : List Nat} {k : Nat} (h : WL s f dl todo none) (hk : k ∈ todo) (he : effD s f ((s.fn f).code.getD k default) (dl.getD k (-1)) = none) (out : List Int) : ¬ Sol s f out := fun ho => by
  obtain ⟨h8, h9⟩ := h.td k hk
  have e := h.sub out ho k h9
  obtain ⟨e', g1, _⟩ := ho.cl k (by rw [ho.len, ← h.len]; exact h8) (by rw [e]; exact h9)
  rw [e, he] at g1; cases g1
/-- One that follows is looked at: it can't be. -/
theorem WL.fail2 {s : SP} {f : Nat} {dl : List Int} {todo : List Nat} {k j : Nat} {e : Int} (h : WL s f dl todo (some (k, e, j))) (hj : j < (nextL ((s.fn f).code.getD k default) k).length)
    (hb : (nextL ((s.fn f).code.getD k default) k).getD j default < 0 ∨ (s.fn f).code.length ≤ (nextL ((s.fn f).code.getD k default) k).getD j default ∨
      (0 ≤ dl.getD ((nextL ((s.fn f).code.getD k default) k).getD j default).toNat (-1) ∧ dl.getD ((nextL ((s.fn f).code.getD k default) k).getD j default).toNat (-1) ≠ e)) (out : List Int) : ¬ Sol s f out := fun ho => by
  obtain ⟨h8, h9, h10, _⟩ := h.on k e j rfl
  have e1 := h.sub out ho k h9
  obtain ⟨e', g1, g2⟩ := ho.cl k (by rw [ho.len, ← h.len]; exact h8) (by rw [e1]; exact h9)
  rw [e1, h10] at g1
  cases g1
  have hm : (nextL ((s.fn f).code.getD k default) k).getD j default ∈ nextL ((s.fn f).code.getD k default) k := by
    rw [getD_lt hj]; exact List.getElem_mem hj
  obtain ⟨q1, q2, q3⟩ := g2 _ hm
  rcases hb with hb | hb | ⟨hb1, hb2⟩
  · omega
  · omega
  · exact hb2 (by rw [← h.sub out ho _ hb1]; exact q3)
/-- It was known. -/
theorem WL.known {s : SP} {f : Nat} {dl : List Int} {todo : List Nat} {k j : Nat} {e : Int} (h : WL s f dl todo (some (k, e, j))) (hj : j < (nextL ((s.fn f).code.getD k default) k).length)
    (q1 : 0 ≤ (nextL ((s.fn f).code.getD k default) k).getD j default) (q2 : (nextL ((s.fn f).code.getD k default) k).getD j default < (s.fn f).code.length)
    (q3 : dl.getD ((nextL ((s.fn f).code.getD k default) k).getD j default).toNat (-1) = e) : WL s f dl todo (some (k, e, j + 1)) := by
  obtain ⟨h1, h2, h3, h4, h5, h6, h7⟩ := h
  refine ⟨h1, h2, h3, fun i hi hd => ?_, fun i e' j' hx => ?_, h6, h7⟩
  · rcases h4 i hi hd with g | ⟨e, j, g⟩ | g
    · exact .inl g
    · cases g; exact .inr (.inl ⟨_, _, rfl⟩)
    · exact .inr (.inr g)
  · cases hx
    obtain ⟨g1, g2, g3, g4⟩ := h5 k e j rfl
    refine ⟨g1, g2, g3, fun x hx => ?_⟩
    rw [List.take_add_one, List.getElem?_eq_getElem hj] at hx
    rcases List.mem_append.1 hx with hx | hx
    · exact g4 x hx
    · simp only [Option.toList_some, List.mem_singleton] at hx
      rw [getD_lt hj] at q1 q2 q3
      subst hx
      exact ⟨q1, q2, q3⟩
/-- It is new. -/
theorem WL.fresh {s : SP} {f : Nat} {dl : List Int} {todo todo' : List Nat} {k j : Nat} {e : Int} (h : WL s f dl todo (some (k, e, j))) (hj : j < (nextL ((s.fn f).code.getD k default) k).length)
    (q1 : 0 ≤ (nextL ((s.fn f).code.getD k default) k).getD j default) (q2 : (nextL ((s.fn f).code.getD k default) k).getD j default < (s.fn f).code.length)
    (q3 : dl.getD ((nextL ((s.fn f).code.getD k default) k).getD j default).toNat (-1) < 0) (ht : ∀ t, t ∈ todo' ↔ t = ((nextL ((s.fn f).code.getD k default) k).getD j default).toNat ∨ t ∈ todo) :
    WL s f (dl.set ((nextL ((s.fn f).code.getD k default) k).getD j default).toNat e) todo' (some (k, e, j + 1)) := by
  obtain ⟨x, hx⟩ : ∃ x, (nextL ((s.fn f).code.getD k default) k).getD j default = x := ⟨_, rfl⟩
  rw [hx] at q1 q2 q3 ht ⊢
  have h5 := h.on k e j rfl
  obtain ⟨h1, h2, h3, h4, _, h6, h7⟩ := h
  obtain ⟨g1, g2, g3, g4⟩ := h5
  obtain ⟨hb1, hb2⟩ := effD_bound g3
  have hxl : x.toNat < dl.length := by omega
  have get : ∀ i, (dl.set x.toNat e).getD i (-1) = if i = x.toNat then e else dl.getD i (-1) := fun i => by
    rw [List.getD, List.getD, List.getElem?_set]
    by_cases hi : x.toNat = i
    · rw [if_pos hi, if_pos hxl, if_pos hi.symm]; rfl
    · rw [if_neg hi, if_neg (fun h => hi h.symm)]
  have keep : ∀ i, 0 ≤ dl.getD i (-1) → (dl.set x.toNat e).getD i (-1) = dl.getD i (-1) := fun i hi => by
    rw [get, if_neg]; intro e'; rw [e'] at hi; omega
  have hneg := negs_set hxl q3 hb1
  have hm : x ∈ nextL ((s.fn f).code.getD k default) k := by
    rw [← hx, getD_lt hj]; exact List.getElem_mem hj
  refine ⟨by rw [List.length_set]; exact h1, by rw [keep 0 (by rw [h2]; decide)]; exact h2, fun t hh => ?_, fun i hi hd => ?_, fun i e' j' hx' => ?_, fun i => ?_, fun out ho i hi => ?_⟩
  · rw [List.length_set]
    rcases (ht t).1 hh with rfl | hh
    · exact ⟨hxl, by rw [get, if_pos rfl]; exact hb1⟩
    · exact ⟨(h3 t hh).1, by rw [keep t (h3 t hh).2]; exact (h3 t hh).2⟩
  · rw [List.length_set] at hi
    by_cases hix : i = x.toNat
    · exact .inl ((ht i).2 (.inl hix))
    · rw [get, if_neg hix] at hd
      rcases h4 i hi hd with g | ⟨_, _, g⟩ | ⟨e2, c1, c2⟩
      · exact .inl ((ht i).2 (.inr g))
      · cases g; exact .inr (.inl ⟨_, _, rfl⟩)
      · refine .inr (.inr ⟨e2, by rw [keep i hd]; exact c1, fun y hy => ?_⟩)
        obtain ⟨d1, d2, d3⟩ := c2 y hy
        have := (effD_bound c1).1
        exact ⟨d1, d2, by rw [keep _ (by rw [d3]; exact this)]; exact d3⟩
  · cases hx'
    refine ⟨by rw [List.length_set]; exact g1, by rw [keep k g2]; exact g2, by rw [keep k g2]; exact g3, fun y hy => ?_⟩
    rw [List.take_add_one, List.getElem?_eq_getElem hj] at hy
    rcases List.mem_append.1 hy with hy | hy
    · obtain ⟨d1, d2, d3⟩ := g4 y hy
      exact ⟨d1, d2, by rw [keep _ (by rw [d3]; exact hb1)]; exact d3⟩
    · simp only [Option.toList_some, List.mem_singleton] at hy
      rw [getD_lt hj] at hx
      subst hy
      rw [hx]
      exact ⟨q1, q2, by rw [get, if_pos rfl]⟩
  · rw [List.length_set, get]
    split
    · have := h6 k; omega
    · have := h6 i; omega
  · rw [get] at hi ⊢
    split
    · rename_i hix
      have e1 := h7 out ho k g2
      obtain ⟨e', c1, c2⟩ := ho.cl k (by rw [ho.len, ← h1]; exact g1) (by rw [e1]; exact g2)
      rw [e1, g3] at c1
      cases c1
      rw [hix]; exact (c2 x hm).2.2
    · rename_i hix
      rw [if_neg hix] at hi
      exact h7 out ho i hi
/-- All that follow were looked at. -/
theorem WL.done {s : SP} {f : Nat} {dl : List Int} {todo : List Nat} {k j : Nat} {e : Int} (h : WL s f dl todo (some (k, e, j))) (hj : (nextL ((s.fn f).code.getD k default) k).length ≤ j) : WL s f dl todo none := by
  obtain ⟨g1, g2, g3, g4⟩ := h.on k e j rfl
  obtain ⟨h1, h2, h3, h4, h5, h6, h7⟩ := h
  refine ⟨h1, h2, h3, fun i hi hd => ?_, fun i e' j' hx => (by cases hx), h6, h7⟩
  rcases h4 i hi hd with g | ⟨e, j, g⟩ | g
  · exact .inl g
  · cases g
    exact .inr (.inr ⟨_, g3, fun y hy => g4 y (by rw [List.take_of_length_le hj]; exact hy)⟩)
  · exact .inr (.inr g)
/-- Nothing is left. -/
theorem WL.sol {s : SP} {f : Nat} {dl : List Int} (h : WL s f dl [] none) : Sol s f dl := by
  refine ⟨fun hc => ?_, h.len, h.zero, fun i hi hd => ?_⟩
  · have h0 := h.zero
    rw [show dl = [] from List.eq_nil_of_length_eq_zero (by rw [h.len, hc]; rfl)] at h0
    simp at h0
  · rcases h.cl i hi hd with g | ⟨e, j, g⟩ | g
    · cases g
    · cases g
    · exact g
/-- What a search tells. -/
def DepthsR (s : SP) (f : Nat) (dl : List Int) (ok : Bool) : Prop :=
  (ok = true → Sol s f dl ∧ ∀ i, dl.getD i (-1) ≤ dl.length) ∧ ∀ out, Sol s f out → ok = true ∧ ∀ i, 0 ≤ dl.getD i (-1) → out.getD i (-1) = dl.getD i (-1)
end Go.Proofs.Ytdfdkoajphcjbaa
