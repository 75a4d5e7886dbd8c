/-
  Graphs, plainly: the walk depth first, step by step, as the program and the document's answer both do it. No condition.
-/
import Derived.WalkKit
namespace Go.V.FL

abbrev G := List (List Int)

structure D where
  way : List (Nat × Nat)
  seen : List Bool
  out : List Nat
deriving DecidableEq, Inhabited

/-- May k be gone into? -/
def fits (g : G) (seen : List Bool) (k : Int) : Bool := decide (0 ≤ k) && decide (k < g.length) && !(seen.getD k.toNat true)

def into (g : G) (k : Int) (d : D) : D :=
  if fits g d.seen k then ⟨d.way ++ [(k.toNat, 0)], d.seen.set k.toNat true, d.out⟩ else d

def row (g : G) (b : Nat) : List Int := g.getD b []

def dstep (g : G) (d : D) : D :=
  match d.way.getLast? with
  | none => d
  | some (b, i) =>
    if i < (row g b).length then into g ((row g b).getD i 0) ⟨d.way.dropLast ++ [(b, i + 1)], d.seen, d.out⟩
    else ⟨d.way.dropLast, d.seen, d.out ++ [b]⟩

def drun (g : G) : Nat → D → D
  | 0, d => d
  | n + 1, d => drun g n (dstep g d)

theorem drun_succ (g : G) (n : Nat) : ∀ d, drun g (n + 1) d = dstep g (drun g n d) := by
  induction n with
  | zero => intro d; rfl
  | succ n ih => intro d; rw [drun, ih]; rfl

/-- d' is what the walk comes to from d. -/
def Dfs (g : G) (d d' : D) : Prop := d'.way = [] ∧ ∃ n, d' = drun g n d

theorem drun_stuck (g : G) (d : D) (h : d.way = []) : ∀ n, drun g n d = d
  | 0 => rfl
  | n + 1 => by
    have : dstep g d = d := by unfold dstep; rw [h]; rfl
    rw [drun, this, drun_stuck g d h n]

theorem drun_add (g : G) (m : Nat) : ∀ (n : Nat) (d : D), drun g (n + m) d = drun g m (drun g n d)
  | 0, d => by rw [Nat.zero_add]; rfl
  | n + 1, d => by rw [show n + 1 + m = (n + m) + 1 by omega, drun, drun_add g m n]; rfl

theorem Dfs.unique {g : G} {d a b : D} (ha : Dfs g d a) (hb : Dfs g d b) : a = b := by
  obtain ⟨h1, n, rfl⟩ := ha
  obtain ⟨h2, m, rfl⟩ := hb
  rcases Nat.le_total n m with h | h
  · obtain ⟨k, rfl⟩ := Nat.le.dest h
    rw [drun_add, drun_stuck g _ h1]
  · obtain ⟨k, rfl⟩ := Nat.le.dest h
    rw [drun_add, drun_stuck g _ h2]

/-- What is in order at each step. -/
structure Wf (g : G) (d : D) : Prop where
  seen : d.seen.length = g.length
  way : ∀ p ∈ d.way, p.1 < g.length

def unseenW : G → List Bool → Nat
  | l :: g, s :: seen => (if s then 0 else l.length + 2) + unseenW g seen
  | _, _ => 0

def wayW (g : G) : List (Nat × Nat) → Nat
  | [] => 0
  | p :: w => ((row g p.1).length - p.2 + 1) + wayW g w

def meas (g : G) (d : D) : Nat := wayW g d.way + unseenW g d.seen

theorem wayW_append (g : G) : ∀ (a b : List (Nat × Nat)), wayW g (a ++ b) = wayW g a + wayW g b
  | [], b => by simp [wayW]
  | p :: a, b => by simp [wayW, wayW_append g a b]; omega

theorem unseenW_set : ∀ (g : G) (seen : List Bool) (k : Nat), k < g.length → seen.getD k true = false → unseenW g seen = unseenW g (seen.set k true) + ((row g k).length + 2)
  | [], _, k, h, _ => by simp at h
  | l :: g, [], k, _, h => by simp at h
  | l :: g, s :: seen, 0, _, h => by simp at h; subst h; simp [unseenW, row]; omega
  | l :: g, s :: seen, k + 1, h, hs => by
    have := unseenW_set g seen k (by simpa using h) (by simpa using hs)
    have hr : row (l :: g) (k + 1) = row g k := by simp [row]
    simp only [unseenW, List.set_cons_succ, hr]
    omega

theorem fits_iff {g : G} {seen : List Bool} {k : Int} : fits g seen k = true ↔ 0 ≤ k ∧ k < g.length ∧ seen.getD k.toNat true = false := by
  simp [fits, and_assoc]

theorem into_wf {g : G} {k : Int} {d : D} (h : Wf g d) : Wf g (into g k d) := by
  unfold into
  split
  · rename_i hf
    obtain ⟨h1, h2, h3⟩ := fits_iff.1 hf
    refine ⟨by simpa using h.seen, fun p hp => ?_⟩
    rcases List.mem_append.1 hp with hp | hp
    · exact h.way p hp
    · simp at hp; subst hp; simp; omega
  · exact h

theorem into_meas {g : G} {k : Int} {d : D} : meas g (into g k d) ≤ meas g d := by
  unfold into
  split
  · rename_i hf
    obtain ⟨h1, h2, h3⟩ := fits_iff.1 hf
    have := unseenW_set g d.seen k.toNat (by omega) h3
    simp only [meas, wayW_append, wayW]
    omega
  · exact Nat.le_refl _

theorem snoc_of {w : List (Nat × Nat)} {p : Nat × Nat} (h : w.getLast? = some p) : ∃ ws, w = ws ++ [p] := List.getLast?_eq_some_iff.1 h

theorem dstep_snoc (g : G) (ws : List (Nat × Nat)) (b i : Nat) (seen : List Bool) (out : List Nat) : dstep g ⟨ws ++ [(b, i)], seen, out⟩ =
    if i < (row g b).length then into g ((row g b).getD i 0) ⟨ws ++ [(b, i + 1)], seen, out⟩ else ⟨ws, seen, out ++ [b]⟩ := by
  simp [dstep]

theorem dstep_wf {g : G} {d : D} (h : Wf g d) : Wf g (dstep g d) := by
  obtain ⟨way, seen, out⟩ := d
  rcases List.eq_nil_or_concat way with rfl | ⟨ws, p, rfl⟩
  · exact h
  · obtain ⟨b, i⟩ := p
    rw [List.concat_eq_append] at h ⊢
    rw [dstep_snoc]
    split
    · exact into_wf ⟨h.seen, fun p hp => by
        rcases List.mem_append.1 hp with hp | hp
        · exact h.way p (List.mem_append.2 (.inl hp))
        · simp at hp; subst hp; exact h.way (b, i) (by simp)⟩
    · exact ⟨h.seen, fun p hp => h.way p (List.mem_append.2 (.inl hp))⟩

theorem dstep_meas {g : G} {ws : List (Nat × Nat)} {b i : Nat} {seen : List Bool} {out : List Nat} : meas g (dstep g ⟨ws ++ [(b, i)], seen, out⟩) < meas g ⟨ws ++ [(b, i)], seen, out⟩ := by
  rw [dstep_snoc]
  split
  · rename_i hi
    refine Nat.lt_of_le_of_lt into_meas ?_
    simp only [meas, wayW_append, wayW]
    omega
  · simp only [meas, wayW_append, wayW]
    omega

theorem way_le (g : G) : ∀ (w : List (Nat × Nat)), w.length ≤ wayW g w
  | [] => Nat.le_refl _
  | p :: w => by have := way_le g w; simp only [wayW, List.length_cons]; omega
theorem unseen_le : ∀ (g : G) (seen : List Bool) (m : Nat), (∀ r ∈ g, r.length ≤ m) → unseenW g seen ≤ g.length * (m + 2)
  | [], seen, m, _ => by cases seen <;> simp [unseenW]
  | l :: g, [], m, _ => by simp [unseenW]
  | l :: g, s :: seen, m, h => by
    have h1 := unseen_le g seen m (fun r hr => h r (by simp [hr]))
    have h2 := h l (by simp)
    simp only [unseenW, List.length_cons, Nat.succ_mul]
    split <;> omega
end Go.V.FL
