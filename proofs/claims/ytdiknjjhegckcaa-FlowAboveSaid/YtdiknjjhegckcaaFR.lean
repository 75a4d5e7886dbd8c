/-
  flow: contracts, part 13: the nearest ones above. No condition.
-/
import Derived.Test.YtdiknjjhegckcaaFQ
import Derived.Test.YtdiknjjhegckcaaFO
namespace Go.Proofs.Ytdiknjjhegckcaa
set_option linter.unusedSimpArgs false
set_option linter.unusedVariables false
set_option maxRecDepth 10000
open Go.V Go.V.FL

theorem sum_le {α : Type} {f h : α → Nat} : ∀ {l : List α}, (∀ k ∈ l, f k ≤ h k) → (l.map f).sum ≤ (l.map h).sum
  | [], _ => Nat.le_refl _
  | a :: l, q => by
    have := sum_le (l := l) fun k hk => q k (by simp [hk])
    have := q a (by simp)
    simp only [List.map_cons, List.sum_cons]; omega
theorem sum_lt {α : Type} {f h : α → Nat} : ∀ {l : List α}, (∀ k ∈ l, f k ≤ h k) → (∃ k ∈ l, f k < h k) → (l.map f).sum < (l.map h).sum
  | [], _, ⟨k, hk, _⟩ => by cases hk
  | a :: l, q, ⟨k, hk, hlt⟩ => by
    simp only [List.map_cons, List.sum_cons]
    have h1 := q a (by simp)
    rcases List.mem_cons.1 hk with rfl | hk
    · have := sum_le (l := l) fun k hk => q k (by simp [hk])
      omega
    · have := sum_lt (l := l) (fun k hk => q k (by simp [hk])) ⟨k, hk, hlt⟩
      omega

/-- How high the tree is, all in all. -/
def high (g : G) (r : Nat → Nat) (T : Tre) : Nat := ((List.range g.length).map fun k => match T k with | none => g.length + 1 | some a => r a).sum

theorem high_put {g : G} {r : Nat → Nat} {T : Tre} {w x : Nat} (hc : Cx g r) (h : Inv g r T (r w)) (hu : Up g T w x) (hxr : Rd g x) (hxn : r x ≤ g.length) (hne : T w ≠ some x) : high g r (T.put w x) < high g r T := by
  have key : (match T w with | none => g.length + 1 | some a => r a) > r x := by
    cases e : T w with
    | none => simp only; omega
    | some a =>
      have := h.meet w a x e ((hu.all x).1 .refl)
      have hax : x ≠ a := fun e' => hne (by rw [e, e'])
      exact this.lt h hax
  refine sum_lt (fun k hk => ?_) ⟨w, by simpa using hu.rd.lt, ?_⟩
  · by_cases e : k = w
    · subst e; rw [put_eq]; simp only; omega
    · rw [put_ne e]; exact Nat.le_refl _
  · rw [put_eq]; exact key

/-- The tree as a list. -/
def tabL (g : G) (T : Tre) : List Int := (List.range g.length).map fun k => enc (T k)
theorem tabL_length (g : G) (T : Tre) : (tabL g T).length = g.length := by simp [tabL]
theorem tabL_get {g : G} {T : Tre} {k : Nat} (h : k < g.length) : (tabL g T).getD k default = enc (T k) := by simp [tabL, List.getD, h]
theorem tabL_put {g : G} {T : Tre} {w x : Nat} (h : w < g.length) : (tabL g T).set w (x : Int) = tabL g (T.put w x) := by
  refine List.ext_getElem (by simp [tabL]) fun i h1 h2 => ?_
  rw [List.getElem_set]
  simp only [tabL, List.getElem_map, List.getElem_range]
  by_cases e : w = i
  · subst e; rw [if_pos rfl, put_eq]; rfl
  · rw [if_neg e, put_ne (fun h => e h.symm)]
theorem tabL_none (g : G) : tabL g (fun _ => none) = List.replicate g.length (-1) := by
  refine List.ext_getElem (by simp [tabL]) fun i h1 h2 => ?_
  simp [tabL, enc]

/-- A list, the first k of which are -1. -/
def minus (n k : Nat) : List Int := (List.range n).map fun j => if j < k then -1 else 0
theorem minus_length (n k : Nat) : (minus n k).length = n := by simp [minus]
theorem minus_zero (n : Nat) : minus n 0 = List.replicate n 0 := by
  refine List.ext_getElem (by simp [minus]) fun i h1 h2 => ?_
  simp [minus]
theorem minus_all (n : Nat) : minus n n = List.replicate n (-1) := by
  refine List.ext_getElem (by simp [minus]) fun i h1 h2 => ?_
  have : i < n := by simpa using h2
  simp [minus, this]
theorem minus_set {n k : Nat} : (minus n k).set k (-1) = minus n (k + 1) := by
  refine List.ext_getElem (by simp [minus]) fun i h1 h2 => ?_
  rw [List.getElem_set]
  simp only [minus, List.getElem_map, List.getElem_range]
  by_cases e : k = i
  · subst e; simp
  · rw [if_neg e]
    by_cases e2 : i < k
    · rw [if_pos e2, if_pos (by omega)]
    · rw [if_neg e2, if_neg (by omega)]

/-- Ranks, those of the first k of the order. -/
def rkL (g : G) (o : List Nat) (k : Nat) : List Int := (List.range g.length).map fun b => if o.idxOf b < k ∧ o.idxOf b < o.length then ((o.idxOf b : Nat) : Int) else -1
theorem rkL_length (g : G) (o : List Nat) (k : Nat) : (rkL g o k).length = g.length := by simp [rkL]
theorem rkL_zero (g : G) (o : List Nat) : rkL g o 0 = List.replicate g.length (-1) := by
  refine List.ext_getElem (by simp [rkL]) fun i h1 h2 => ?_
  simp [rkL]
theorem rkL_set {g : G} {o : List Nat} {k : Nat} (hnd : o.Nodup) (hk : k < o.length) : (rkL g o k).set o[k] (k : Int) = rkL g o (k + 1) := by
  refine List.ext_getElem (by simp [rkL]) fun i h1 h2 => ?_
  rw [List.getElem_set]
  simp only [rkL, List.getElem_map, List.getElem_range]
  by_cases e : o[k] = i
  · rw [if_pos e, ← e, hnd.idxOf_getElem k hk, if_pos ⟨by omega, hk⟩]
  · rw [if_neg e]
    have hne : o.idxOf i ≠ k := fun e' => by
      apply e
      have hi : o.idxOf i < o.length := by omega
      have := List.getElem_idxOf hi
      simp only [e'] at this; exact this
    by_cases e2 : o.idxOf i < k ∧ o.idxOf i < o.length
    · rw [if_pos e2, if_pos ⟨by omega, e2.2⟩]
    · rw [if_neg e2, if_neg (by omega)]

theorem rkL_tb {g : G} {d : D} (hd : Dfs g (into g 0 ⟨[], List.replicate g.length false, []⟩) d) (T : Tre) : Tb g (rankN d) T (tabL g T) (rkL g (ordN d) (ordN d).length) := by
  refine ⟨tabL_length g T, rkL_length _ _ _, fun k hk => tabL_get hk, fun k hk => ?_, fun k hk hn => ?_⟩
  · have hl := hk.lt
    have := ord_lt hd hk
    simp only [rankN] at this
    rw [List.length_reverse] at this
    simp [rkL, List.getD, hl, this]
  · have : ¬ (ordN d).idxOf k < (ordN d).length := fun q => hn ((ord_mem hd).1 (by
      have := List.getElem_idxOf q; rw [← this]; exact List.getElem_mem q))
    rw [List.length_reverse] at this
    simp [rkL, List.getD, hk, this]

/-- Amid the ones that lead to w: what the first t of them have above them, all. -/
def Mid (g : G) (T : Tre) (l : List Int) (t : Nat) : Option Nat → Prop
  | none => ∀ p : Nat, (p : Int) ∈ l.take t → ¬ (p = 0 ∨ T p ≠ none)
  | some m => Rd g m ∧ (m = 0 ∨ T m ≠ none) ∧ (∃ p : Nat, (p : Int) ∈ l.take t ∧ (p = 0 ∨ T p ≠ none)) ∧ ∀ y, Anc T y m ↔ ∀ p : Nat, (p : Int) ∈ l.take t → (p = 0 ∨ T p ≠ none) → Anc T y p

theorem take_mem {l : List Int} {t : Nat} (h : t < l.length) {p : Nat} {z : Int} (hz : l.getD t default = z) : (p : Int) ∈ l.take (t + 1) ↔ (p : Int) ∈ l.take t ∨ (p : Int) = z := by
  rw [List.take_add_one, List.getElem?_eq_getElem h, List.mem_append]
  simp only [List.getD, List.getElem?_eq_getElem h, Option.getD_some] at hz
  simp [hz]

theorem Mid.skip {g : G} {T : Tre} {l : List Int} {t : Nat} {o : Option Nat} (h : Mid g T l t o) (ht : t < l.length) {p : Nat} (hz : l.getD t default = (p : Int)) (hp : ¬ (p = 0 ∨ T p ≠ none)) : Mid g T l (t + 1) o := by
  cases o with
  | none =>
    intro k hk
    rcases (take_mem ht hz).1 hk with hk | hk
    · exact h k hk
    · have : k = p := by omega
      subst this; exact hp
  | some m =>
    obtain ⟨h1, h2, ⟨c, h3, h4⟩, h5⟩ := h
    refine ⟨h1, h2, ⟨c, (take_mem ht hz).2 (.inl h3), h4⟩, fun y => (h5 y).trans ⟨fun q k hk hq => ?_, fun q k hk hq => q k ((take_mem ht hz).2 (.inl hk)) hq⟩⟩
    rcases (take_mem ht hz).1 hk with hk | hk
    · exact q k hk hq
    · have : k = p := by omega
      subst this; exact (hp hq).elim

theorem Mid.first {g : G} {T : Tre} {l : List Int} {t : Nat} (h : Mid g T l t none) (ht : t < l.length) {p : Nat} (hz : l.getD t default = (p : Int)) (hp : p = 0 ∨ T p ≠ none) (hr : Rd g p) : Mid g T l (t + 1) (some p) := by
  refine ⟨hr, hp, ⟨p, (take_mem ht hz).2 (.inr rfl), hp⟩, fun y => ⟨fun q k hk hq => ?_, fun q => q p ((take_mem ht hz).2 (.inr rfl)) hp⟩⟩
  rcases (take_mem ht hz).1 hk with hk | hk
  · exact (h k hk hq).elim
  · have : k = p := by omega
    subst this; exact q

theorem Mid.more {g : G} {T : Tre} {l : List Int} {t m x : Nat} (h : Mid g T l t (some m)) (ht : t < l.length) {p : Nat} (hz : l.getD t default = (p : Int)) (hp : p = 0 ∨ T p ≠ none) (hr : Rd g x) (hx : x = 0 ∨ T x ≠ none) (hm : ∀ y, Anc T y x ↔ Anc T y m ∧ Anc T y p) : Mid g T l (t + 1) (some x) := by
  obtain ⟨h1, h2, ⟨c, h3, h4⟩, h5⟩ := h
  refine ⟨hr, hx, ⟨c, (take_mem ht hz).2 (.inl h3), h4⟩, fun y => ?_⟩
  rw [hm, h5]
  constructor
  · rintro ⟨q1, q2⟩ k hk hq
    rcases (take_mem ht hz).1 hk with hk | hk
    · exact q1 k hk hq
    · have : k = p := by omega
      subst this; exact q2
  · exact fun q => ⟨fun k hk hq => q k ((take_mem ht hz).2 (.inl hk)) hq, q p ((take_mem ht hz).2 (.inr rfl)) hp⟩

def Fix (g : G) (T : Tre) (P : Nat → Prop) : Prop := ∀ w, Rd g w → w ≠ 0 → P w → ∃ x, T w = some x ∧ Up g T w x
end Go.Proofs.Ytdiknjjhegckcaa
