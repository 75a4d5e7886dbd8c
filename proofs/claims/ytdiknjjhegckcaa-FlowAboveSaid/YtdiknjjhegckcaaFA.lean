/-
  Graphs, plainly: the nearest one that must be gone through, by rounds over a tree. No condition.
-/
import Derived.Test.YtdiknjjhegckcaaGP
namespace Go.V.FL
set_option linter.unusedSimpArgs false
set_option linter.unusedVariables false

abbrev Rd (g : G) (b : Nat) : Prop := Rch g (-1) b
def Ed (g : G) (a b : Nat) : Prop := (b : Int) ∈ row g a ∧ b < g.length

/-- On from a to b, nothing going on from y. -/
inductive Pth (g : G) (y a : Nat) : Nat → Prop where
  | refl : Pth g y a a
  | step {b k : Nat} : Pth g y a b → b ≠ y → Ed g b k → Pth g y a k

theorem Pth.trans {g : G} {y a b c : Nat} (h : Pth g y a b) (k : Pth g y b c) : Pth g y a c := by
  induction k with
  | refl => exact h
  | step _ h2 h3 ih => exact .step ih h2 h3
theorem Pth.rch {g : G} {y a b : Nat} (h : Pth g y a b) (ha : Rch g y a) : Rch g y b := by
  induction h with
  | refl => exact ha
  | step _ h2 h3 ih => exact .step ih (by omega) h3.1 h3.2

/-- Reached ones, ranked. -/
structure Cx (g : G) (r : Nat → Nat) : Prop where
  zero : Rd g 0
  r0 : r 0 = 0
  inj : ∀ a b, Rd g a → Rd g b → r a = r b → a = b
  fwd : ∀ b, Rd g b → b ≠ 0 → ∃ f, Rd g f ∧ Ed g f b ∧ r f < r b

abbrev Tre := Nat → Option Nat

/-- b, or above b. -/
inductive Anc (T : Tre) (y : Nat) : Nat → Prop where
  | refl : Anc T y y
  | up {b a : Nat} : T b = some a → Anc T y a → Anc T y b

theorem Anc.trans {T : Tre} {x y z : Nat} (h : Anc T x y) (k : Anc T y z) : Anc T x z := by
  induction k with
  | refl => exact h
  | up e _ ih => exact .up e ih

theorem Anc.row {T : Tre} {x y z : Nat} (h : Anc T x z) (k : Anc T y z) : Anc T x y ∨ Anc T y x := by
  induction h with
  | refl => exact .inr k
  | up e h ih =>
    cases k with
    | refl => exact .inl (.up e h)
    | up e' k => rw [e] at e'; cases e'; exact ih k

/-- What holds of the tree, those of a rank below i being done. -/
structure Inv (g : G) (r : Nat → Nat) (T : Tre) (i : Nat) : Prop where
  t0 : T 0 = none
  tr : ∀ b a, T b = some a → Rd g b ∧ Rd g a ∧ r a < r b ∧ (a = 0 ∨ T a ≠ none)
  done : ∀ b, Rd g b → b ≠ 0 → r b < i → T b ≠ none
  low : ∀ z f, T z ≠ none → Rd g f → r f < r z → f = 0 ∨ T f ≠ none
  dom : ∀ c y, (c = 0 ∨ T c ≠ none) → Dom g y c → Anc T y c
  pth : ∀ z a y, T z = some a → Anc T y a → y ≠ a → Pth g y a z
  meet : ∀ z a y, T z = some a → (∀ p, Rd g p → Ed g p z → (p = 0 ∨ T p ≠ none) → Anc T y p) → Anc T y a
  old : ∀ z a f, T z = some a → r z < i → Rd g f → Ed g f z → r f < r z → Anc T a f
  new : ∀ z a f, T z = some a → i ≤ r z → i ≤ r a → Rd g f → Ed g f z → r f < r z → Anc T a f

section
variable {g : G} {r : Nat → Nat} {T : Tre} {i : Nat}

theorem Anc.rank (h : Inv g r T i) {y b : Nat} (k : Anc T y b) : r y ≤ r b := by
  induction k with
  | refl => exact Nat.le_refl _
  | up e _ ih => have := (h.tr _ _ e).2.2.1; omega
theorem Anc.lt (h : Inv g r T i) {y b : Nat} (k : Anc T y b) (hne : y ≠ b) : r y < r b := by
  cases k with
  | refl => exact (hne rfl).elim
  | up e k => have := (h.tr _ _ e).2.2.1; have := k.rank h; omega
theorem Anc.rd (h : Inv g r T i) {y b : Nat} (k : Anc T y b) (hb : Rd g b) : Rd g y := by
  induction k with
  | refl => exact hb
  | up e _ ih => exact ih (h.tr _ _ e).2.1

/-- Down the tree from w to c one needn't go through one above w. -/
theorem Inv.path (h : Inv g r T i) {y w c : Nat} (hw : Anc T w c) (hy : Anc T y w) (hne : y ≠ w) : Pth g y w c := by
  induction hw with
  | refl => exact .refl
  | up e hw ih =>
    refine ih.trans (h.pth _ _ _ e (hy.trans hw) fun e' => ?_)
    subst e'
    have := hw.rank h
    have := hy.lt h hne
    omega

theorem dom_pred {y p w : Nat} (h : Dom g y w) (hne : y ≠ w) (hp : Rd g p) (he : Ed g p w) : Dom g y p := by
  refine ⟨hp, ?_⟩
  by_cases e : y = p
  · exact .inl e
  · exact .inr fun k => (h.2.resolve_left hne) (.step k (by omega) he.1 he.2)

/-- One's own is put anew. -/
def Tre.put (T : Tre) (w x : Nat) : Tre := fun k => if k = w then some x else T k

/-- What the new one above is. -/
structure Up (g : G) (T : Tre) (w x : Nat) : Prop where
  rd : Rd g w
  ne : w ≠ 0
  xok : x = 0 ∨ T x ≠ none
  some : ∃ p, Rd g p ∧ Ed g p w ∧ (p = 0 ∨ T p ≠ none)
  all : ∀ y, Anc T y x ↔ ∀ p, Rd g p → Ed g p w → (p = 0 ∨ T p ≠ none) → Anc T y p

theorem put_eq {w x : Nat} : (T.put w x) w = some x := by simp [Tre.put]
theorem put_ne {w x k : Nat} (h : k ≠ w) : (T.put w x) k = T k := by simp [Tre.put, h]

/-- Outside w's part nothing turns. -/
theorem anc_out {w x y c : Nat} (h : ¬ Anc T w c) : Anc (T.put w x) y c ↔ Anc T y c := by
  constructor
  · intro k
    induction k with
    | refl => exact .refl
    | @up b a e _ ih =>
      have hb : b ≠ w := fun e => h (by rw [e]; exact .refl)
      rw [put_ne hb] at e
      exact .up e (ih fun q => h (.up e q))
  · intro k
    induction k with
    | refl => exact .refl
    | @up b a e _ ih =>
      have hb : b ≠ w := fun e => h (by rw [e]; exact .refl)
      exact .up (by rw [put_ne hb]; exact e) (ih fun q => h (.up e q))

section
variable {w x : Nat} (h : Inv g r T i) (hu : Up g T w x) (hx : r x < r w)
include h hx
theorem anc_x {y : Nat} : Anc (T.put w x) y x ↔ Anc T y x := anc_out fun k => by have := k.rank h; omega
theorem anc_w {y : Nat} : Anc (T.put w x) y w ↔ y = w ∨ Anc T y x := by
  rw [← anc_x h hx]
  constructor
  · intro k
    cases k with
    | refl => exact .inl rfl
    | up e k => rw [put_eq] at e; cases e; exact .inr k
  · rintro (rfl | k)
    · exact .refl
    · exact .up put_eq k
/-- In w's part. -/
theorem anc_in {y c : Nat} (hc : Anc T w c) : Anc (T.put w x) y c ↔ (Anc T y c ∧ Anc T w y) ∨ Anc T y x := by
  induction hc with
  | refl =>
    rw [anc_w h hx]
    constructor
    · rintro (rfl | k)
      · exact .inl ⟨.refl, .refl⟩
      · exact .inr k
    · rintro (⟨k1, k2⟩ | k)
      · by_cases e : y = w
        · exact .inl e
        · have := k1.lt h e; have := k2.rank h; omega
      · exact .inr k
  | @up b a e hc ih =>
    have hb : b ≠ w := fun e' => by
      have h1 := (h.tr _ _ e).2.2.1
      have h2 := hc.rank h
      rw [e'] at h1; omega
    constructor
    · intro k
      cases k with
      | refl => exact .inl ⟨.refl, .up e hc⟩
      | up e' k =>
        rw [put_ne hb, e] at e'; cases e'
        rcases ih.1 k with ⟨k1, k2⟩ | k
        · exact .inl ⟨.up e k1, k2⟩
        · exact .inr k
    · rintro (⟨k1, k2⟩ | k)
      · cases k1 with
        | refl => exact .refl
        | up e' k1 => rw [e] at e'; cases e'; exact .up (by rw [put_ne hb]; exact e) (ih.2 (.inl ⟨k1, k2⟩))
      · exact .up (by rw [put_ne hb]; exact e) (ih.2 (.inr k))
include hu
/-- What is above shrinks. -/
theorem anc_less {y c : Nat} (hc : c ≠ w ∨ T w ≠ none) (k : Anc (T.put w x) y c) : Anc T y c := by
  by_cases hw : Anc T w c
  · rcases (anc_in h hx hw).1 k with ⟨k, _⟩ | k
    · exact k
    · have hT : T w ≠ none := by
        rcases hc with hc | hc
        · cases hw with
          | refl => exact (hc rfl).elim
          | up e hw =>
            have : ∀ {c}, Anc T w c → (c = 0 ∨ T c ≠ none) → T w ≠ none := fun {c} q => by
              induction q with
              | refl => intro q; exact q.resolve_left hu.ne
              | up e _ ih => intro _; exact ih ((h.tr _ _ e).2.2.2)
            exact this hw (h.tr _ _ e).2.2.2
        · exact hc
      obtain ⟨a, ha⟩ := Option.ne_none_iff_exists'.1 hT
      exact (Anc.up ha (h.meet w a y ha ((hu.all y).1 k))).trans hw
  · exact (anc_out hw).1 k

end

/-- A ROUND'S STEP keeps all that. -/
theorem Inv.step (hc : Cx g r) {w x : Nat} (h : Inv g r T (r w)) (hu : Up g T w x) (hx : r x < r w) (hxr : Rd g x) : Inv g r (T.put w x) (r w + 1) := by
  have hpr : ∀ {c}, (c = 0 ∨ T c ≠ none) → (c = 0 ∨ (T.put w x) c ≠ none) := fun {c} q => by
    rcases q with q | q
    · exact .inl q
    · right; by_cases e : c = w
      · subst e; rw [put_eq]; simp
      · rw [put_ne e]; exact q
  have hpr' : ∀ {c}, c ≠ w → (c = 0 ∨ (T.put w x) c ≠ none) → (c = 0 ∨ T c ≠ none) := fun {c} hne q => by rw [put_ne hne] at q; exact q
  have hless : ∀ {y p}, (p = 0 ∨ T p ≠ none) → Anc (T.put w x) y p → Anc T y p := fun {y p} q k => by
    refine anc_less h hu hx ?_ k
    by_cases e : p = w
    · subst e; exact .inr (q.resolve_left hu.ne)
    · exact .inl e
  refine ⟨by rw [put_ne hu.ne.symm]; exact h.t0, fun b a e => ?_, fun b hb hb0 hi => ?_, fun z f hz hf hlt => ?_, fun c y q hd => ?_, fun z a y e k hne => ?_, fun z a y e q => ?_, fun z a f e hi hf he hlt => ?_, fun z a f e hi hia hf he hlt => ?_⟩
  · by_cases e' : b = w
    · subst e'; rw [put_eq] at e; cases e
      exact ⟨hu.rd, hxr, hx, hpr hu.xok⟩
    · rw [put_ne e'] at e
      obtain ⟨h1, h2, h3, h4⟩ := h.tr b a e
      exact ⟨h1, h2, h3, hpr h4⟩
  · by_cases e' : b = w
    · subst e'; rw [put_eq]; simp
    · rw [put_ne e']
      refine h.done b hb hb0 ?_
      have : r b ≠ r w := fun e => e' (hc.inj _ _ hb hu.rd e)
      omega
  · by_cases e' : z = w
    · subst e'
      by_cases hf0 : f = 0
      · exact .inl hf0
      · exact hpr (.inr (h.done f hf hf0 hlt))
    · rw [put_ne e'] at hz
      exact hpr (h.low z f hz hf hlt)
  · by_cases e' : c = w
    · subst e'
      rw [anc_w h hx]
      by_cases ey : y = c
      · exact .inl ey
      · refine .inr ((hu.all y).2 fun p hp he hq => ?_)
        exact h.dom p y hq (dom_pred hd ey hp he)
    · have q' := hpr' e' q
      have ka := h.dom c y q' hd
      by_cases hw : Anc T w c
      · rw [anc_in h hx hw]
        rcases ka.row hw with k | k
        · by_cases ey : y = w
          · subst ey; exact .inl ⟨ka, .refl⟩
          · right
            by_cases hdw : Dom g y w
            · exact (hu.all y).2 fun p hp he hq => h.dom p y hq (dom_pred hdw ey hp he)
            · exfalso
              have hr : Rch g y w := Classical.byContradiction fun q => hdw ⟨hu.rd, .inr q⟩
              have := (h.path hw k ey).rch hr
              rcases hd.2 with e | e
              · subst e; have := hw.rank h; have := k.lt h ey; omega
              · exact e this
        · exact .inl ⟨ka, k⟩
      · exact (anc_out hw).2 ka
  · by_cases e' : z = w
    · subst e'; rw [put_eq] at e; cases e
      rw [anc_x h hx] at k
      obtain ⟨p, hp, he, hq⟩ := hu.some
      have hxp := (hu.all x).1 (.refl) p hp he hq
      refine .step (h.path hxp k hne) (fun e => ?_) he
      subst e
      have := hxp.rank h; have := k.lt h hne; omega
    · rw [put_ne e'] at e
      exact h.pth z a y e (hless (h.tr _ _ e).2.2.2 k) hne
  · by_cases e' : z = w
    · subst e'; rw [put_eq] at e; cases e
      rw [anc_x h hx]
      exact (hu.all y).2 fun p hp he hq => hless hq (q p hp he (hpr hq))
    · rw [put_ne e'] at e
      have hya : Anc T y a := h.meet z a y e fun p hp he hq => hless hq (q p hp he (hpr hq))
      by_cases hw : Anc T w a
      · rw [anc_in h hx hw]
        have hra := hw.rank h
        have hrz := (h.tr _ _ e).2.2.1
        obtain ⟨f, hf, he, hlt⟩ := hc.fwd z (h.tr _ _ e).1 (fun e0 => by subst e0; rw [h.t0] at e; cases e)
        have haf := h.new z a f e (by omega) hra hf he hlt
        have hqf := h.low z f (by rw [e]; simp) hf hlt
        rcases (anc_in h hx (hw.trans haf)).1 (q f hf he (hpr hqf)) with ⟨_, k⟩ | k
        · exact .inl ⟨hya, k⟩
        · exact .inr k
      · exact (anc_out hw).2 hya
  · by_cases e' : z = w
    · subst e'; rw [put_eq] at e; cases e
      rw [anc_out (fun k => by have := k.rank h; omega)]
      refine (hu.all x).1 (.refl) f hf he ?_
      by_cases hf0 : f = 0
      · exact .inl hf0
      · exact .inr (h.done f hf hf0 hlt)
    · rw [put_ne e'] at e
      have hrz : r z ≠ r w := fun e => e' (hc.inj _ _ (h.tr _ _ ‹_›).1 hu.rd e)
      rw [anc_out (fun k => by have := k.rank h; omega)]
      exact h.old z a f e (by omega) hf he hlt
  · by_cases e' : z = w
    · subst e'; omega
    · rw [put_ne e'] at e
      have haf := h.new z a f e (by omega) (by omega) hf he hlt
      by_cases hw : Anc T w f
      · rw [anc_in h hx hw]
        rcases hw.row haf with k | k
        · exact .inl ⟨haf, k⟩
        · have := k.rank h; omega
      · exact (anc_out hw).2 haf

theorem Inv.start (hc : Cx g r) : Inv g r (fun _ => none) 1 := by
  have hpos : ∀ b, Rd g b → b ≠ 0 → 0 < r b := fun b hb h0 => by
    have : r b ≠ r 0 := fun e => h0 (hc.inj _ _ hb hc.zero e)
    rw [hc.r0] at this; omega
  refine ⟨rfl, fun _ _ e => (by cases e), fun b hb h0 hi => by have := hpos b hb h0; omega, fun z f hz => (hz rfl).elim, fun c y q hd => ?_, fun _ _ _ e => (by cases e), fun _ _ _ e => (by cases e), fun _ _ _ e => (by cases e), fun _ _ _ e => (by cases e)⟩
  have hc0 : c = 0 := q.resolve_right (fun e => e rfl)
  subst hc0
  rcases hd.2 with e | e
  · subst e; exact .refl
  · exact (e (.zero (by cases hc.zero <;> assumption))).elim

/-- The next round. -/
theorem Inv.again (hc : Cx g r) {N : Nat} (h : Inv g r T N) (hN : ∀ b, Rd g b → r b < N) : Inv g r T 1 := by
  have hpos : ∀ b, Rd g b → b ≠ 0 → 0 < r b := fun b hb h0 => by
    have : r b ≠ r 0 := fun e => h0 (hc.inj _ _ hb hc.zero e)
    rw [hc.r0] at this; omega
  refine ⟨h.t0, h.tr, fun b hb h0 hi => by have := hpos b hb h0; omega, h.low, h.dom, h.pth, h.meet, fun z a f e hi => ?_, fun z a f e _ _ hf he hlt => h.old z a f e (hN z (h.tr _ _ e).1) hf he hlt⟩
  have hz : z ≠ 0 := fun e0 => by subst e0; rw [h.t0] at e; cases e
  have := hpos z (h.tr _ _ e).1 hz; omega

/-- A step that turns nothing. -/
theorem put_same {w x : Nat} (e : T w = some x) : T.put w x = T := by
  funext k; unfold Tre.put; split
  · rename_i h; rw [h, e]
  · rfl

/-- Where nothing turns any more the tree is what must be gone through. -/
theorem Inv.fix (hc : Cx g r) (h : Inv g r T i) (hf : ∀ w, Rd g w → w ≠ 0 → ∃ x, T w = some x ∧ Up g T w x) {y c : Nat} (hcr : Rd g c) : Anc T y c ↔ Dom g y c := by
  have hpr : ∀ c, Rd g c → c = 0 ∨ T c ≠ none := fun c hr => by
    by_cases h0 : c = 0
    · exact .inl h0
    · obtain ⟨x, e, _⟩ := hf c hr h0; exact .inr (by rw [e]; simp)
  constructor
  · intro k
    refine ⟨hcr, ?_⟩
    by_cases e : y = c
    · exact .inl e
    refine .inr fun q => ?_
    -- along the way to c without y
    have key : ∀ {c}, Rch g y c → Rd g c → Anc T y c → y = c := by
      intro c q
      induction q with
      | zero h0 =>
        intro _ k
        cases k with
        | refl => rfl
        | up e _ => rw [h.t0] at e; cases e
      | @step p c q hne hm hl ih =>
        intro hcr k
        by_cases e : y = c
        · exact e
        have hp : Rd g p := rch_other q fun j e => by omega
        by_cases h0 : c = 0
        · subst h0
          cases k with
          | refl => rfl
          | up e _ => rw [h.t0] at e; cases e
        obtain ⟨x, ex, hu⟩ := hf c hcr h0
        have kx : Anc T y x := by
          cases k with
          | refl => exact (e rfl).elim
          | up e' k => rw [ex] at e'; cases e'; exact k
        have := ih hp ((hu.all y).1 kx p hp ⟨hm, hl⟩ (hpr p hp))
        omega
    exact e (key q hcr k)
  · exact h.dom c y (hpr c hcr)
end

/-- o is the nearest one that must be gone through to b. -/
def Nst (g : G) (b : Nat) (o : Int) : Prop := (o = -1 ∧ ∀ a, a ≠ b → ¬ Dom g a b) ∨ ∃ a : Nat, o = a ∧ a ≠ b ∧ Dom g a b ∧ ∀ x, x ≠ b → Dom g x b → Dom g x a

theorem Nst.one {g : G} {b : Nat} {o o' : Int} (h : Nst g b o) (k : Nst g b o') : o = o' := by
  rcases h with ⟨e, h⟩ | ⟨a, e, h1, h2, h3⟩ <;> rcases k with ⟨e', k⟩ | ⟨a', e', k1, k2, k3⟩
  · rw [e, e']
  · exact (h a' k1 k2).elim
  · exact (k a h1 h2).elim
  · have := (h3 a' k1 k2).one (k3 a h1 h2)
    rw [e, e', this]

def enc : Option Nat → Int
  | none => -1
  | some a => a

theorem Inv.nst {g : G} {r : Nat → Nat} {T : Tre} {i : Nat} (hc : Cx g r) (h : Inv g r T i) (hf : ∀ w, Rd g w → w ≠ 0 → ∃ x, T w = some x ∧ Up g T w x) (b : Nat) : Nst g b (enc (T b)) := by
  cases e : T b with
  | none =>
    refine .inl ⟨rfl, fun a hne hd => ?_⟩
    have := (h.fix hc hf hd.1).2 hd
    cases this with
    | refl => exact hne rfl
    | up e' _ => rw [e] at e'; cases e'
  | some a =>
    obtain ⟨h1, h2, h3, _⟩ := h.tr b a e
    refine .inr ⟨a, rfl, fun e' => by subst e'; omega, (h.fix hc hf h1).1 (.up e (.refl)), fun x hne hd => ?_⟩
    have := (h.fix hc hf hd.1).2 hd
    cases this with
    | refl => exact (hne rfl).elim
    | up e' k => rw [e] at e'; cases e'; exact (h.fix hc hf h2).1 k
end Go.V.FL
