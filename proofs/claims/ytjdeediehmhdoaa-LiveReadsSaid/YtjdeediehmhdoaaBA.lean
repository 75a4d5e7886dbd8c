/-
  What matters, plainly: rows as words; the search for the least table: what stays true of it. No condition.
-/
import Derived.Test.YtjdeediehmhdoaaB3
namespace Go.Proofs.Ytjdeediehmhdoaa
set_option linter.unusedSimpArgs false
set_option linter.unusedVariables false
open Go.V

/- A row as a word. -/
def wd : List Bool → Nat
  | [] => 0
  | b :: l => b.toNat + 2 * wd l
theorem wd_bit : ∀ (l : List Bool) (i : Nat), (wd l).testBit i = gB l i
  | [], i => by simp [wd, gB]
  | b :: l, 0 => by
    show (b.toNat + 2 * wd l).testBit 0 = b
    rw [Nat.testBit_zero]
    cases b <;> simp <;> omega
  | b :: l, i + 1 => by
    show (b.toNat + 2 * wd l).testBit (i + 1) = gB (b :: l) (i + 1)
    rw [Nat.testBit_succ, show (b.toNat + 2 * wd l) / 2 = wd l by cases b <;> simp <;> omega, wd_bit l i]
    rfl
theorem wd_lt : ∀ (l : List Bool), wd l < 2 ^ l.length
  | [] => by simp [wd]
  | b :: l => by
    have := wd_lt l
    show b.toNat + 2 * wd l < 2 ^ (l.length + 1)
    rw [Nat.pow_succ]
    cases b <;> simp <;> omega
theorem wd_lt64 {l : List Bool} (h : l.length ≤ 64) : wd l < 2 ^ 64 := Nat.lt_of_lt_of_le (wd_lt l) (Nat.pow_le_pow_right (by decide) h)
theorem wd_eq {l : List Bool} {n : Nat} (h : ∀ i, n.testBit i = gB l i) : n = wd l := Nat.eq_of_testBit_eq fun i => by rw [h, wd_bit]
theorem gB_out {l : List Bool} {i : Nat} (h : l.length ≤ i) : gB l i = false := by
  unfold gB; rw [List.getD, List.getElem?_eq_none h]; rfl
theorem wd_zero (n : Nat) : wd (List.replicate n false) = 0 := (wd_eq fun i => by
  rw [Nat.zero_testBit]
  unfold gB; rw [List.getD, List.getElem?_replicate]; split <;> rfl).symm
theorem wd_inj {a b : List Bool} (hl : a.length = b.length) (h : wd a = wd b) : a = b := gB_ext hl fun v _ => by rw [← wd_bit, ← wd_bit, h]

def orL (a b : List Bool) : List Bool := (List.range a.length).map fun v => gB a v || gB b v
def wayL (rd out st : List Bool) : List Bool := (List.range out.length).map fun v => gB rd v || (gB out v && !gB st v)
theorem gB_or (a b : List Bool) {v : Nat} (hv : v < a.length) : gB (orL a b) v = (gB a v || gB b v) := by
  unfold orL; rw [gB, List.getD]; simp [hv]
theorem gB_way (rd out st : List Bool) {v : Nat} (hv : v < out.length) : gB (wayL rd out st) v = (gB rd v || (gB out v && !gB st v)) := by
  unfold wayL; rw [gB, List.getD]; simp [hv]
theorem orL_len (a b : List Bool) : (orL a b).length = a.length := by simp [orL]
theorem wayL_len (a b c : List Bool) : (wayL a b c).length = b.length := by simp [wayL]
theorem wd_or {a b : List Bool} (hl : a.length = b.length) : wd a ||| wd b = wd (orL a b) := wd_eq fun i => by
  rw [Nat.testBit_or, wd_bit, wd_bit]
  rcases Nat.lt_or_ge i a.length with h | h
  · rw [gB_or _ _ h]
  · rw [gB_out h, gB_out (by omega), gB_out (by rw [orL_len]; exact h)]; rfl
theorem wd_set {l : List Bool} {i : Nat} (hi : i < l.length) : wd l ||| 2 ^ i = wd (l.set i true) := wd_eq fun j => by
  rw [Nat.testBit_or, wd_bit, Nat.testBit_two_pow]
  rcases Nat.lt_or_ge j l.length with h | h
  · rw [gB_set _ _ _ _ h]
    by_cases e : i = j
    · rw [if_pos e]; simp [e]
    · rw [if_neg e]; simp [e]
  · rw [gB_out h, gB_out (by simpa using h)]
    simp; omega

/- What a block reads ahead of setting it, and what it sets. -/
def readL (b : Bk) (r : Nat) : List Bool := aheadL b (List.replicate r false)
def doneL (ins : List Tac) (l : List Bool) : List Bool := ins.foldr (fun t l => if 0 ≤ setsL t then l.set (setsL t).toNat true else l) l
def setL (b : Bk) (r : Nat) : List Bool := doneL b.ins (List.replicate r false)
theorem doneL_len : ∀ (ins : List Tac) (l : List Bool), (doneL ins l).length = l.length
  | [], _ => rfl
  | t :: ins, l => by
    show (if 0 ≤ setsL t then (doneL ins l).set (setsL t).toNat true else doneL ins l).length = _
    split <;> simp [doneL_len ins l]
theorem gB_done : ∀ (ins : List Tac) (l : List Bool) (v : Nat), v < l.length → gB (doneL ins l) v = (gB l v || ins.any fun t => decide (setsL t = (v : Int)))
  | [], l, v, _ => by simp [doneL]
  | t :: ins, l, v, hv => by
    have ih := gB_done ins l v hv
    show gB (if 0 ≤ setsL t then (doneL ins l).set (setsL t).toNat true else doneL ins l) v = _
    rw [List.any_cons]
    by_cases h : 0 ≤ setsL t
    · rw [if_pos h, gB_set _ _ _ _ (by rw [doneL_len]; exact hv)]
      by_cases h2 : setsL t = (v : Int)
      · rw [if_pos (by omega), decide_eq_true h2]; simp
      · rw [if_neg (by omega), decide_eq_false h2, ih, Bool.false_or]
    · rw [if_neg h, decide_eq_false (by omega), ih, Bool.false_or]
theorem gB_rep (r v : Nat) : gB (List.replicate r false) v = false := by
  unfold gB; rw [List.getD, List.getElem?_replicate]; split <;> rfl

theorem bk1_set {t : Tac} {v : Nat} (h : setsL t = (v : Int)) (x y : Bool) : bk1 t v x = bk1 t v y := by
  unfold bk1; split
  · rfl
  · simp [h]
theorem thru1_set : ∀ {ins : List Tac} {v : Nat}, (ins.any fun t => decide (setsL t = (v : Int))) = true → ∀ x y, thru1 ins v x = thru1 ins v y
  | [], v, h, _, _ => by simp at h
  | t :: ins, v, h, x, y => by
    show bk1 t v (thru1 ins v x) = bk1 t v (thru1 ins v y)
    rw [List.any_cons, Bool.or_eq_true, decide_eq_true_eq] at h
    rcases h with h | h
    · exact bk1_set h _ _
    · rw [thru1_set h x y]
theorem thru1_free : ∀ {ins : List Tac} {v : Nat}, (ins.any fun t => decide (setsL t = (v : Int))) = false → ∀ x, thru1 ins v x = (thru1 ins v false || x)
  | [], v, _, x => by simp [thru1]
  | t :: ins, v, h, x => by
    show bk1 t v (thru1 ins v x) = (bk1 t v (thru1 ins v false) || x)
    rw [List.any_cons, Bool.or_eq_false_iff, decide_eq_false_iff_not] at h
    rw [thru1_free h.2 x]
    unfold bk1
    split
    · simp
    · rw [if_neg h.1, if_neg h.1]
theorem ahead1_eq (b : Bk) (v : Nat) (x : Bool) : ahead1 b v x = (ahead1 b v false || (x && !(b.ins.any fun t => decide (setsL t = (v : Int))))) := by
  unfold ahead1
  cases h : b.ins.any fun t => decide (setsL t = (v : Int))
  · rw [thru1_free h, thru1_free h (last1 b v false)]
    unfold last1
    by_cases h2 : b.e = 2 ∧ b.v = (v : Int)
    · rw [if_pos h2, if_pos h2]; simp
    · rw [if_neg h2, if_neg h2]; simp
  · rw [thru1_set h (last1 b v x) (last1 b v false)]; simp
theorem way_ahead {f : BF} (hf : Fine f) {b : Nat} (hb : b < f.n) (l : List Bool) (hl : l.length = f.r) : wayL (readL (f.bk b) f.r) l (setL (f.bk b) f.r) = aheadL (f.bk b) l := by
  refine gB_ext (by rw [wayL_len, aheadL_len]) fun v hv => ?_
  rw [wayL_len] at hv
  have hv' : v < f.r := by omega
  rw [gB_way _ _ _ hv, gB_ahead hf hb l hl hv', ahead1_eq]
  unfold readL setL
  rw [gB_ahead hf hb _ (by simp) hv', gB_rep, gB_done _ _ _ (by simp; exact hv'), gB_rep, Bool.false_or]

/-- The search in the midst: the rows, which blocks wait, the last one being the next. -/
structure SV where
  I : List (List Bool)
  O : List (List Bool)
  wt : List Nat
deriving Inhabited
def SV.L (σ : SV) : LD := ⟨σ.I, σ.O⟩
/-- What matters behind a block, with what matters ahead of those that follow. -/
def gath (I : List (List Bool)) (o : List Bool) (ks : List Int) : List Bool := ks.foldl (fun o k => orL o (I.getD k.toNat default)) o
theorem gath_len (I : List (List Bool)) : ∀ (ks : List Int) (o : List Bool), (gath I o ks).length = o.length
  | [], _ => rfl
  | k :: ks, o => by
    show (gath I (orL o (I.getD k.toNat default)) ks).length = _
    rw [gath_len I ks, orL_len]
theorem gB_gath (I : List (List Bool)) : ∀ (ks : List Int) (o : List Bool) {v : Nat}, v < o.length → gB (gath I o ks) v = (gB o v || ks.any fun k => gB (I.getD k.toNat default) v)
  | [], o, v, _ => by simp [gath]
  | k :: ks, o, v, hv => by
    show gB (gath I (orL o (I.getD k.toNat default)) ks) v = _
    rw [gB_gath I ks _ (by rw [orL_len]; exact hv), gB_or _ _ hv, List.any_cons, Bool.or_assoc]
def newO (f : BF) (I O : List (List Bool)) (b : Nat) : List Bool := gath I (O.getD b default) (nxt (f.bk b))

/-- What is below every closed table. -/
def Under (f : BF) (L : LD) : Prop := ∀ I O, Closed f I O → ∀ b < f.n, ∀ v < f.r, (L.I b v = true → I b v = true) ∧ (L.O b v = true → O b v = true)

theorem row_set {m : List (List Bool)} {b c : Nat} {l : List Bool} (hb : b < m.length) : (m.set b l).getD c [] = if b = c then l else m.getD c [] := by
  rw [List.getD, List.getElem?_set]
  by_cases h : b = c
  · subst h; simp [hb]
  · rw [if_neg h, if_neg h]; rfl
theorem SizedP.setO {f : BF} {L : LD} (h : SizedP f L) {b : Nat} {l : List Bool} (hl : l.length = f.r) : SizedP f ⟨L.inn, L.out.set b l⟩ :=
  ⟨h.i, by simp [h.o], h.ir, fun x hx => by rcases List.mem_or_eq_of_mem_set hx with e | e; exact h.or x e; rw [e, hl]⟩
theorem SizedP.setI {f : BF} {L : LD} (h : SizedP f L) {b : Nat} {l : List Bool} (hl : l.length = f.r) : SizedP f ⟨L.inn.set b l, L.out⟩ :=
  ⟨by simp [h.i], h.o, fun x hx => by rcases List.mem_or_eq_of_mem_set hx with e | e; exact h.ir x e; rw [e, hl], h.or⟩

theorem under_out {f : BF} (hf : Fine f) {I O : List (List Bool)} (hs : SizedP f ⟨I, O⟩) (h : Under f ⟨I, O⟩) {b : Nat} (hb : b < f.n) : Under f ⟨I, O.set b (newO f I O b)⟩ := fun I' O' hc c hc' v hv => by
  have hob : b < O.length := by have := hs.o; simp only at this; omega
  refine ⟨(h I' O' hc c hc' v hv).1, fun e => ?_⟩
  have e' : gB ((O.set b (newO f I O b)).getD c []) v = true := e
  rw [row_set hob] at e'
  by_cases hbc : b = c
  · subst hbc
    rw [if_pos rfl] at e'
    unfold newO at e'
    have hol : (O.getD b default).length = f.r := hs.ol hb
    rw [gB_gath _ _ _ (by rw [hol]; exact hv), Bool.or_eq_true] at e'
    rcases e' with g | g
    · exact (h I' O' hc b hb v hv).2 g
    · obtain ⟨k, hk, g⟩ := List.any_eq_true.1 g
      have hk' := hf.to _ (BF.mem hb) k hk
      exact hc.way b hb k hk v hv ((h I' O' hc k.toNat (by unfold BF.n; omega) v hv).1 g)
  · rw [if_neg hbc] at e'
    exact (h I' O' hc c hc' v hv).2 e'
theorem under_in {f : BF} (hf : Fine f) {I O : List (List Bool)} (hs : SizedP f ⟨I, O⟩) (h : Under f ⟨I, O⟩) {b : Nat} (hb : b < f.n) {l : List Bool} (hl : ∀ v < f.r, gB l v = true → gB (I.getD b []) v = true ∨ gB (aheadL (f.bk b) (O.getD b [])) v = true) :
    Under f ⟨I.set b l, O⟩ := fun I' O' hc c hc' v hv => by
  have hob : b < I.length := by have := hs.i; simp only at this; omega
  refine ⟨fun e => ?_, (h I' O' hc c hc' v hv).2⟩
  have e' : gB ((I.set b l).getD c []) v = true := e
  rw [row_set hob] at e'
  by_cases hbc : b = c
  · subst hbc
    rw [if_pos rfl] at e'
    rcases hl v hv e' with g | g
    · exact (h I' O' hc b hb v hv).1 g
    · rw [gB_ahead hf hb _ (hs.ol hb) hv] at g
      exact hc.ahead b hb v hv ((Tri.ahead1 _ v).mono (fun e => (h I' O' hc b hb v hv).2 e) g)
  · rw [if_neg hbc] at e'
    exact (h I' O' hc c hc' v hv).1 e'

/-- How many truths of a table are not set. -/
def unset (m : List (List Bool)) : Nat := (m.map fun l => l.countP (! ·)).sum
theorem count_le {a b : List Bool} (hl : a.length = b.length) (h : ∀ v, gB a v = true → gB b v = true) : b.countP (! ·) ≤ a.countP (! ·) ∧ (a ≠ b → b.countP (! ·) < a.countP (! ·)) := by
  induction a generalizing b with
  | nil => cases b with
    | nil => exact ⟨Nat.le_refl _, fun e => absurd rfl e⟩
    | cons y b => simp at hl
  | cons x a ih => cases b with
    | nil => simp at hl
    | cons y b =>
      have h0 := h 0
      have hs := ih (by simpa using hl) fun v hv => by have := h (v + 1); simp only [gB, List.getD_cons_succ] at this ⊢; exact this hv
      simp only [gB, List.getD_cons_zero] at h0
      rw [List.countP_cons, List.countP_cons]
      have h2 : x :: a ≠ y :: b → x = y → a ≠ b := fun e e1 e2 => e (by rw [e1, e2])
      cases x <;> cases y
      · refine ⟨by simp; exact hs.1, fun e => by have := hs.2 (h2 e rfl); simpa using this⟩
      · exact ⟨by simp; omega, fun _ => by simp; omega⟩
      · exact absurd (h0 rfl) (by simp)
      · refine ⟨by simp; exact hs.1, fun e => by have := hs.2 (h2 e rfl); simpa using this⟩
theorem unset_set {m : List (List Bool)} {b : Nat} {l : List Bool} (hb : b < m.length) (hl : l.length = (m.getD b []).length) (h : ∀ v, gB (m.getD b []) v = true → gB l v = true) : unset (m.set b l) ≤ unset m ∧ (m.getD b [] ≠ l → unset (m.set b l) < unset m) := by
  induction m generalizing b with
  | nil => simp at hb
  | cons x m ih =>
    cases b with
    | zero =>
      have := count_le (a := x) (b := l) (by simpa using hl.symm) (by simpa using h)
      simp only [unset, List.set_cons_zero, List.map_cons, List.sum_cons, List.getD_cons_zero] at this ⊢
      exact ⟨by omega, fun e => by have := this.2 e; omega⟩
    | succ b =>
      have := ih (b := b) (by simpa using hb) (by simpa using hl) (by simpa using h)
      simp only [unset, List.set_cons_succ, List.map_cons, List.sum_cons, List.getD_cons_succ] at this ⊢
      exact ⟨by omega, fun e => by have := this.2 e; omega⟩
end Go.Proofs.Ytjdeediehmhdoaa
