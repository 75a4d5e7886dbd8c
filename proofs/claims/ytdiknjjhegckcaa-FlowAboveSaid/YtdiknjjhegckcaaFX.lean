/-
  Graphs, plainly: what the walk depth first has seen at its end. No condition.
-/
import Derived.Test.YtdiknjjhegckcaaFW
namespace Go.V.FL
set_option linter.unusedSimpArgs false
set_option linter.unusedVariables false

/-- Gone into from the first block on, some being marked ahead. -/
inductive Rw (g : G) (s0 : List Bool) : Nat → Prop where
  | zero : 0 < g.length → s0.getD 0 false = false → Rw g s0 0
  | step {b k : Nat} : Rw g s0 b → (k : Int) ∈ row g b → k < g.length → s0.getD k false = false → Rw g s0 k

/-- What holds at each step. -/
structure Wi (g : G) (s0 : List Bool) (d : D) : Prop where
  len : d.seen.length = g.length
  old : ∀ k, s0.getD k false = true → d.seen.getD k false = true
  way : ∀ p ∈ d.way, Rw g s0 p.1 ∧ d.seen.getD p.1 false = true
  outs : ∀ b ∈ d.out, Rw g s0 b ∧ d.seen.getD b false = true
  seen : ∀ k, d.seen.getD k false = true → s0.getD k false = true ∨ k ∈ d.out ∨ ∃ p ∈ d.way, p.1 = k
  done : ∀ b ∈ d.out, ∀ k : Nat, (k : Int) ∈ row g b → k < g.length → d.seen.getD k false = true
  part : ∀ p ∈ d.way, ∀ k : Nat, (k : Int) ∈ (row g p.1).take p.2 → k < g.length → d.seen.getD k false = true

theorem getD_tf {l : List Bool} {k : Nat} (h : k < l.length) : l.getD k true = l.getD k false := by
  simp [List.getD, List.getElem?_eq_getElem h]

theorem Wi.into {g : G} {s0 : List Bool} {d : D} {k : Int} (h : Wi g s0 d) (hk : 0 ≤ k → k < g.length → s0.getD k.toNat false = false → Rw g s0 k.toNat) :
    Wi g s0 (into g k d) ∧ (0 ≤ k → k < g.length → (FL.into g k d).seen.getD k.toNat false = true) ∧ (∀ j, d.seen.getD j false = true → (FL.into g k d).seen.getD j false = true) := by
  unfold FL.into
  split
  · rename_i hf
    obtain ⟨h1, h2, h3⟩ := fits_iff.1 hf
    have hl : k.toNat < d.seen.length := by rw [h.len]; omega
    rw [getD_tf hl] at h3
    have up : ∀ j, d.seen.getD j false = true → (d.seen.set k.toNat true).getD j false = true := fun j hj => by rw [getD_set hl]; split <;> simp_all
    have hs0 : s0.getD k.toNat false = false := by
      cases e : s0.getD k.toNat false with
      | false => rfl
      | true => rw [h.old _ e] at h3; cases h3
    have hr := hk h1 h2 hs0
    refine ⟨⟨by simp [h.len], fun j hj => up j (h.old j hj), fun p hp => ?_, fun b hb => ⟨(h.outs b hb).1, up _ (h.outs b hb).2⟩, fun j hj => ?_, fun b hb j hj hjl => up j (h.done b hb j hj hjl), fun p hp j hj hjl => ?_⟩, fun _ _ => by rw [getD_set hl, if_pos rfl], up⟩
    · rcases List.mem_append.1 hp with hp | hp
      · exact ⟨(h.way p hp).1, up _ (h.way p hp).2⟩
      · simp at hp; subst hp; exact ⟨hr, by rw [getD_set hl, if_pos rfl]⟩
    · rw [getD_set hl] at hj
      split at hj
      · rename_i e; subst e; exact .inr (.inr ⟨(k.toNat, 0), by simp, rfl⟩)
      · rcases h.seen j hj with h4 | h4 | ⟨p, hp, h4⟩
        · exact .inl h4
        · exact .inr (.inl h4)
        · exact .inr (.inr ⟨p, by simp [hp], h4⟩)
    · rcases List.mem_append.1 hp with hp | hp
      · exact up j (h.part p hp j hj hjl)
      · simp at hp; subst hp; simp at hj
  · rename_i hf
    refine ⟨h, fun h1 h2 => ?_, fun _ h => h⟩
    have hl : k.toNat < d.seen.length := by rw [h.len]; omega
    have : ¬ fits g d.seen k = true := hf
    rw [fits_iff] at this
    rw [getD_tf hl] at this
    cases e : d.seen.getD k.toNat false with
    | true => rfl
    | false => exact (this ⟨h1, h2, e⟩).elim

theorem Wi.step {g : G} {s0 : List Bool} {d : D} (h : Wi g s0 d) (hs0 : s0.length = g.length) : Wi g s0 (dstep g d) := by
  obtain ⟨way, seen, out⟩ := d
  rcases List.eq_nil_or_concat way with rfl | ⟨ws, ⟨b, i⟩, rfl⟩
  · exact h
  · rw [List.concat_eq_append] at h ⊢
    rw [dstep_snoc]
    have hb := h.way (b, i) (by simp)
    split
    · rename_i hi
      have hmem : (row g b).getD i 0 ∈ row g b := by simp [List.getD, List.getElem?_eq_getElem hi]
      -- the way's last one looked at one more
      have key := Wi.into (d := ⟨ws ++ [(b, i)], seen, out⟩) (k := (row g b).getD i 0) h (fun h1 h2 h3 => .step hb.1 (by rw [Int.toNat_of_nonneg h1]; exact hmem) (by omega) h3)
      obtain ⟨k1, k2, k3⟩ := key
      have e : ∀ w, (FL.into g ((row g b).getD i 0) ⟨w, seen, out⟩).seen = (if fits g seen ((row g b).getD i 0) then seen.set ((row g b).getD i 0).toNat true else seen) ∧ (FL.into g ((row g b).getD i 0) ⟨w, seen, out⟩).out = out ∧
          (FL.into g ((row g b).getD i 0) ⟨w, seen, out⟩).way = w ++ (if fits g seen ((row g b).getD i 0) then [(((row g b).getD i 0).toNat, 0)] else []) := fun w => by
        unfold FL.into; split <;> simp
      obtain ⟨e1, e2, e3⟩ := e (ws ++ [(b, i + 1)])
      obtain ⟨f1, f2, f3⟩ := e (ws ++ [(b, i)])
      have es : (FL.into g ((row g b).getD i 0) ⟨ws ++ [(b, i + 1)], seen, out⟩).seen = (FL.into g ((row g b).getD i 0) ⟨ws ++ [(b, i)], seen, out⟩).seen := by rw [e1, f1]
      have eo : (FL.into g ((row g b).getD i 0) ⟨ws ++ [(b, i + 1)], seen, out⟩).out = (FL.into g ((row g b).getD i 0) ⟨ws ++ [(b, i)], seen, out⟩).out := by rw [e2, f2]
      have ew : ∀ p ∈ (FL.into g ((row g b).getD i 0) ⟨ws ++ [(b, i + 1)], seen, out⟩).way, p = (b, i + 1) ∨ p ∈ (FL.into g ((row g b).getD i 0) ⟨ws ++ [(b, i)], seen, out⟩).way := fun p hp => by
        rw [e3] at hp; rw [f3]
        simp only [List.mem_append, List.mem_singleton] at hp ⊢
        rcases hp with (hp | hp) | hp
        · exact .inr (.inl (.inl hp))
        · exact .inl hp
        · exact .inr (.inr hp)
      have ew2 : ∀ p ∈ (FL.into g ((row g b).getD i 0) ⟨ws ++ [(b, i)], seen, out⟩).way, ∃ q ∈ (FL.into g ((row g b).getD i 0) ⟨ws ++ [(b, i + 1)], seen, out⟩).way, q.1 = p.1 := fun p hp => by
        rw [f3] at hp; rw [e3]
        simp only [List.mem_append, List.mem_singleton] at hp ⊢
        rcases hp with (hp | hp) | hp
        · exact ⟨p, .inl (.inl hp), rfl⟩
        · exact ⟨(b, i + 1), .inl (.inr rfl), by rw [hp]⟩
        · exact ⟨p, .inr hp, rfl⟩
      refine ⟨es ▸ k1.len, fun j hj => es ▸ k1.old j hj, fun p hp => ?_, fun c hc => ?_, fun j hj => ?_, fun c hc j hj hjl => ?_, fun p hp j hj hjl => ?_⟩
      · rw [es]
        rcases ew p hp with rfl | hp
        · exact ⟨hb.1, k3 _ hb.2⟩
        · exact k1.way p hp
      · rw [es]; rw [eo] at hc; exact k1.outs c hc
      · rw [es] at hj; rw [eo]
        rcases k1.seen j hj with h4 | h4 | ⟨p, hp, h4⟩
        · exact .inl h4
        · exact .inr (.inl h4)
        · obtain ⟨q, hq, hq2⟩ := ew2 p hp
          exact .inr (.inr ⟨q, hq, hq2.trans h4⟩)
      · rw [es]; rw [eo] at hc; exact k1.done c hc j hj hjl
      · rw [es]
        rcases ew p hp with rfl | hp
        · simp only at hj
          rw [List.take_add_one, List.getElem?_eq_getElem hi] at hj
          rcases List.mem_append.1 hj with hj | hj
          · exact k3 j (h.part (b, i) (by simp) j hj hjl)
          · simp at hj
            have e5 : (row g b).getD i 0 = (j : Int) := by simp [List.getD, List.getElem?_eq_getElem hi, hj]
            have := k2 (by omega) (by omega)
            rw [show ((row g b).getD i 0).toNat = j by rw [e5]; simp] at this
            exact this
        · exact k1.part p hp j hj hjl
    · rename_i hi
      refine ⟨h.len, h.old, fun p hp => h.way p (by simp [hp]), fun c hc => ?_, fun j hj => ?_, fun c hc j hj hjl => ?_, fun p hp j hj hjl => h.part p (by simp [hp]) j hj hjl⟩
      · rcases List.mem_append.1 hc with hc | hc
        · exact h.outs c hc
        · simp at hc; subst hc; exact hb
      · rcases h.seen j hj with h4 | h4 | ⟨p, hp, h4⟩
        · exact .inl h4
        · exact .inr (.inl (by simp [h4]))
        · rcases List.mem_append.1 hp with hp | hp
          · exact .inr (.inr ⟨p, hp, h4⟩)
          · simp at hp; subst hp; simp only at h4; subst h4; exact .inr (.inl (by simp))
      · rcases List.mem_append.1 hc with hc | hc
        · exact h.done c hc j hj hjl
        · simp at hc; subst hc
          exact h.part (c, i) (by simp) j (by rw [List.take_of_length_le (Nat.le_of_not_lt hi)]; exact hj) hjl

theorem wi_start {g : G} {s0 : List Bool} (hs0 : s0.length = g.length) : Wi g s0 (into g 0 ⟨[], s0, []⟩) ∧ (0 < g.length → (into g 0 ⟨[], s0, []⟩).seen.getD 0 false = true) := by
  have h0 : Wi g s0 ⟨[], s0, []⟩ := ⟨hs0, fun _ h => h, by simp, by simp, fun k h => .inl h, by simp, by simp⟩
  have := h0.into (k := 0) fun _ h2 h3 => .zero (by omega) h3
  exact ⟨this.1, fun h => this.2.1 (Int.le_refl _) (by omega)⟩

theorem seen_up {g : G} (d : D) (j : Nat) (hl : d.seen.length = g.length) (hj : d.seen.getD j false = true) : (dstep g d).seen.getD j false = true := by
  obtain ⟨way, seen, out⟩ := d
  rcases List.eq_nil_or_concat way with rfl | ⟨ws, ⟨b, i⟩, rfl⟩
  · exact hj
  · rw [List.concat_eq_append, dstep_snoc]
    split
    · unfold into
      split
      · rename_i hf
        obtain ⟨h1, h2, _⟩ := fits_iff.1 hf
        rw [getD_set (by rw [hl]; omega)]
        split
        · rfl
        · exact hj
      · exact hj
    · exact hj

theorem wi_run {g : G} {s0 : List Bool} (hs0 : s0.length = g.length) {d : D} (h : Wi g s0 d) (h0 : 0 < g.length → d.seen.getD 0 false = true) : ∀ n, Wi g s0 (drun g n d) ∧ (0 < g.length → (drun g n d).seen.getD 0 false = true)
  | 0 => ⟨h, h0⟩
  | n + 1 => by
    obtain ⟨h1, h2⟩ := wi_run hs0 h h0 n
    rw [drun_succ]
    exact ⟨h1.step hs0, fun hp => seen_up _ _ h1.len (h2 hp)⟩

/-- WHAT THE WALK HAS SEEN: what was marked ahead, and what can be gone into. -/
theorem dfs_seen {g : G} {s0 : List Bool} (hs0 : s0.length = g.length) {d : D} (h : Dfs g (into g 0 ⟨[], s0, []⟩) d) :
    d.seen.length = g.length ∧ (∀ k, d.seen.getD k false = true ↔ s0.getD k false = true ∨ Rw g s0 k) ∧ ∀ k, k ∈ d.out ↔ Rw g s0 k := by
  obtain ⟨hw, n, hn⟩ := h
  obtain ⟨hi, hz⟩ : Wi g s0 d ∧ (0 < g.length → d.seen.getD 0 false = true) := hn ▸ wi_run hs0 (wi_start hs0).1 (wi_start hs0).2 n
  have back : ∀ k, d.seen.getD k false = true → s0.getD k false = true ∨ k ∈ d.out := fun k hk => by
    rcases hi.seen k hk with h | h | ⟨p, hp, _⟩
    · exact .inl h
    · exact .inr h
    · rw [hw] at hp; cases hp
  have fwd : ∀ k, Rw g s0 k → d.seen.getD k false = true ∧ s0.getD k false = false := fun k hr => by
    induction hr with
    | zero h1 h2 => exact ⟨hz h1, h2⟩
    | step hb hm hk hs ih =>
      refine ⟨?_, hs⟩
      rcases back _ ih.1 with h | h
      · rw [ih.2] at h; cases h
      · exact hi.done _ h _ hm hk
  refine ⟨hi.len, fun k => ⟨fun hk => ?_, fun hk => ?_⟩, fun k => ⟨fun hk => (hi.outs k hk).1, fun hk => ?_⟩⟩
  · rcases back k hk with h | h
    · exact .inl h
    · exact .inr (hi.outs k h).1
  · rcases hk with h | h
    · exact hi.old k h
    · exact (fwd k h).1
  · rcases back k (fwd k hk).1 with h | h
    · rw [(fwd k hk).2] at h; cases h
    · exact h

theorem rep_false (n k : Nat) : (List.replicate n false).getD k false = false := by
  simp only [List.getD, List.getElem?_replicate]; split <;> rfl

/-- Nothing marked ahead: the walk has seen what is reached. -/
theorem dfs_reach {g : G} {d : D} (h : Dfs g (into g 0 ⟨[], List.replicate g.length false, []⟩) d) : d.seen = reachL g (-1) := by
  obtain ⟨h1, h2, _⟩ := dfs_seen (s0 := List.replicate g.length false) (by simp) h
  refine eq_reachL h1 fun k hk => ?_
  rw [h2 k, rep_false]
  simp only [Bool.false_eq_true, false_or]
  constructor
  · intro hr
    induction hr with
    | zero h _ => exact .zero h
    | step hb hm hl _ ih => exact .step (ih (by cases hb <;> assumption)) (by omega) hm hl
  · intro hr
    clear hk
    induction hr with
    | zero h => exact .zero h (rep_false _ _)
    | step hb hn hm hl ih => exact .step ih hm hl (rep_false _ _)

/-- a marked ahead: of the others the walk has seen what is reached without a's ways on. -/
theorem dfs_without {g : G} {a : Nat} {d : D} (ha : a < g.length) (h : Dfs g (into g 0 ⟨[], (List.replicate g.length false).set a true, []⟩) d) {b : Nat} (hb : b < g.length) (hne : b ≠ a) :
    (d.seen.getD b false = true ↔ Rch g a b) := by
  have hs : ∀ k, ((List.replicate g.length false).set a true).getD k false = true ↔ k = a := fun k => by
    rw [getD_set (by simpa using ha), rep_false]
    split <;> simp_all
  have hs' : ∀ k, ((List.replicate g.length false).set a true).getD k false = false ↔ k ≠ a := fun k => by
    rw [← Bool.not_eq_true, hs k]
  obtain ⟨h1, h2, _⟩ := dfs_seen (s0 := (List.replicate g.length false).set a true) (by simp) h
  rw [h2 b, hs b]
  constructor
  · intro hr
    rcases hr with hr | hr
    · exact (hne hr).elim
    · clear hne hb
      induction hr with
      | zero h _ => exact .zero h
      | @step c k hb hm hl _ ih =>
        refine .step ih (fun e => ?_) hm hl
        have : c ≠ a := by cases hb with
          | zero _ h => exact (hs' _).1 h
          | step _ _ _ h => exact (hs' _).1 h
        omega
  · intro hr
    right
    clear hb
    induction hr with
    | zero h => exact .zero h ((hs' _).2 hne)
    | @step c k hb hn hm hl ih => exact .step (ih (fun e => hn (by rw [e]))) hm hl ((hs' _).2 hne)
end Go.V.FL
