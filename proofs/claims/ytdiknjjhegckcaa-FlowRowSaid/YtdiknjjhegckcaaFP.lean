/-
  Graphs, plainly: the walk's order: one that leads to a block stands ahead of it. No condition.
-/
import Derived.Test.YtdiknjjhegckcaaFA
import Derived.Test.YtdiknjjhegckcaaFX
namespace Go.V.FL
set_option linter.unusedSimpArgs false
set_option linter.unusedVariables false

abbrev fsts (w : List (Nat × Nat)) : List Nat := w.map (·.1)

/-- What holds at each step. -/
structure Wo (g : G) (d : D) : Prop where
  len : d.seen.length = g.length
  nd : (d.out ++ fsts d.way).Nodup
  seen : ∀ k ∈ d.out ++ fsts d.way, d.seen.getD k false = true
  par : ∀ k ∈ d.out, k ≠ 0 → ∃ p, Ed g p k ∧ (p ∈ fsts d.way ∨ ∃ xs ys, d.out = xs ++ k :: ys ∧ p ∈ ys)
  chn : ∀ ws a b ts, fsts d.way = ws ++ a :: b :: ts → Ed g a b
  hd : (∃ ts, fsts d.way = 0 :: ts) ∨ (d.way = [] ∧ ∃ xs, d.out = xs ++ [0])

theorem Wo.into {g : G} {d : D} {k : Int} {ws : List Nat} {b : Nat} (h : Wo g d) (hw : fsts d.way = ws ++ [b]) (hk : k ∈ row g b) : Wo g (into g k d) := by
  unfold FL.into
  split
  · rename_i hf
    obtain ⟨h1, h2, h3⟩ := fits_iff.1 hf
    have hl : k.toNat < d.seen.length := by rw [h.len]; omega
    rw [getD_tf hl] at h3
    have hnew : k.toNat ∉ d.out ++ fsts d.way := fun q => by rw [h.seen _ q] at h3; cases h3
    have ew : fsts (d.way ++ [(k.toNat, 0)]) = fsts d.way ++ [k.toNat] := by simp
    refine ⟨by simp [h.len], ?_, fun j hj => ?_, fun j hj h0 => ?_, fun xs a c ts e => ?_, ?_⟩
    · show (d.out ++ fsts (d.way ++ [(k.toNat, 0)])).Nodup
      rw [ew, ← List.append_assoc, List.nodup_append]
      refine ⟨h.nd, by simp, fun a ha c hc => ?_⟩
      simp at hc; subst hc; intro e; subst e; exact hnew ha
    · rw [ew, ← List.append_assoc] at hj
      simp only
      rw [getD_set hl]
      split
      · rfl
      · rcases List.mem_append.1 hj with hj | hj
        · exact h.seen j hj
        · simp at hj; omega
    · obtain ⟨p, h4, h5⟩ := h.par j hj h0
      refine ⟨p, h4, h5.imp (fun q => ?_) id⟩
      rw [ew]; exact List.mem_append.2 (.inl q)
    · rw [ew] at e
      rcases List.eq_nil_or_concat ts with rfl | ⟨ts', x, rfl⟩
      · have e2 : ws ++ [b] ++ [k.toNat] = xs ++ [a] ++ [c] := by rw [← hw, e]; simp
        obtain ⟨e3, e4⟩ := List.append_inj' e2 rfl
        obtain ⟨_, e5⟩ := List.append_inj' e3 rfl
        simp at e4 e5
        subst e4; subst e5
        exact ⟨by rw [Int.toNat_of_nonneg h1]; exact hk, by omega⟩
      · rw [List.concat_eq_append] at e
        have e2 : fsts d.way ++ [k.toNat] = (xs ++ a :: c :: ts') ++ [x] := by rw [e]; simp
        exact h.chn xs a c ts' (List.append_inj' e2 rfl).1
    · rcases h.hd with ⟨ts, e⟩ | ⟨e, _⟩
      · exact .inl ⟨ts ++ [k.toNat], by rw [ew, e]; simp⟩
      · rw [e] at hw; simp at hw
  · exact h

theorem Wo.step {g : G} {d : D} (h : Wo g d) : Wo g (dstep g d) := by
  obtain ⟨way, seen, out⟩ := d
  rcases List.eq_nil_or_concat way with rfl | ⟨ws, ⟨b, i⟩, rfl⟩
  · exact h
  rw [List.concat_eq_append] at h ⊢
  rw [dstep_snoc]
  have ew : ∀ j, fsts (ws ++ [(b, j)]) = fsts ws ++ [b] := fun j => by simp
  split
  · rename_i hi
    refine Wo.into (ws := fsts ws) (b := b) ?_ (ew _) (by simp [List.getD, List.getElem?_eq_getElem hi])
    obtain ⟨h1, h2, h3, h4, h5, h6⟩ := h
    simp only [ew] at h2 h3 h4 h5 h6
    refine ⟨h1, by simp only [ew]; exact h2, by simp only [ew]; exact h3, by simp only [ew]; exact h4, by simp only [ew]; exact h5, ?_⟩
    rcases h6 with h6 | ⟨h6, _⟩
    · exact .inl (by simp only [ew]; exact h6)
    · simp at h6
  · obtain ⟨h1, h2, h3, h4, h5, h6⟩ := h
    simp only [ew] at h1 h2 h3 h4 h5 h6
    have hp : ∀ x, x ∈ out ++ [b] ++ fsts ws ↔ x ∈ out ++ (fsts ws ++ [b]) := fun x => by simp; constructor <;> (intro q; rcases q with q | q | q <;> simp [q])
    refine ⟨h1, ?_, fun k hk => h3 k ((hp k).1 hk), fun k hk h0 => ?_, fun xs a c ts e => ?_, ?_⟩
    · show (out ++ [b] ++ fsts ws).Nodup
      refine (List.Perm.nodup_iff ?_).2 h2
      rw [List.append_assoc]
      exact List.Perm.append_left _ List.perm_append_comm
    · show ∃ p, Ed g p k ∧ (p ∈ fsts ws ∨ ∃ xs ys, out ++ [b] = xs ++ k :: ys ∧ p ∈ ys)
      rcases List.mem_append.1 hk with hk1 | hk
      · obtain ⟨p, q1, q2⟩ := h4 k hk1 h0
        refine ⟨p, q1, ?_⟩
        rcases q2 with q2 | ⟨xs, ys, q2, q3⟩
        · rcases List.mem_append.1 q2 with q2 | q2
          · exact .inl q2
          · simp at q2; subst q2
            obtain ⟨xs, ys, e⟩ := List.append_of_mem hk1
            exact .inr ⟨xs, ys ++ [p], by rw [e]; simp, by simp⟩
        · exact .inr ⟨xs, ys ++ [b], by rw [q2]; simp, by simp [q3]⟩
      · simp at hk; subst hk
        rcases List.eq_nil_or_concat ws with rfl | ⟨vs, ⟨a, j⟩, rfl⟩
        · rcases h6 with ⟨ts, e⟩ | ⟨e, _⟩
          · simp at e; exact (h0 e.1).elim
          · simp at e
        · rw [List.concat_eq_append] at h5 ⊢
          refine ⟨a, h5 (fsts vs) a k [] (by simp), .inl (by simp)⟩
    · exact h5 xs a c (ts ++ [b]) (by show fsts ws ++ [b] = _; rw [show fsts ws = xs ++ a :: c :: ts from e]; simp)
    · rcases h6 with ⟨ts, e⟩ | ⟨e, _⟩
      · cases ws with
        | nil => simp at e; exact .inr ⟨rfl, out, by simp [e.1]⟩
        | cons p ws => simp at e; exact .inl ⟨fsts ws, by simp [e.1]⟩
      · simp at e

theorem Wo.run {g : G} {d : D} (h : Wo g d) : ∀ n, Wo g (drun g n d)
  | 0 => h
  | n + 1 => by rw [drun_succ]; exact (h.run n).step

theorem Wo.start {g : G} (h : 0 < g.length) : Wo g (FL.into g 0 ⟨[], List.replicate g.length false, []⟩) := by
  have hf : fits g (List.replicate g.length false) 0 = true := fits_iff.2 ⟨by omega, by omega, by simp [List.getD, h]⟩
  have e : FL.into g 0 ⟨[], List.replicate g.length false, []⟩ = ⟨[(0, 0)], (List.replicate g.length false).set 0 true, []⟩ := by unfold FL.into; rw [if_pos hf]; rfl
  rw [e]
  refine ⟨by simp, by simp, fun k hk => ?_, fun k hk => by simp at hk, fun ws a b ts e => ?_, .inl ⟨[], rfl⟩⟩
  · simp at hk; subst hk; rw [getD_set (by simpa using h)]; simp
  · have := congrArg List.length e; simp at this; omega

/-- The order: what was gone out of last stands first. -/
abbrev ordN (d : D) : List Nat := d.out.reverse
abbrev rankN (d : D) (k : Nat) : Nat := (ordN d).idxOf k

section
variable {g : G} {d : D} (hd : Dfs g (into g 0 ⟨[], List.replicate g.length false, []⟩) d)
include hd
theorem ord_mem {k : Nat} : k ∈ ordN d ↔ Rd g k := by
  obtain ⟨h1, h2, h3⟩ := dfs_seen (s0 := List.replicate g.length false) (by simp) hd
  have hs := dfs_reach hd
  rw [List.mem_reverse, h3 k]
  constructor
  · intro q
    have hl : k < g.length := by cases q <;> assumption
    have := (h2 k).2 (.inr q)
    rw [hs] at this
    exact (reachL_get hl).1 this
  · intro q
    have := (reachL_get q.lt).2 q
    rw [← hs] at this
    rcases (h2 k).1 this with e | e
    · rw [rep_false] at e; cases e
    · exact e

theorem ord_wo (hg : 0 < g.length) : Wo g d := by
  obtain ⟨_, n, rfl⟩ := hd
  exact (Wo.start hg).run n

theorem ord_nodup (hg : 0 < g.length) : (ordN d).Nodup := by
  have h := (ord_wo hd hg).nd
  rw [hd.1] at h
  exact (List.Perm.nodup_iff (List.reverse_perm d.out)).2 (by simpa using h)

theorem ord_head (hg : 0 < g.length) : ∃ l, ordN d = 0 :: l := by
  rcases (ord_wo hd hg).hd with ⟨ts, e⟩ | ⟨_, xs, e⟩
  · rw [hd.1] at e; simp at e
  · exact ⟨xs.reverse, by rw [ordN, e]; simp⟩

/-- THE ORDER is one in which some block that leads to another stands ahead of it. -/
theorem ord_cx (hg : 0 < g.length) : Cx g (rankN d) := by
  refine ⟨.zero hg, ?_, fun a b ha hb e => ?_, fun b hb h0 => ?_⟩
  · obtain ⟨l, e⟩ := ord_head hd hg
    rw [rankN, e]; simp
  · have ha' := (ord_mem hd).2 ha
    have hb' := (ord_mem hd).2 hb
    have e1 := List.getElem_idxOf (List.idxOf_lt_length_of_mem ha')
    have e2 := List.getElem_idxOf (List.idxOf_lt_length_of_mem hb')
    rw [← e1, ← e2]
    simp only [rankN] at e
    simp only [e]
  · have hw := ord_wo hd hg
    have hb' : b ∈ d.out := List.mem_reverse.1 ((ord_mem hd).2 hb)
    obtain ⟨p, h1, h2⟩ := hw.par b hb' h0
    rw [hd.1] at h2
    rcases h2 with h2 | ⟨xs, ys, e, hp⟩
    · simp at h2
    · have hpo : p ∈ d.out := by rw [e]; simp [hp]
      refine ⟨p, (ord_mem hd).1 (List.mem_reverse.2 hpo), h1, ?_⟩
      have hnd : d.out.Nodup := (List.Perm.nodup_iff (List.reverse_perm d.out)).1 (ord_nodup hd hg)
      rw [e] at hnd
      have hby : b ∉ ys := by
        have := (List.nodup_append.1 hnd).2.1
        exact (List.nodup_cons.1 this).1
      have eo : ordN d = ys.reverse ++ (b :: xs.reverse) := by rw [ordN, e]; simp
      rw [rankN, rankN, eo, List.idxOf_append, List.idxOf_append, if_pos (by simpa using hp), if_neg (by simpa using hby)]
      have : ys.reverse.idxOf p < ys.reverse.length := List.idxOf_lt_length_of_mem (by simpa using hp)
      omega

theorem ord_at {i : Nat} (hi : i < (ordN d).length) (hg : 0 < g.length) : rankN d (ordN d)[i] = i := (ord_nodup hd hg).idxOf_getElem i hi
theorem ord_lt {k : Nat} (hk : Rd g k) : rankN d k < (ordN d).length := List.idxOf_lt_length_of_mem ((ord_mem hd).2 hk)
end
end Go.V.FL
