/-
  A program that may be runs well, plainly: each step is defined. No condition.
-/
import Derived.Test.YtdfdkoajphcjbaaD6
import Derived.Test.YtdfdkoajphcjbaaS6
namespace Go.Proofs.Ytdfdkoajphcjbaa
set_option linter.unusedSimpArgs false
set_option linter.unusedVariables false
open Go.V

theorem effD_some {s : SP} {f : Nat} {x : SI} {d e : Int} (h : effD s f x d = some e) : ∃ t p, tkS s f x = some (t, p) ∧ 0 ≤ t ∧ t ≤ d ∧ (x.op = 11 → d = t) ∧ e = d - t + p := by
  unfold effD at h
  split at h
  · cases h
  · rename_i t p ht
    split at h
    · cases h
    · rename_i hn
      cases h
      refine ⟨t, p, ht, by omega, by omega, fun h11 => ?_, rfl⟩
      exact Classical.byContradiction fun hd => hn (.inr (.inr ⟨h11, hd⟩))

/-- A call in the midst stands at a place of that depth. -/
structure Fr1 (s : SP) (D : Nat → List Int) (c : Fm) (e : Nat) : Prop where
  f : c.f < s.funcs.length
  k : c.at_ < (s.fn c.f).code.length
  d : (D c.f).getD c.at_ (-1) = ((c.L.length + e : Nat) : Int)
def BelOK (s : SP) (D : Nat → List Int) : Nat → List Fm → Prop
  | f, [] => (s.fn f).word = false
  | f, c :: rest => Fr1 s D c (cntB (s.fn f).word) ∧ BelOK s D c.f rest
structure InvS (s : SP) (D : Nat → List Int) (σ : SM) : Prop where
  mem : σ.mem.length = s.words.toNat
  top : Fr1 s D σ.top 0
  below : BelOK s D σ.top.f σ.below

theorem inv_at {s : SP} {D : Nat → List Int} {σ : SM} (hD : ∀ f, f < s.funcs.length → Sol s f (D f)) (h : InvS s D σ) :
    ∃ t p, tkS s σ.top.f (s.ins σ.top.f σ.top.at_) = some (t, p) ∧ 0 ≤ t ∧ t ≤ σ.top.L.length ∧ ((s.ins σ.top.f σ.top.at_).op = 11 → (σ.top.L.length : Int) = t) ∧
      ∀ k ∈ nextL (s.ins σ.top.f σ.top.at_) σ.top.at_, 0 ≤ k ∧ k < (s.fn σ.top.f).code.length ∧ (D σ.top.f).getD k.toNat (-1) = σ.top.L.length - t + p := by
  have hs := hD _ h.top.f
  obtain ⟨e, h1, h2⟩ := hs.cl σ.top.at_ (by rw [hs.len]; exact h.top.k) (by rw [h.top.d]; omega)
  rw [h.top.d] at h1
  obtain ⟨t, p, g1, g2, g3, g4, g5⟩ := effD_some h1
  refine ⟨t, p, g1, g2, by omega, fun h11 => by have := g4 h11; omega, fun k hk => ?_⟩
  obtain ⟨q1, q2, q3⟩ := h2 k hk
  exact ⟨q1, q2, by rw [q3, g5]; omega⟩

theorem inv_good {s : SP} {D : Nat → List Int} {σ : SM} (hR : RightP s) (hD : ∀ f, f < s.funcs.length → Sol s f (D f)) (h : InvS s D σ) : Good s σ := by
  obtain ⟨t, p, h1, h2, h3, h4, h5⟩ := inv_at hD h
  have hfit := (hR.fn _ h.top.f).fits _ h.top.k
  refine ⟨h.top.f, h.top.k, ?_⟩
  have hm := h.mem
  have hw0 := hR.w0
  generalize s.ins σ.top.f σ.top.at_ = x at *
  obtain ⟨f1, f2, f3⟩ := hfit
  unfold OkI
  rcases f3 with ⟨g1, g2⟩ | ⟨g1, g2, g3⟩ | ⟨g1, g2, g3, g4, g5⟩ | ⟨g1, g2, g3⟩ | ⟨g1, g2, g3⟩ | ⟨g1, g2, g3⟩
  · rcases g1 with e | e | e | e | e
    · exact .inl e
    · have ht : tkS s σ.top.f x = some (1, 1) := by simp [tkS, e]
      rw [ht] at h1; cases h1
      exact .inr (.inr (.inr (.inr (.inr (.inr (.inl ⟨e, by omega⟩))))))
    · have ht : tkS s σ.top.f x = some (((cntB (s.fn σ.top.f).word : Nat) : Int), 0) := by simp [tkS, e]
      rw [ht] at h1; cases h1
      have := h4 e
      exact .inr (.inr (.inr (.inr (.inr (.inr (.inr (.inr (.inr (.inr (.inl ⟨e, by omega⟩))))))))))
    · exact .inr (.inr (.inr (.inr (.inr (.inr (.inr (.inr (.inr (.inr (.inr (.inl e)))))))))))
    · have ht : tkS s σ.top.f x = some (1, 0) := by simp [tkS, e]
      rw [ht] at h1; cases h1
      exact .inr (.inr (.inr (.inr (.inr (.inr (.inr (.inr (.inr (.inr (.inr (.inr ⟨e, by omega⟩)))))))))))
  · rcases g1 with e | e
    · exact .inr (.inl ⟨e, g2, by omega⟩)
    · have ht : tkS s σ.top.f x = some (1, 0) := by simp [tkS, e]
      rw [ht] at h1; cases h1
      exact .inr (.inr (.inl ⟨e, g2, by omega, by omega⟩))
  · rcases g1 with e | e
    · have ht : tkS s σ.top.f x = some (1, 1) := by simp [tkS, e]
      rw [ht] at h1; cases h1
      exact .inr (.inr (.inr (.inl ⟨e, g2, by omega, by omega, by omega⟩)))
    · have ht : tkS s σ.top.f x = some (2, 0) := by simp [tkS, e]
      rw [ht] at h1; cases h1
      exact .inr (.inr (.inr (.inr (.inl ⟨e, g2, by omega, by omega, by omega⟩))))
  · have ht : tkS s σ.top.f x = some (2, 1) := by simp [tkS, g1]
    rw [ht] at h1; cases h1
    exact .inr (.inr (.inr (.inr (.inr (.inl ⟨g1, by omega⟩)))))
  · rcases g1 with e | e
    · exact .inr (.inr (.inr (.inr (.inr (.inr (.inr (.inl ⟨e, g2⟩)))))))
    · have ht : tkS s σ.top.f x = some (1, 0) := by simp [tkS, e]
      rw [ht] at h1; cases h1
      exact .inr (.inr (.inr (.inr (.inr (.inr (.inr (.inr (.inl ⟨e, g2, by omega⟩))))))))
  · have hf := h.top.f
    have ha : x.a < (s.funcs.length : Int) := by omega
    have ht : tkS s σ.top.f x = some ((s.fn x.a.toNat).params, ((cntB (s.fn x.a.toNat).word : Nat) : Int)) := by simp [tkS, g1, g2, ha]
    rw [ht] at h1; cases h1
    obtain ⟨k1, k2, k3, k4, k5⟩ := (hR.fn x.a.toNat (by omega)).h
    exact .inr (.inr (.inr (.inr (.inr (.inr (.inr (.inr (.inr (.inl ⟨g1, g2, ha, k1, k2, k3, by omega, by omega⟩)))))))))

theorem inv_step {s : SP} {D : Nat → List Int} {σ : SM} {inp : ByteArray} (hR : RightP s) (hD : ∀ f, f < s.funcs.length → Sol s f (D f)) (h : InvS s D σ) (h0 : σ.fin = 0) (hn : (stepS s inp σ).fin = 0) : InvS s D (stepS s inp σ) := by
  have hg := (inv_good hR hD h).ok
  obtain ⟨t, p, h1, h2, h3, h4, h5⟩ := inv_at hD h
  rw [stepS_eq h0] at hn ⊢
  obtain ⟨mem, rd, out, steps, fin, ⟨f, k, L⟩, below⟩ := σ
  obtain ⟨im, it, ib⟩ := h
  simp only at h1 h2 h3 h4 h5 im it ib h0
  subst h0
  obtain ⟨jf, jk, jd⟩ := it
  simp only at jf jk jd
  generalize s.ins f k = x at *
  simp only [SM.next] at hn ⊢
  have ok : ∀ mem' rd' out' (L' : List Int), mem'.length = mem.length → nextL x k = [(k : Int) + 1] → (L'.length : Int) = L.length - t + p → InvS s D ⟨mem', rd', out', steps + 1, 0, ⟨f, k + 1, L'⟩, below⟩ := fun mem' rd' out' L' e1 e2 e3 => by
    obtain ⟨q1, q2, q3⟩ := h5 ((k : Int) + 1) (by rw [e2]; simp)
    refine ⟨e1.trans im, ⟨jf, by simp only; omega, ?_⟩, ib⟩
    rw [show ((k : Int) + 1).toNat = k + 1 by omega] at q3
    simp only; rw [q3, ← e3]; simp
  unfold OkI at hg
  rcases hg with e | ⟨e, ha, hb⟩ | ⟨e, ha, hb, hl⟩ | ⟨e, ha, hb, hab, hl⟩ | ⟨e, ha, hb, hab, hl⟩ | ⟨e, hl⟩ | ⟨e, hl⟩ | ⟨e, ha⟩ | ⟨e, ha, hl⟩ | ⟨e, ha, hb, hc⟩ | ⟨e, hl⟩ | e | ⟨e, hl⟩
  all_goals try simp only at *
  · rw [show tkS s f x = some (0, 1) by simp [tkS, e]] at h1; cases h1
    simp only [stepI, e, Int.reduceEq, if_true, if_false, SM.setL] at hn ⊢
    exact ok _ _ _ _ rfl (by simp [nextL, e]) (by simp)
  · rw [show tkS s f x = some (0, 1) by simp [tkS, e]] at h1; cases h1
    simp only [stepI, e, Int.reduceEq, if_true, if_false, SM.setL] at hn ⊢
    exact ok _ _ _ _ rfl (by simp [nextL, e]) (by simp)
  · rw [show tkS s f x = some (1, 0) by simp [tkS, e]] at h1; cases h1
    simp only [stepI, e, Int.reduceEq, if_true, if_false, SM.setL] at hn ⊢
    exact ok _ _ _ _ (by simp) (by simp [nextL, e]) (by simp; omega)
  · rw [show tkS s f x = some (1, 1) by simp [tkS, e]] at h1; cases h1
    simp only [stepI, e, Int.reduceEq, if_true, if_false, SM.setL] at hn ⊢
    by_cases hx : L.headD 0 < x.b
    · rw [if_pos hx]; exact ok _ _ _ _ rfl (by simp [nextL, e]) (by simp; omega)
    · rw [if_neg hx] at hn; simp at hn
  · rw [show tkS s f x = some (2, 0) by simp [tkS, e]] at h1; cases h1
    simp only [stepI, e, Int.reduceEq, if_true, if_false, SM.setL] at hn ⊢
    by_cases hx : L.tail.headD 0 < x.b
    · rw [if_pos hx]; exact ok _ _ _ _ (by simp) (by simp [nextL, e]) (by simp; omega)
    · rw [if_neg hx] at hn; simp at hn
  · rw [show tkS s f x = some (2, 1) by simp [tkS, e]] at h1; cases h1
    simp only [stepI, e, Int.reduceEq, if_true, if_false, SM.setL] at hn ⊢
    by_cases hx : (applyW x.a (L.tail.headD 0) (L.headD 0)).2 = 0
    · rw [if_pos hx]; exact ok _ _ _ _ rfl (by simp [nextL, e]) (by simp; omega)
    · rw [if_neg hx] at hn; simp at hn
  · rw [show tkS s f x = some (1, 1) by simp [tkS, e]] at h1; cases h1
    simp only [stepI, e, Int.reduceEq, if_true, if_false, SM.setL] at hn ⊢
    exact ok _ _ _ _ rfl (by simp [nextL, e]) (by simp; omega)
  · rw [show tkS s f x = some (0, 0) by simp [tkS, e]] at h1; cases h1
    simp only [stepI, e, Int.reduceEq, if_true, if_false, SM.jump] at hn ⊢
    obtain ⟨q1, q2, q3⟩ := h5 x.a (by simp [nextL, e])
    exact ⟨im, ⟨jf, by simp only; omega, by simp only; rw [q3]; simp⟩, ib⟩
  · rw [show tkS s f x = some (1, 0) by simp [tkS, e]] at h1; cases h1
    simp only [stepI, e, Int.reduceEq, if_true, if_false, SM.jump, SM.setL] at hn ⊢
    by_cases hx : L.headD 0 = 0
    · rw [if_pos hx]
      obtain ⟨q1, q2, q3⟩ := h5 x.a (by simp [nextL, e])
      exact ⟨im, ⟨jf, by simp only; omega, by simp only; rw [q3]; simp; omega⟩, ib⟩
    · rw [if_neg hx]
      obtain ⟨q1, q2, q3⟩ := h5 ((k : Int) + 1) (by simp [nextL, e])
      rw [show ((k : Int) + 1).toNat = k + 1 by omega] at q3
      exact ⟨im, ⟨jf, by simp only; omega, by simp only; rw [q3]; simp; omega⟩, ib⟩
  · rw [show tkS s f x = some ((s.fn x.a.toNat).params, ((cntB (s.fn x.a.toNat).word : Nat) : Int)) by simp [tkS, e, ha, hb]] at h1; cases h1
    simp only [stepI, e, Int.reduceEq, if_true, if_false, SM.call] at hn ⊢
    have hgl : x.a.toNat < s.funcs.length := by omega
    have hz := (hD x.a.toNat hgl).zero
    have hne := (hD x.a.toNat hgl).ne
    obtain ⟨q1, q2, q3⟩ := h5 ((k : Int) + 1) (by simp [nextL, e])
    rw [show ((k : Int) + 1).toNat = k + 1 by omega] at q3
    refine ⟨?_, ⟨hgl, ?_, ?_⟩, ⟨jf, by simp only; omega, ?_⟩, ib⟩
    · simp only
      rw [← im]
      refine putR_length ?_
      rw [ownW_length hc rfl]
      have := hc.fs; have := hc.f0; have := hc.p0; have := hc.ps
      omega
    · simp only
      cases hcd : (s.fn x.a.toNat).code with
      | nil => exact absurd hcd hne
      | cons a l => simp
    · simp only; rw [hz]; simp
    · simp only; rw [q3]
      have := hc.deep
      simp only [List.length_drop]; omega
  · simp only [stepI, e, Int.reduceEq, if_true, if_false, SM.ret] at hn ⊢
    cases below with
    | nil => simp at hn
    | cons c rest =>
      simp only at hn ⊢
      obtain ⟨⟨b1, b2, b3⟩, b4⟩ := ib
      refine ⟨im, ⟨b1, b2, ?_⟩, b4⟩
      simp only; rw [b3]
      cases (s.fn f).word <;> simp [cntB] <;> omega
  · rw [show tkS s f x = some (0, 1) by simp [tkS, e]] at h1; cases h1
    simp only [stepI, e, Int.reduceEq, if_true, if_false, SM.setL] at hn ⊢
    by_cases hx : rd < inp.size
    · rw [if_pos hx]; exact ok _ _ _ _ rfl (by simp [nextL, e]) (by simp)
    · rw [if_neg hx]; exact ok _ _ _ _ rfl (by simp [nextL, e]) (by simp)
  · rw [show tkS s f x = some (1, 0) by simp [tkS, e]] at h1; cases h1
    simp only [stepI, e, Int.reduceEq, if_true, if_false, SM.setL] at hn ⊢
    exact ok _ _ _ _ rfl (by simp [nextL, e]) (by simp; omega)

theorem runS_good {s : SP} (hR : RightP s) (inp : ByteArray) : ∀ k, (runS s inp (startS s) k).fin = 0 → Good s (runS s inp (startS s) k) := by
  have hD : ∃ D : Nat → List Int, ∀ f, f < s.funcs.length → Sol s f (D f) := by
    refine ⟨fun f => if h : f < s.funcs.length then Classical.choose (hR.fn f h).sol else [], fun f hf => ?_⟩
    simp only [hf, dif_pos]
    exact Classical.choose_spec (hR.fn f hf).sol
  obtain ⟨D, hD⟩ := hD
  have hn0 := hR.n0
  have main : ∀ k, (runS s inp (startS s) k).fin = 0 → InvS s D (runS s inp (startS s) k) := by
    intro k
    induction k with
    | zero =>
      intro _
      have hl : s.funcs.length - 1 < s.funcs.length := by omega
      have hs := hD _ hl
      refine ⟨by simp [runS, startS], ⟨hl, ?_, ?_⟩, hR.lw⟩
      · show 0 < (s.fn (s.funcs.length - 1)).code.length
        cases hcd : (s.fn (s.funcs.length - 1)).code with
        | nil => exact absurd hcd hs.ne
        | cons a l => simp
      · show (D (s.funcs.length - 1)).getD 0 (-1) = _
        rw [hs.zero]; rfl
    | succ k ih =>
      intro h1
      by_cases h0 : (runS s inp (startS s) k).fin = 0
      · exact inv_step hR hD (ih h0) h0 h1
      · have : runS s inp (startS s) (k + 1) = runS s inp (startS s) k := runS_fin h0 1
        rw [this] at h1; exact absurd h1 h0
  exact fun k hk => inv_good hR hD (main k hk)
end Go.Proofs.Ytdfdkoajphcjbaa
