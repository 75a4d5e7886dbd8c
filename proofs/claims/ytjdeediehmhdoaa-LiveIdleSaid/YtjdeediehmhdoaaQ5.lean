/-
  Two runs of blocks whose registers agree where they matter: instructions, one by one; a register that does not matter set ahead of a block, plainly. No condition. A function whose block begins with one more instruction, as cells. No condition. A register that does not matter ahead of a block may have any value there, plainly; a program of one function of the call's own. No condition. LiveIdle: the row. No condition.
-/
import Derived.Test.YtjdeediehmhdoaaQ4
namespace Go.Proofs.Ytjdeediehmhdoaa
set_option linter.unusedSimpArgs false
set_option linter.unusedVariables false
open Go.V

theorem opF_len (call : Nat → Bst → Bst) (inp : ByteArray) (t : Tac) (rg : List Int) (σ : Bst) : (opF call inp t rg σ).1.length = rg.length := by
  unfold opF
  by_cases h1 : t.op = 1
  · rw [if_pos h1]
    exact sR_len _ _ _
  rw [if_neg h1]
  by_cases h2 : t.op = 2
  · rw [if_pos h2]
    exact sR_len _ _ _
  rw [if_neg h2]
  by_cases h3 : t.op = 3
  · rw [if_pos h3]
    by_cases hc : (applyW t.k (gR rg t.a) (gR rg t.b)).2 = 0
    · rw [if_pos hc]; exact sR_len _ _ _
    · rw [if_neg hc]; try rfl
  rw [if_neg h3]
  by_cases h4 : t.op = 4
  · rw [if_pos h4]
    exact sR_len _ _ _
  rw [if_neg h4]
  by_cases h5 : t.op = 5
  · rw [if_pos h5]
    try rfl
  rw [if_neg h5]
  by_cases h6 : t.op = 6
  · rw [if_pos h6]
    by_cases hc : gR rg t.a < t.size
    · rw [if_pos hc]; exact sR_len _ _ _
    · rw [if_neg hc]; try rfl
  rw [if_neg h6]
  by_cases h7 : t.op = 7
  · rw [if_pos h7]
    by_cases hc : gR rg t.a < t.size
    · rw [if_pos hc]; try rfl
    · rw [if_neg hc]; try rfl
  rw [if_neg h7]
  by_cases h8 : t.op = 8
  · rw [if_pos h8]
    by_cases hc : σ.rd < inp.size
    · rw [if_pos hc]; exact sR_len _ _ _
    · rw [if_neg hc]; exact sR_len _ _ _
  rw [if_neg h8]
  by_cases h9 : t.op = 9
  · rw [if_pos h9]
    by_cases hc : 65536 ≤ σ.out.length
    · rw [if_pos hc]; try rfl
    · rw [if_neg hc]; try rfl
  rw [if_neg h9]
  by_cases h10 : t.op = 10
  · rw [if_pos h10]
    try rfl
  rw [if_neg h10]
theorem opF_st (call : Nat → Bst → Bst) (inp : ByteArray) (t : Tac) (rg : List Int) (σ : Bst) (h : t.op ≠ 10) : (opF call inp t rg σ).2.st = σ.st := by
  unfold opF
  by_cases h1 : t.op = 1
  · rw [if_pos h1]
    try rfl
  rw [if_neg h1]
  by_cases h2 : t.op = 2
  · rw [if_pos h2]
    try rfl
  rw [if_neg h2]
  by_cases h3 : t.op = 3
  · rw [if_pos h3]
    by_cases hc : (applyW t.k (gR rg t.a) (gR rg t.b)).2 = 0
    · rw [if_pos hc]; try rfl
    · rw [if_neg hc]; try rfl
  rw [if_neg h3]
  by_cases h4 : t.op = 4
  · rw [if_pos h4]
    try rfl
  rw [if_neg h4]
  by_cases h5 : t.op = 5
  · rw [if_pos h5]
    try rfl
  rw [if_neg h5]
  by_cases h6 : t.op = 6
  · rw [if_pos h6]
    by_cases hc : gR rg t.a < t.size
    · rw [if_pos hc]; try rfl
    · rw [if_neg hc]; try rfl
  rw [if_neg h6]
  by_cases h7 : t.op = 7
  · rw [if_pos h7]
    by_cases hc : gR rg t.a < t.size
    · rw [if_pos hc]; try rfl
    · rw [if_neg hc]; try rfl
  rw [if_neg h7]
  by_cases h8 : t.op = 8
  · rw [if_pos h8]
    by_cases hc : σ.rd < inp.size
    · rw [if_pos hc]; try rfl
    · rw [if_neg hc]; try rfl
  rw [if_neg h8]
  by_cases h9 : t.op = 9
  · rw [if_pos h9]
    by_cases hc : 65536 ≤ σ.out.length
    · rw [if_pos hc]; try rfl
    · rw [if_neg hc]; try rfl
  rw [if_neg h9]
  by_cases h10 : t.op = 10
  · rw [if_pos h10]
    exact absurd h10 h
  rw [if_neg h10]
theorem insF_len (call : Nat → Bst → Bst) (inp : ByteArray) (fuel : Nat) : ∀ (l : List Tac) (rg : List Int) (σ : Bst), (insF call inp fuel l rg σ).1.length = rg.length
  | [], _, _ => rfl
  | t :: l, rg, σ => by
    rw [insF_cons]
    split
    · rfl
    · split
      · rw [insF_len call inp fuel l, opF_len]
      · rw [opF_len]

/-- What is set behind each instruction stands apart from what matters there. -/
def Apart (to : Nat → Nat) (m : Nat) (M : Nat → Bool) : List Tac → Prop
  | [] => True
  | t :: l => (SetsT t → ∀ u < m, thru1 l u (M u) = true → u ≠ t.d.toNat → to u ≠ to t.d.toNat) ∧ Apart to m M l

theorem ins_sim {call call' : Nat → Bst → Bst} {inp : ByteArray} {fuel fuel' c : Nat} {to : Nat → Nat} {m m' : Nat} {M : Nat → Bool} (hto : ∀ u < m, to u < m') :
    ∀ (l : List Tac) (rg rg' : List Int) (σ τ : Bst), (∀ t ∈ l, RegT t m ∧ 1 ≤ t.op ∧ t.op ≤ 10) → rg.length = m → rg'.length = m' → Eqv σ τ → σ.en = 0 → τ.st = σ.st + c →
    (∀ t ∈ l, t.op = 10 → ∀ σ τ, Eqv σ τ → σ.en = 0 → τ.st = σ.st + c → Eqv (call t.base.toNat σ) (call' t.base.toNat τ) ∧ (call' t.base.toNat τ).st = (call t.base.toNat σ).st + c) →
    Apart to m M l → Agr to m (fun u => thru1 l u (M u)) rg rg' → ((fuel' = fuel ∧ c = 0) ∨ ((insF call inp fuel l rg σ).2.en ≠ 5 ∧ fuel + c ≤ fuel')) →
    ((insF call inp fuel l rg σ).2.en = 0 → Agr to m M (insF call inp fuel l rg σ).1 (insF call' inp fuel' (l.map (renT to)) rg' τ).1) ∧
      Eqv (insF call inp fuel l rg σ).2 (insF call' inp fuel' (l.map (renT to)) rg' τ).2 ∧ (insF call' inp fuel' (l.map (renT to)) rg' τ).2.st = (insF call inp fuel l rg σ).2.st + c
  | [], rg, rg', σ, τ, _, _, _, he, _, hs, _, _, ha, _ => ⟨fun _ => ha, he, hs⟩
  | t :: l, rg, rg', σ, τ, ht, hr, hr', he, h0, hs, hc, hd, ha, hf => by
    have ht1 := ht t (by simp)
    have hc1 := hc t (by simp)
    simp only [List.map_cons]
    rw [insF_cons] at hf ⊢
    rw [insF_cons]
    by_cases h1 : fuel ≤ σ.st
    · have h2 : fuel' ≤ τ.st := by
        rcases hf with ⟨h, h'⟩ | ⟨h, _⟩
        · omega
        · rw [if_pos h1] at h; exact absurd rfl h
      rw [if_pos h1, if_pos h2]
      exact ⟨fun h => by simp at h, he.end_ 5, hs⟩
    · have h2 : ¬ fuel' ≤ τ.st := by
        rcases hf with ⟨h, h'⟩ | ⟨_, h⟩ <;> omega
      rw [if_neg h1] at hf ⊢
      rw [if_neg h2]
      obtain ⟨g1, g2⟩ := op_sim (call := call) (call' := call') (inp := inp) (σ := { σ with st := σ.st + 1 }) (τ := { τ with st := τ.st + 1 }) (M := fun u => thru1 l u (M u)) ht1.1 ht1.2 hr hr' hto (he.stp _ _)
        (fun e => (hc1 e { σ with st := σ.st + 1 } { τ with st := τ.st + 1 } (he.stp _ _) h0 (by show τ.st + 1 = σ.st + 1 + c; omega)).1) hd.1 ha
      have g3 : (opF call' inp (renT to t) rg' { τ with st := τ.st + 1 }).2.st = (opF call inp t rg { σ with st := σ.st + 1 }).2.st + c := by
        by_cases e : t.op = 10
        · have := (hc1 e { σ with st := σ.st + 1 } { τ with st := τ.st + 1 } (he.stp _ _) h0 (by show τ.st + 1 = σ.st + 1 + c; omega)).2
          have e' : (renT to t).op = 10 := e
          unfold opF
          simp only [e, e', Int.reduceEq, if_true, if_false]
          exact this
        · rw [opF_st _ _ _ _ _ e, opF_st _ _ (renT to t) _ _ e]
          show τ.st + 1 = σ.st + 1 + c
          omega
      have hl1 := opF_len call inp t rg { σ with st := σ.st + 1 }
      have hl2 := opF_len call' inp (renT to t) rg' { τ with st := τ.st + 1 }
      generalize opF call inp t rg { σ with st := σ.st + 1 } = p at *
      generalize opF call' inp (renT to t) rg' { τ with st := τ.st + 1 } = p' at *
      by_cases e : p.2.en = 0
      · rw [if_pos e] at hf ⊢
        rw [if_pos (by rw [← g2.en]; exact e)]
        exact ins_sim hto l p.1 p'.1 p.2 p'.2 (fun t h => ht t (by simp [h])) (by rw [hl1]; exact hr) (by rw [hl2]; exact hr') g2 e g3 (fun t h => hc t (by simp [h])) hd.2 (g1 e) hf
      · rw [if_neg e]
        rw [if_neg (by rw [← g2.en]; exact e)]
        exact ⟨fun h => absurd h e, g2, g3⟩

theorem renT_id {t : Tac} {n : Int} (h : RegT t n) : renT (fun u => u) t = t := by
  obtain ⟨op, d, a, b, k, base, size, nn⟩ := t
  obtain ⟨h1, h2⟩ := h
  unfold renT
  have e1 : (if SetsT ⟨op, d, a, b, k, base, size, nn⟩ then ((d.toNat : Nat) : Int) else d) = d := by
    split
    · rename_i h; have := h2 h; simp only at this; omega
    · rfl
  have hu : ∀ u ∈ usesL ⟨op, d, a, b, k, base, size, nn⟩, ((u.toNat : Nat) : Int) = u := fun u hu => by have := h1 u hu; omega
  have e2 : (if (usesL ⟨op, d, a, b, k, base, size, nn⟩).length = 0 then a else ((a.toNat : Nat) : Int)) = a := by
    split
    · rfl
    · rename_i h; refine hu a ?_
      unfold usesL at h ⊢
      simp only at h ⊢
      split <;> (try split) <;> simp_all
  have e3 : (if (usesL ⟨op, d, a, b, k, base, size, nn⟩).length = 2 then ((b.toNat : Nat) : Int) else b) = b := by
    split
    · rename_i h; refine hu b ?_
      unfold usesL at h ⊢
      simp only at h ⊢
      split <;> (try split) <;> simp_all
    · rfl
  simp only [e1, e2, e3]
theorem apart_id (m : Nat) (M : Nat → Bool) : ∀ l, Apart (fun u => u) m M l
  | [] => trivial
  | t :: l => ⟨fun _ u _ _ h => h, apart_id m M l⟩

/-- A block with a register set ahead of it. -/
def idleF (f : BF) (b v : Nat) (n : Int) : BF := ⟨f.regs, f.bks.set b { f.bk b with ins := ⟨1, v, 0, 0, 0, 0, 0, n⟩ :: (f.bk b).ins }⟩

theorem blk_out {call : Nat → Bst → Bst} {inp : ByteArray} {fuel : Nat} {f : BF} (g i : Nat) (rg : List Int) {σ : Bst} (h : fuel ≤ σ.st) (h0 : σ.en = 0) : (blkF call inp fuel f (g + 1) i rg σ).en = 5 := by
  rw [blkF_succ]
  cases hl : (f.bks.getD i default).ins with
  | nil => simp only [insF, h0, if_true, if_pos h]
  | cons t l =>
    rw [insF_cons, if_pos h]
    simp

theorem idle_blk {inp : ByteArray} {fuel fuel' : Nat} {f : BF} {L : LD} {call : Nat → Bst → Bst} (hf : Fine f) (hL : ClosedP f L) (hfit : ∀ b ∈ f.bks, ∀ t ∈ b.ins, FitsT t 0 f.r 16 ∧ In32 t.n) (h123 : ∀ b ∈ f.bks, b.e = 1 ∨ b.e = 2 ∨ b.e = 3) {b v : Nat} (hb : b < f.n) (hv : v < f.r) (hbv : L.I b v = false) (n : Int) (h2f : 2 * fuel ≤ fuel') :
    ∀ (g g' i : Nat) (rg rg' : List Int) (σ τ : Bst), i < f.n → WfR f.r rg → rg'.length = f.r → WfB inp fuel 16 σ → Eqv σ τ → σ.en = 0 → σ.st ≤ τ.st → τ.st ≤ 2 * σ.st → fuel < g + σ.st → fuel' < g' + τ.st →
      Agr (fun u => u) f.r (fun u => L.I i u) rg rg' → (blkF call inp fuel f g i rg σ).en ≠ 5 → Eqv (blkF call inp fuel f g i rg σ) (blkF call inp fuel' (idleF f b v n) g' i rg' τ)
  | 0, _, _, _, _, σ, _, _, _, _, hw, _, _, _, _, hg, _, _, _ => absurd hw.s (by omega)
  | g + 1, 0, _, _, _, σ, τ, _, _, _, hw, _, _, _, _, _, hg', _, _ => by have := hw.s; omega
  | g + 1, g' + 1, i, rg, rg', σ, τ, hi, hr, hr', hw, he, h0, hs1, hs2, hg, hg', ha, h5 => by
    have hlt : σ.st < fuel := by
      rcases Nat.lt_or_ge σ.st fuel with h | h
      · exact h
      · exact absurd (blk_out g i rg h h0) h5
    have hmi := BF.mem hi
    have hft := hfit _ hmi
    have hregs : (f.r : Int) = f.regs := by have := hf.r0; unfold BF.r; omega
    have hrt : ∀ t ∈ (f.bk i).ins, RegT t f.r ∧ 1 ≤ t.op ∧ t.op ≤ 10 := fun t ht => by
      have h1 := (hft t ht).1
      exact ⟨by have := hf.ins _ hmi t ht; rw [hregs]; exact this, h1.1, h1.2.1⟩
    have hno : ∀ t ∈ (f.bk i).ins, t.op ≠ 10 := fun t ht e => by
      have h1 := (hft t ht).1.2.2.2.2.2.2.2
      unfold restT at h1
      rw [e] at h1
      simp only [Int.reduceEq, if_false, if_true, or_self] at h1
      omega
    have hid : (f.bk i).ins.map (renT fun u => u) = (f.bk i).ins := by
      conv => rhs; rw [← List.map_id (f.bk i).ins]
      exact List.map_congr_left fun t ht => renT_id (hrt t ht).1
    -- what the block does, from registers that agree ahead of its own instructions
    have key : ∀ (rg' : List Int) (τ : Bst) (c : Nat), rg'.length = f.r → Eqv σ τ → τ.st = σ.st + c → fuel + c ≤ fuel' → c ≤ σ.st + 1 → Agr (fun u => u) f.r (fun u => L.I i u) rg rg' → fuel' < g' + 1 + τ.st →
        Eqv (blkF call inp fuel f (g + 1) i rg σ)
          (if (insF call inp fuel' (f.bk i).ins rg' τ).2.en = 0 then
            (if fuel' ≤ (insF call inp fuel' (f.bk i).ins rg' τ).2.st then { (insF call inp fuel' (f.bk i).ins rg' τ).2 with en := 5 }
            else if (f.bk i).e = 3 then { (insF call inp fuel' (f.bk i).ins rg' τ).2 with st := (insF call inp fuel' (f.bk i).ins rg' τ).2.st + 1 }
            else blkF call inp fuel' (idleF f b v n) g' (goB (f.bk i) (insF call inp fuel' (f.bk i).ins rg' τ).1).toNat (insF call inp fuel' (f.bk i).ins rg' τ).1
              { (insF call inp fuel' (f.bk i).ins rg' τ).2 with st := (insF call inp fuel' (f.bk i).ins rg' τ).2.st + 1 })
          else (insF call inp fuel' (f.bk i).ins rg' τ).2) := by
      intro rg' τ c hr' he hs hfc hcs ha hg'
      have hbk : f.bks.getD i default = f.bk i := rfl
      obtain ⟨w1, w2, w3⟩ := insF_wf (call := call) (inp := inp) (fuel := fuel) (k := 0) (fun i hi => absurd hi (Nat.not_lt_zero i)) (f.bk i).ins rg σ hft hr hw h0
      have hAg : Agr (fun u => u) f.r (fun u => thru1 (f.bk i).ins u (last1 (f.bk i) u (L.O i u))) rg rg' := fun u hu h => ha u hu (hL.cl.ahead i hi u hu h)
      have h5' := h5
      rw [blkF_succ] at h5' ⊢
      rw [hbk] at h5' ⊢
      have hne : (insF call inp fuel (f.bk i).ins rg σ).2.en ≠ 5 := fun e => by
        rw [if_neg (by rw [e]; decide)] at h5'
        exact h5' e
      obtain ⟨s1, s2, s3⟩ := ins_sim (call := call) (call' := call) (inp := inp) (fuel := fuel) (fuel' := fuel') (c := c) (to := fun u => u) (m := f.r) (m' := f.r) (M := fun u => last1 (f.bk i) u (L.O i u)) (fun u h => h) (f.bk i).ins rg rg' σ τ hrt hr.n hr' he h0 hs
        (fun t ht e => absurd e (hno t ht)) (apart_id _ _ _) hAg (.inr ⟨hne, hfc⟩)
      rw [hid] at s1 s2 s3
      generalize insF call inp fuel (f.bk i).ins rg σ = p at *
      have hl' : (insF call inp fuel' (f.bk i).ins rg' τ).1.length = f.r := by
        rw [insF_len]; exact hr'
      generalize insF call inp fuel' (f.bk i).ins rg' τ = p' at *
      by_cases e : p.2.en = 0
      · have e' : p'.2.en = 0 := by rw [← s2.en]; exact e
        rw [if_pos e] at h5' ⊢
        rw [if_pos e']
        by_cases e2 : fuel ≤ p.2.st
        · rw [if_pos e2] at h5'; exact absurd rfl h5'
        rw [if_neg e2] at h5' ⊢
        rw [if_neg (show ¬ fuel' ≤ p'.2.st by omega)]
        by_cases e3 : (f.bk i).e = 3
        · rw [if_pos e3, if_pos e3]; exact s2.stp _ _
        rw [if_neg e3] at h5' ⊢
        rw [if_neg e3]
        have hag := s1 e
        have hgo : goB (f.bk i) p'.1 = goB (f.bk i) p.1 := by
          unfold goB
          by_cases e4 : (f.bk i).e = 2
          · have hvv := hf.v _ hmi e4
            have := hag (f.bk i).v.toNat (by unfold BF.r; omega) (by show (if (f.bk i).e = 2 ∧ (f.bk i).v = (((f.bk i).v.toNat : Nat) : Int) then true else _) = true; rw [if_pos ⟨e4, by omega⟩])
            have e5 : gR p'.1 (f.bk i).v = gR p.1 (f.bk i).v := this.symm
            rw [e5]
          · simp [e4]
        have hnx : goB (f.bk i) p.1 ∈ nxt (f.bk i) := by
          have hee : (f.bk i).e = 1 ∨ (f.bk i).e = 2 := by
            have := h123 _ hmi
            omega
          unfold goB nxt
          rcases hee with e4 | e4
          · simp [e4]
          · simp only [e4, true_and, Int.reduceEq, if_false, if_true]
            split <;> simp
        rw [hgo]
        have hto := hf.to _ hmi _ hnx
        refine idle_blk hf hL hfit h123 hb hv hbv n h2f g g' _ p.1 p'.1 _ _ (by unfold BF.n; omega) w1 hl' ⟨w2.n, w2.w, w2.o, w2.r, by show p.2.st + 1 ≤ fuel; omega⟩ (s2.stp _ _) e (by show p.2.st + 1 ≤ p'.2.st + 1; omega) (by show p'.2.st + 1 ≤ 2 * (p.2.st + 1); omega) (by show fuel < g + (p.2.st + 1); omega) (by show fuel' < g' + (p'.2.st + 1); omega) ?_ h5'
        intro u hu h
        refine hag u hu ?_
        show (if (f.bk i).e = 2 ∧ (f.bk i).v = (u : Int) then true else L.O i u) = true
        split
        · rfl
        · exact hL.cl.way i hi _ hnx u hu h
      · rw [if_neg e, if_neg (by rw [← s2.en]; exact e)]
        exact s2
    by_cases hib : i = b
    · subst hib
      have hbk2 : (idleF f i v n).bks.getD i default = { f.bk i with ins := ⟨1, v, 0, 0, 0, 0, 0, n⟩ :: (f.bk i).ins } := by
        have : i < f.bks.length := hi
        simp [idleF, List.getD, this]
      have k1 := key (sR rg' v n) { τ with st := τ.st + 1 } (τ.st + 1 - σ.st) (by rw [sR_len]; exact hr') ⟨he.ws, he.out, he.rd, he.en⟩ (by show τ.st + 1 = _; omega) (by omega) (by omega) ?_ (by show fuel' < g' + 1 + (τ.st + 1); omega)
      · refine cast ?_ k1
        rw [show blkF call inp fuel' (idleF f i v n) (g' + 1) i rg' τ = _ from by rw [blkF_succ, hbk2]]
        have hins : insF call inp fuel' ({ f.bk i with ins := ⟨1, v, 0, 0, 0, 0, 0, n⟩ :: (f.bk i).ins } : Bk).ins rg' τ = insF call inp fuel' (f.bk i).ins (sR rg' v n) { τ with st := τ.st + 1 } := by
          show insF call inp fuel' (⟨1, v, 0, 0, 0, 0, 0, n⟩ :: (f.bk i).ins) rg' τ = _
          rw [insF_cons, if_neg (show ¬ fuel' ≤ τ.st by omega)]
          simp only [opF, if_true]
          rw [if_pos (by rw [← he.en]; exact h0)]
        rw [hins]
        rfl
      · intro u hu h
        have hne : v ≠ u := fun e => by subst e; have h' : L.I i v = true := h; rw [hbv] at h'; cases h'
        unfold sR
        rw [Int.toNat_natCast, getD_set _ _ _ _ (by rw [hr']; exact hu), if_neg hne]
        exact ha u hu h
    · have hbk2 : (idleF f b v n).bks.getD i default = f.bk i := by
        simp only [idleF, List.getD]
        rw [List.getElem?_set, if_neg (fun e => hib e.symm)]; rfl
      have k1 := key rg' τ (τ.st - σ.st) hr' he (by omega) (by omega) (by omega) ha (by omega)
      refine cast ?_ k1
      rw [show blkF call inp fuel' (idleF f b v n) (g' + 1) i rg' τ = _ from by rw [blkF_succ, hbk2]]
end Go.Proofs.Ytjdeediehmhdoaa
namespace Go.Proofs.Ytjdeediehmhdoaa
set_option linter.unusedSimpArgs false
set_option linter.unusedVariables false
open Go.V

abbrev bkZ (p : AV × Bk) : List AV := [p.1, I p.2.e, I p.2.v, I p.2.to, I p.2.el]
theorem flat_bk (w : AV) (X : List Tac) : ∀ (l : List Bk) (b : Nat), b < l.length →
    ((l.map bkL).flatten).set (b * 5) w = ((((l.map fun k => inA k.ins).set b w).zip (l.set b { l.getD b default with ins := X })).map bkZ).flatten
  | [], b, h => by simp at h
  | k :: l, 0, h => by
    simp only [List.map_cons, List.flatten_cons, Nat.zero_mul, List.cons_append, List.set_cons_zero, List.zip_cons_cons, List.getD_cons_zero, List.nil_append]
    congr 5
    have : ∀ (l : List Bk), (l.map bkL) = ((l.map fun k => inA k.ins).zip l).map bkZ := by
      intro l
      induction l with
      | nil => rfl
      | cons k l ih => simp only [List.map_cons, List.zip_cons_cons, ih]
    rw [this]
  | k :: l, b + 1, h => by
    have ih := flat_bk w X l b (by simpa using h)
    simp only [List.map_cons, List.flatten_cons, List.set_cons_succ, List.zip_cons_cons, List.getD_cons_succ]
    rw [List.set_append_right _ _ (by simp only [List.length_cons, List.length_nil]; omega)]
    rw [show (b + 1) * 5 - (bkL k).length = b * 5 by simp only [List.length_cons, List.length_nil]; omega, ih]

theorem frz_idle {H : List VObj} {nx id s len : Nat} {ob : VObj} {f : BF} {b v : Nat} {n : Int} {w : AV} (hb : b < f.n) (hw : Frz 0 H nx w (inA (⟨1, v, 0, 0, 0, 0, 0, n⟩ :: (f.bk b).ins))) (ho : H[id]? = some ob) (hs : ob.s = s) (hz : ob.sz = 5)
    (hcs : ob.cs = ((f.bks.map bkL).flatten).set (b * 5) w) (hl : len = f.bks.length) : Frz 0 H nx (.ref id s 0 len) (bksA (idleF f b v n).bks) := by
  have hb' : b < f.bks.length := hb
  refine frz_bks (idleF f b v n).bks ((f.bks.map fun k => inA k.ins).set b w) (by simp [idleF]) (fun i hi => ?_) ho hs hz ?_ (by simp [idleF, hl])
  · have hi' : i < f.bks.length := by simpa [idleF] using hi
    by_cases e : b = i
    · subst e
      have e1 : ((f.bks.map fun k => inA k.ins).set b w).getD b .dead = w := by simp [List.getD, hb']
      have e2 : ((idleF f b v n).bks.getD b default).ins = ⟨1, v, 0, 0, 0, 0, 0, n⟩ :: (f.bk b).ins := by simp [idleF, List.getD, hb']
      rw [e1, e2]; exact hw
    · have e1 : ((f.bks.map fun k => inA k.ins).set b w).getD i .dead = inA (f.bks.getD i default).ins := by
        simp only [List.getD]; rw [List.getElem?_set, if_neg e, List.getElem?_map, List.getElem?_eq_getElem hi']; rfl
      have e2 : (idleF f b v n).bks.getD i default = f.bks.getD i default := by
        simp only [idleF, List.getD]; rw [List.getElem?_set, if_neg e]
      rw [e1, e2]; exact Frz.pure rfl
  · rw [hcs, flat_bk w (⟨1, v, 0, 0, 0, 0, 0, n⟩ :: (f.bk b).ins) f.bks b hb']; rfl
end Go.Proofs.Ytjdeediehmhdoaa
namespace Go.Proofs.Ytjdeediehmhdoaa
set_option linter.unusedSimpArgs false
set_option linter.unusedVariables false
open Go.V

theorem one_intro {f : BF} {number words : Int} (h0 : 0 ≤ f.regs) (h1 : f.regs ≤ 4000) (h2 : f.bks ≠ []) (h : ∀ b ∈ f.bks, EndsP b f.bks.length f.regs ∧ ∀ t ∈ b.ins, FitsT t number f.regs words) : oneB f number words = true := by
  unfold oneB
  simp only [Bool.and_eq_true, decide_eq_true_eq, List.all_eq_true]
  refine ⟨⟨h0, h1, h2⟩, fun b hb => ?_⟩
  unfold blkB endsB insB fitsT
  simp only [Bool.and_eq_true, decide_eq_true_eq, List.all_eq_true]
  exact h b hb
theorem mem_set {α : Type} [Inhabited α] {l : List α} {i : Nat} {x y : α} (h : y ∈ l.set i x) : y ∈ l ∨ y = x := List.mem_or_eq_of_mem_set h

theorem idle_ok {f : BF} {b v : Nat} {n : Int} (h1 : oneB f 0 16 = true) (hl : ∀ b ∈ f.bks, b.ins.length ≤ 1000) (hw : ∀ b ∈ f.bks, ∀ t ∈ b.ins, In32 t.n) (hb : b < f.n) (hv : (v : Int) < f.regs) (hn : In32 n) : FnsOk [f] 16 ∧ FnsOk [idleF f b v n] 16 := by
  obtain ⟨p1, p2, p3, p4⟩ := one_parts h1
  have hbm := BF.mem hb
  have hmem : ∀ k ∈ (idleF f b v n).bks, k ∈ f.bks ∨ k = { f.bk b with ins := ⟨1, v, 0, 0, 0, 0, 0, n⟩ :: (f.bk b).ins } := fun k hk => List.mem_or_eq_of_mem_set hk
  have hlen : (idleF f b v n).bks.length = f.bks.length := by simp [idleF]
  refine ⟨⟨fun i hi => ?_, fun g hg k hk => ?_, fun g hg k hk => ?_⟩, ⟨fun i hi => ?_, fun g hg k hk => ?_, fun g hg k hk => ?_⟩⟩
  · have : i = 0 := by simpa using hi
    subst this; exact h1
  · rw [List.mem_singleton] at hg; subst hg; have := hl k hk; omega
  · rw [List.mem_singleton] at hg; subst hg; exact hw k hk
  · have : i = 0 := by simpa using hi
    subst this
    refine one_intro p1 p2 (fun e => ?_) fun k hk => ?_
    · have : (idleF f b v n).bks.length = 0 := by
        have e' : (idleF f b v n).bks = [] := e
        rw [e']; rfl
      rw [hlen] at this
      exact p3 (List.length_eq_zero_iff.1 this)
    · show EndsP k ((idleF f b v n).bks.length : Int) f.regs ∧ ∀ t ∈ k.ins, FitsT t 0 f.regs 16
      rw [hlen]
      rcases hmem k hk with h | h
      · exact p4 k h
      · obtain ⟨q1, q2⟩ := p4 _ hbm
        rw [h]
        refine ⟨q1, fun t ht => ?_⟩
        rcases List.mem_cons.1 ht with rfl | ht
        · simp only [FitsT, usesL, SetsT, restT, Int.reduceEq, or_false, or_true, false_or, true_or, or_self, if_true, if_false, List.not_mem_nil, false_implies, implies_true, List.length_nil, forall_const, and_true, true_and]
          omega
        · exact q2 t ht
  · rw [List.mem_singleton] at hg; subst hg
    rcases hmem k hk with h | h
    · have := hl k h; omega
    · rw [h]; have := hl _ hbm; simp only [List.length_cons]; omega
  · rw [List.mem_singleton] at hg; subst hg
    rcases hmem k hk with h | h
    · exact hw k h
    · rw [h]
      intro t ht
      rcases List.mem_cons.1 ht with rfl | ht
      · exact hn
      · exact hw _ hbm t ht

theorem idle_res {f : BF} {L : LD} {b v : Nat} {n : Int} (inp : ByteArray) (hf : Fine f) (hL : ClosedP f L) (h1 : oneB f 0 16 = true) (hl : ∀ b ∈ f.bks, b.ins.length ≤ 1000) (hw : ∀ b ∈ f.bks, ∀ t ∈ b.ins, In32 t.n) (hb : b < f.n) (hv : v < f.r) (hn : In32 n) (hbv : L.I b v = false) :
    (resB ⟨16, [f]⟩ inp 200).en = 5 ∨ ((resB ⟨16, [f]⟩ inp 200).en = (resB ⟨16, [idleF f b v n]⟩ inp 400).en ∧ (resB ⟨16, [f]⟩ inp 200).out = (resB ⟨16, [idleF f b v n]⟩ inp 400).out) := by
  have hr0 := hf.r0
  have hrr : (f.r : Int) = f.regs := by unfold BF.r; omega
  obtain ⟨p1, p2, p3, p4⟩ := one_parts h1
  by_cases h5 : (finB ⟨16, [f]⟩ inp 200).en = 5
  · left
    unfold resB
    show (if _ then _ else _) = (5 : Int)
    rw [h5]; rfl
  right
  have hcall : funF [f] inp 200 0 = funF [idleF f b v n] inp 400 0 := by funext i σ; rfl
  have key := idle_blk (call := funF [f] inp 200 0) (inp := inp) (fuel := 200) (fuel' := 400) hf hL (fun k hk t ht => ⟨by rw [hrr]; exact (p4 k hk).2 t ht, hw k hk t ht⟩) (fun k hk => by
      have := (p4 k hk).1
      unfold EndsP at this
      by_cases e1 : k.e = 1
      · exact .inl e1
      · rw [if_neg e1] at this
        by_cases e2 : k.e = 2
        · exact .inr (.inl e2)
        · rw [if_neg e2] at this; exact .inr (.inr this.1)) hb hv hbv n (by omega) 201 401 0 (List.replicate f.r 0) (List.replicate f.r 0) (begB ⟨16, [f]⟩) (begB ⟨16, [f]⟩)
    (List.length_pos_iff.2 hf.b0) (rep_wf _) (by simp) ⟨by simp [begB], (rep_wf 16).w, by simp [begB], Nat.zero_le _, Nat.zero_le _⟩ (Eqv.refl _) rfl (Nat.le_refl _) (by show 0 ≤ 2 * 0; omega) (by show 200 < 201 + 0; omega) (by show 400 < 401 + 0; omega) (fun u hu _ => rfl) h5
  have e1 : finB ⟨16, [f]⟩ inp 200 = blkF (funF [f] inp 200 0) inp 200 f 201 0 (List.replicate f.r 0) (begB ⟨16, [f]⟩) := rfl
  have e2 : finB ⟨16, [idleF f b v n]⟩ inp 400 = blkF (funF [idleF f b v n] inp 400 0) inp 400 (idleF f b v n) 401 0 (List.replicate f.r 0) (begB ⟨16, [f]⟩) := rfl
  rw [hcall] at key
  rw [hcall] at e1
  rw [← e1, ← e2] at key
  unfold resB
  exact ⟨by show (if _ then _ else _) = (if _ then _ else _); rw [key.en], key.out⟩

theorem frz_own {H : List VObj} {nx id s : Nat} {ob : VObj} {f : BF} {w : AV} (hw : Frz 0 H nx w (bksA f.bks)) (ho : H[id]? = some ob) (hs : ob.s = s) (hz : ob.sz = 2) (hcs : ob.cs = [I f.regs, w]) : Frz 0 H nx (.ref id s 0 1) (.imm 2 [bfA f]) := by
  have h := Frz.refT (n := 0) (nx := nx) (len := 1) (yss := [[I f.regs, w]]) (zss := [[I f.regs, bksA f.bks]]) (Nat.zero_le _) ho hs hz (by rw [hcs]; rfl) (by intro l hl; rw [List.mem_singleton] at hl; subst hl; rfl) rfl ⟨_, _, rfl, ⟨_, _, rfl, Frz.pure rfl, _, _, rfl, hw, rfl⟩, rfl⟩
  exact h
theorem cells_bk : ∀ (l : List Bk), allCells (l.map bkA) = (l.map bkL).flatten
  | [] => rfl
  | b :: l => by simp only [List.map_cons, allCells, List.flatten_cons, cells_bk l]; rfl
theorem cells_tac : ∀ (l : List Tac), allCells (l.map tacA) = (l.map tacL).flatten
  | [] => rfl
  | b :: l => by simp only [List.map_cons, allCells, List.flatten_cons, cells_tac l]; rfl
theorem flat_len5 : ∀ (l : List Bk), ((l.map bkL).flatten).length = l.length * 5
  | [] => rfl
  | b :: l => by rw [List.map_cons, List.flatten_cons, List.length_append, flat_len5 l, List.length_cons]; simp only [List.length_cons, List.length_nil]; omega
end Go.Proofs.Ytjdeediehmhdoaa
namespace Go.Proofs.Ytjdeediehmhdoaa
set_option linter.unusedSimpArgs false
set_option linter.unusedVariables false
set_option maxRecDepth 10000
open Go.V Go.ChangeShapes Go.WideShapes Go.ChangeAt Go.RowKit

theorem tmod_nat {b : Int} {m : Nat} (h0 : 0 ≤ b) (hm : 0 < m) : ∃ k : Nat, b.tmod m = k ∧ k < m := by
  refine ⟨(b % m).toNat, ?_, ?_⟩
  · rw [Int.tmod_eq_emod_of_nonneg h0]
    have := Int.emod_nonneg b (show (m : Int) ≠ 0 by omega)
    omega
  · have := Int.emod_lt_of_pos b (show (0 : Int) < m by omega)
    have := Int.emod_nonneg b (show (m : Int) ≠ 0 by omega)
    omega
set_option maxHeartbeats 2000000 in
theorem liveidle_c (f : BF) (n b0 v0 : Int) (hF : BfOk f) (hn : W32 n) (hb : 0 ≤ b0 ∧ b0 ≤ 255) (hv : 0 ≤ v0 ∧ v0 ≤ 255) : Contract Try.prog 10 [bfA f, U32 n, .agg [Y8 b0, Y8 v0]] (fun r => r = B true) := by
  refine Contract.of_call (VCall.of_body hmix f_sclaw27_LiveIdle (by simp) ?_)
  simp only [go_sem,Nat.reduceEqDiff,Nat.reduceAdd,Nat.reduceMul,↓reduceIte,↓dreduceIte,reduceCtorEq,Nat.reduceLeDiff,Nat.reduceLT,Nat.reduceSub,Int.reduceToNat,Int.reduceLE,Int.reduceLT, one_imm, one_ref, c_sclaw27_LiveIdle]
  refine VCall.of_contract (small_c f 12 60 hF (by decide) (by decide)) (SleL.pure rfl) fun x hx => ?_
  subst hx
  cases hs : smallB f 12 60
  · simp only [go_sem,Nat.reduceEqDiff,Nat.reduceAdd,Nat.reduceMul,↓reduceIte,↓dreduceIte,reduceCtorEq,Nat.reduceLeDiff,Nat.reduceLT,Nat.reduceSub,Int.reduceToNat,Int.reduceLE,Int.reduceLT, one_imm, one_ref]
    refine VCall.of_contract awake_c (SleL.pure rfl) fun x hx => ?_
    subst hx
    simp only [go_sem,Nat.reduceEqDiff,Nat.reduceAdd,Nat.reduceMul,↓reduceIte,↓dreduceIte,reduceCtorEq,Nat.reduceLeDiff,Nat.reduceLT,Nat.reduceSub,Int.reduceToNat,Int.reduceLE,Int.reduceLT, one_imm, one_ref]
    exact ⟨_, Frz.pure rfl, rfl⟩
  obtain ⟨hf, h12, h40, h1b, _⟩ := small_fine hs
  have hne : 0 < f.bks.length := List.length_pos_iff.2 hf.b0
  have hnn : f.bks.length = f.n := rfl
  by_cases hr0 : f.regs = 0
  · simp only [go_sem,Nat.reduceEqDiff,Nat.reduceAdd,Nat.reduceMul,↓reduceIte,↓dreduceIte,reduceCtorEq,Nat.reduceLeDiff,Nat.reduceLT,Nat.reduceSub,Int.reduceToNat,Int.reduceLE,Int.reduceLT, one_imm, one_ref, List.length_map, hr0, eq_false (show ¬ (f.bks.length : Int) = 0 by omega)]
    refine VCall.of_contract awake_c (SleL.pure rfl) fun x hx => ?_
    subst hx
    simp only [go_sem,Nat.reduceEqDiff,Nat.reduceAdd,Nat.reduceMul,↓reduceIte,↓dreduceIte,reduceCtorEq,Nat.reduceLeDiff,Nat.reduceLT,Nat.reduceSub,Int.reduceToNat,Int.reduceLE,Int.reduceLT, one_imm, one_ref]
    exact ⟨_, Frz.pure rfl, rfl⟩
  have hregs : f.regs = (f.r : Int) := by have := hf.r0; unfold BF.r; omega
  obtain ⟨M, hM⟩ := least_exists hf
  have hr : f.r ≤ 64 := by unfold BF.r; omega
  have hok := hM.cl.sz.ok hf
  simp only [go_sem,Nat.reduceEqDiff,Nat.reduceAdd,Nat.reduceMul,↓reduceIte,↓dreduceIte,reduceCtorEq,Nat.reduceLeDiff,Nat.reduceLT,Nat.reduceSub,Int.reduceToNat,Int.reduceLE,Int.reduceLT, one_imm, one_ref, List.length_map, eq_false hr0, eq_false (show ¬ (f.bks.length : Int) = 0 by omega)]
  refine VCall.of_contract (live_of_c f hf hr M hM) (SleL.pure rfl) fun x hx => ?_
  subst hx
  obtain ⟨b, hbd, hbn⟩ := tmod_nat hb.1 hne
  obtain ⟨v, hvd, hvn⟩ := tmod_nat hv.1 (show 0 < f.r by omega)
  rw [← hregs] at hvd
  have w1 : IntKind.i64.wrap b0 = b0 := i64_in (by omega) (by omega)
  have w2 : IntKind.i64.wrap v0 = v0 := i64_in (by omega) (by omega)
  have w3 : IntKind.i64.wrap (b : Int) = b := i64_in (by omega) (by omega)
  have w4 : IntKind.i64.wrap (v : Int) = v := i64_in (by omega) (by omega)
  simp only [go_sem,Nat.reduceEqDiff,Nat.reduceAdd,Nat.reduceMul,↓reduceIte,↓dreduceIte,reduceCtorEq,Nat.reduceLeDiff,Nat.reduceLT,Nat.reduceSub,Int.reduceToNat,Int.reduceLE,Int.reduceLT, one_imm, one_ref, List.length_map, w1, w2, w3, w4, hbd, hvd, eq_false hr0, eq_false (show ¬ (f.bks.length : Int) = 0 by omega)]
  repeat ((with_reducible refine And.intro ?_ ?_); · omega)
  refine VCall.of_contract (rSized_c f M hok.i hok.o) (SleL.pure rfl) fun x hx => ?_
  rw [(sizedB_iff hf.r0 M).2 hM.cl.sz] at hx
  subst hx
  have hil : b < M.inn.length := by rw [hM.cl.sz.i]; exact hbn
  have hli : (M.inn.getD b default).length = f.r := hM.cl.sz.ir _ (mem_getD hil)
  cases hbv : (M.inn.getD b default).getD v default
  case true =>
    simp only [go_sem,Nat.reduceEqDiff,Nat.reduceAdd,Nat.reduceMul,↓reduceIte,↓dreduceIte,reduceCtorEq,Nat.reduceLeDiff,Nat.reduceLT,Nat.reduceSub,Int.reduceToNat,Int.reduceLE,Int.reduceLT, one_imm, one_ref, List.length_map, w1, w2, w3, w4, hbd, hvd, hbv]
    repeat ((with_reducible refine And.intro ?_ ?_); · omega)
    refine VCall.of_contract awake_c (SleL.pure rfl) fun x hx => ?_
    subst hx
    simp only [go_sem,Nat.reduceEqDiff,Nat.reduceAdd,Nat.reduceMul,↓reduceIte,↓dreduceIte,reduceCtorEq,Nat.reduceLeDiff,Nat.reduceLT,Nat.reduceSub,Int.reduceToNat,Int.reduceLE,Int.reduceLT, one_imm, one_ref]
    exact ⟨_, Frz.pure rfl, rfl⟩
  simp only [go_sem,Nat.reduceEqDiff,Nat.reduceAdd,Nat.reduceMul,↓reduceIte,↓dreduceIte,reduceCtorEq,Nat.reduceLeDiff,Nat.reduceLT,Nat.reduceSub,Int.reduceToNat,Int.reduceLE,Int.reduceLT, one_imm, one_ref, List.length_map, w1, w2, w3, w4, hbd, hvd, hbv]
  repeat ((with_reducible refine And.intro ?_ ?_); · omega)
  obtain ⟨inp, hinp⟩ : ∃ inp : ByteArray, inp = ⟨#[0, 97]⟩ := ⟨_, rfl⟩
  have hbl : ∀ k ∈ f.bks, k.ins.length ≤ 1000 := hf.len
  have hw32 : ∀ k ∈ f.bks, ∀ t ∈ k.ins, In32 t.n := fun k hk t ht => ((hF.bk k hk).ins t ht).n
  have hbn' : b < f.n := hbn
  obtain ⟨ok1, ok2⟩ := idle_ok (v := v) h1b hbl hw32 hbn' (by omega) hn
  have hres := idle_res (v := v) inp hf hM.cl h1b hbl hw32 hbn' hvn hn hbv
  have hisz : inp.size ≤ 1000000000 := by rw [hinp]; decide
  have k1 := run24_c ⟨16, [f]⟩ inp 200 (by simp) ⟨by show (0 : Int) ≤ 16; decide, by show (16 : Int) ≤ 1048576; decide⟩ ok1 (by simp) (by decide) hisz
  have k2 := run24_c ⟨16, [idleF f b v n]⟩ inp 400 (by simp) ⟨by show (0 : Int) ≤ 16; decide, by show (16 : Int) ≤ 1048576; decide⟩ ok2 (by simp) (by decide) hisz
  rw [show (200 : Int).toNat = 200 from rfl] at k1
  rw [show (400 : Int).toNat = 400 from rfl] at k2
  generalize resB ⟨16, [f]⟩ inp 200 = X at k1 hres
  generalize resB ⟨16, [idleF f b v n]⟩ inp 400 = Y at k2 hres
  have hml : f.bks.length ≤ maxLen := Nat.le_trans h12 (by decide)
  have hil5 := hbl _ (BF.mem hbn')
  have hil6 : 1 + (f.bks.getD b default).ins.length ≤ maxLen := Nat.le_trans (show 1 + (f.bk b).ins.length ≤ 1001 by omega) (by decide)
  have hil7 : (1 + (f.bks.getD b default).ins.length) * 64 ≤ 140737488355328 := by show (1 + (f.bk b).ins.length) * 64 ≤ _; omega
  have hfl := flat_len5 f.bks
  rw [← hinp]
  simp only [cells_bk, cells_tac]
  repeat' (with_reducible apply And.intro)
  all_goals first
    | (intro y hy; obtain ⟨k, _, rfl⟩ := List.mem_map.1 hy; rfl)
    | omega
    | skip
  all_goals
    refine VCall.of_contract (alone_c f) (SleL.pure rfl) fun x hx => ?_
    subst hx
    simp only [go_sem,Nat.reduceEqDiff,Nat.reduceAdd,Nat.reduceMul,↓reduceIte,↓dreduceIte,reduceCtorEq,Nat.reduceLeDiff,Nat.reduceLT,Nat.reduceSub,Int.reduceToNat,Int.reduceLE,Int.reduceLT, one_imm, one_ref]
    refine VCall.of_contract k1 (SleL.pure rfl) fun x hx => ?_
    subst hx
    simp only [go_sem,Nat.reduceEqDiff,Nat.reduceAdd,Nat.reduceMul,↓reduceIte,↓dreduceIte,reduceCtorEq,Nat.reduceLeDiff,Nat.reduceLT,Nat.reduceSub,Int.reduceToNat,Int.reduceLE,Int.reduceLT, one_imm, one_ref]
    refine VCall.of_body hmix f_scref27_Alone (by simp) ?_
    simp only [go_sem,Nat.reduceEqDiff,Nat.reduceAdd,Nat.reduceMul,↓reduceIte,↓dreduceIte,reduceCtorEq,Nat.reduceLeDiff,Nat.reduceLT,Nat.reduceSub,Int.reduceToNat,Int.reduceLE,Int.reduceLT, one_imm, one_ref, c_scref27_Alone]
    refine VCall.of_contractN (k2.vals fun r h => .inr ⟨[.int .i64 Y.en, .string ⟨Y.out.toArray⟩, .int .i64 Y.st], h⟩) ?_ fun x hx => ?_
    · refine ⟨_, _, rfl, Frz.agg ⟨_, _, rfl, Frz.pure rfl, _, _, rfl, frz_own (f := idleF f b v n) ?_ rfl rfl rfl rfl, rfl⟩, _, _, rfl, Frz.pure rfl, _, _, rfl, Frz.pure rfl, rfl⟩
      refine frz_idle hbn' ?_ rfl rfl rfl rfl rfl
      exact frz_ins _ rfl rfl rfl rfl (by show 1 + (f.bk b).ins.length = (f.bk b).ins.length + 1; omega)
    subst hx
    simp only [go_sem,Nat.reduceEqDiff,Nat.reduceAdd,Nat.reduceMul,↓reduceIte,↓dreduceIte,reduceCtorEq,Nat.reduceLeDiff,Nat.reduceLT,Nat.reduceSub,Int.reduceToNat,Int.reduceLE,Int.reduceLT, one_imm, one_ref]
    refine VCall.of_contract awake_c (SleL.pure rfl) fun x hx => ?_
    subst hx
    by_cases h5 : X.en = 5
    · simp only [go_sem,Nat.reduceEqDiff,Nat.reduceAdd,Nat.reduceMul,↓reduceIte,↓dreduceIte,reduceCtorEq,Nat.reduceLeDiff,Nat.reduceLT,Nat.reduceSub,Int.reduceToNat,Int.reduceLE,Int.reduceLT, one_imm, one_ref, h5]
      exact ⟨_, Frz.pure rfl, rfl⟩
    · rcases hres with hres | ⟨hr1, hr2⟩
      · exact absurd hres h5
      · simp only [go_sem,Nat.reduceEqDiff,Nat.reduceAdd,Nat.reduceMul,↓reduceIte,↓dreduceIte,reduceCtorEq,Nat.reduceLeDiff,Nat.reduceLT,Nat.reduceSub,Int.reduceToNat,Int.reduceLE,Int.reduceLT, one_imm, one_ref, eq_false h5, ← hr1, ← hr2, beq_self_eq_true]
        exact ⟨_, Frz.pure rfl, rfl⟩

set_option maxRecDepth 100000 in
theorem liveidle_lifted (os : Os) (started : os.Started) (H : Type) (enc : TypeId × Value → H) :
    ReturnsInHanded {} Try.checked os 10 .any (Rows.liveIdleSpec.pre6 enc Try.prog Try.f10 Rows.liveIdleRow.domain false) (Rows.liveIdleSpec.post enc Try.prog Try.f10 false true false false) := by
  refine returnsInHanded_of_change_sized (C := Try.checked) Try.own started (by kernel_rfl) Try.func10
    (ChangeSpec.witness6 (enc := enc) (C := Try.checked) false ⟨#[], #[.agg #[.int .i64 0, .slice none 0 0], .int .u32 0, .agg #[.int .u8 0, .int .u8 0]], []⟩ 8 (by kernel_rfl) (by kernel_rfl) (by kernel_rfl) (by kernel_rfl)) ?_
  intro W base args ds gs before hval hW _ hwt _
  refine law_calls (P := Try.prog) (n := 20) (shs := [bfSh, .int .u32, .agg [.int .u8, .int .u8]]) (tb := 4) Try.laidOut rfl (by kernel_rfl) (by kernel_rfl) (by decide +kernel) (by kernel_rfl) (fun ds h => ?_) (fun xs hx => ?_) hval hW hwt
  · match ds, h with
    | [d1, d2, d3], _ => rfl
  · obtain ⟨x, xs', rfl, hx1, hxs⟩ := fitS_cons hx
    obtain ⟨y, ys', rfl, hy, hys⟩ := fitS_cons hxs
    obtain ⟨z, zs', rfl, hz, hzs⟩ := fitS_cons hys
    simp only [Sh.fitL] at hzs
    subst hzs
    obtain ⟨f, rfl, hF⟩ := bf_of hx1
    obtain ⟨n, rfl, hn⟩ := fit_w hy
    simp only [Sh.fit] at hz
    obtain ⟨cs, rfl, hcs⟩ := hz
    obtain ⟨u, us, rfl, hu, hus⟩ := fitS_cons hcs
    obtain ⟨w, ws, rfl, hw, hws⟩ := fitS_cons hus
    simp only [Sh.fitL] at hws
    subst hws
    obtain ⟨b0, rfl, hb⟩ := fit_y hu
    obtain ⟨v0, rfl, hv⟩ := fit_y hw
    exact liveidle_c f n b0 v0 hF hn hb hv

theorem liveidle_holds : Rows.LiveIdleSaid :=
  OpenClaim.holds_of_wide 10 Try.f10 rfl rfl rfl rfl rfl rfl rfl ⟨rfl, rfl, rfl, rfl, rfl⟩ rfl rfl rfl rfl rfl (by kernel_rfl) Try.func10 (by kernel_rfl)
    (of_decide_eq_true (by kernel_rfl)) (by unfold Func.isWrapper; first | (rw [if_pos (by decide +kernel)]; kernel_rfl) | (rw [if_neg (by decide +kernel)]; exact ⟨rfl, rfl⟩))
    (fun os started H enc _ => liveidle_lifted os started H enc)
end Go.Proofs.Ytjdeediehmhdoaa
