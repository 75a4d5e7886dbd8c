/-
  The search for the least table, plainly: a step keeps what is true of it, and ends; what it ends with is the least one. No condition.
-/
import Derived.Test.YtjdeediehmhdoaaBA
namespace Go.Proofs.Ytjdeediehmhdoaa
set_option linter.unusedSimpArgs false
set_option linter.unusedVariables false
open Go.V

theorem nodup_le : ∀ (n : Nat) (l : List Nat), l.Nodup → (∀ x ∈ l, x < n) → l.length ≤ n
  | 0, l, _, h => by
    cases l with
    | nil => exact Nat.le_refl _
    | cons x l => exact absurd (h x (by simp)) (by omega)
  | n + 1, l, hd, h => by
    by_cases hm : n ∈ l
    · have h1 := nodup_le n (l.erase n) (hd.erase n) fun x hx => by
        have h2 := h x (List.mem_of_mem_erase hx)
        have h3 : x ≠ n := fun e => by rw [e] at hx; exact (hd.not_mem_erase hx).elim
        omega
      rw [List.length_erase_of_mem hm] at h1
      omega
    · have h1 := nodup_le n l hd fun x hx => by
        have h2 := h x hx
        have h3 : x ≠ n := fun e => hm (e ▸ hx)
        omega
      omega

def predL (f : BF) (b : Nat) : List Nat := (List.range f.n).flatMap fun a => ((nxt (f.bk a)).filter fun k => decide (k.toNat = b)).map fun _ => a
theorem mem_pred {f : BF} {b a : Nat} : a ∈ predL f b ↔ a < f.n ∧ ∃ k ∈ nxt (f.bk a), k.toNat = b := by
  unfold predL
  simp only [List.mem_flatMap, List.mem_range, List.mem_map, List.mem_filter, decide_eq_true_eq]
  constructor
  · rintro ⟨x, h1, k, ⟨h2, h3⟩, rfl⟩
    exact ⟨h1, k, h2, h3⟩
  · rintro ⟨h1, k, h2, h3⟩
    exact ⟨a, h1, k, ⟨h2, h3⟩, rfl⟩

def waitS (wt : List Nat) (a : Nat) : List Nat := if a ∈ wt then wt else wt ++ [a]
def waitsS (wt : List Nat) (ls : List Nat) : List Nat := ls.foldl waitS wt
theorem mem_wait {wt : List Nat} {a x : Nat} : x ∈ waitS wt a ↔ x ∈ wt ∨ x = a := by
  unfold waitS
  split
  · rename_i h
    exact ⟨.inl, fun e => by rcases e with e | e; exact e; rw [e]; exact h⟩
  · simp
theorem mem_waits : ∀ {ls wt : List Nat} {x : Nat}, x ∈ waitsS wt ls ↔ x ∈ wt ∨ x ∈ ls
  | [], wt, x => by simp [waitsS]
  | a :: ls, wt, x => by
    show x ∈ waitsS (waitS wt a) ls ↔ _
    rw [mem_waits, mem_wait, List.mem_cons, or_assoc]
theorem nodup_wait {wt : List Nat} {a : Nat} (h : wt.Nodup) : (waitS wt a).Nodup := by
  unfold waitS
  split
  · exact h
  · rename_i h2
    rw [List.nodup_append]
    exact ⟨h, by simp, fun x hx y hy e => by simp at hy; subst hy; subst e; exact h2 hx⟩
theorem nodup_waits : ∀ {ls wt : List Nat}, wt.Nodup → (waitsS wt ls).Nodup
  | [], _, h => h
  | a :: ls, _, h => nodup_waits (ls := ls) (nodup_wait h)

def grown (f : BF) (σ : SV) (b : Nat) : List Bool := aheadL (f.bk b) (newO f σ.I σ.O b)
def moreS (f : BF) (σ : SV) (b : Nat) : Bool := decide (σ.I.getD b [] ≠ grown f σ b)
def growS (f : BF) (σ : SV) (b : Nat) : SV := ⟨σ.I.set b (grown f σ b), σ.O.set b (newO f σ.I σ.O b), σ.wt⟩
/-- A round: b was the last one that waited. -/
def roundS (f : BF) (σ : SV) (w0 : List Nat) (b : Nat) : SV :=
  ⟨(growS f σ b).I, (growS f σ b).O, if moreS f σ b = true then waitsS w0 (predL f b) else w0⟩

structure SInv (f : BF) (σ : SV) : Prop where
  sz : SizedP f σ.L
  un : Under f σ.L
  wn : ∀ b ∈ σ.wt, b < f.n
  nd : σ.wt.Nodup
  low : ∀ b < f.n, ∀ v < f.r, gB (σ.I.getD b []) v = true → gB (aheadL (f.bk b) (σ.O.getD b [])) v = true
  ok : ∀ b < f.n, b ∉ σ.wt → (∀ k ∈ nxt (f.bk b), ∀ v < f.r, gB (σ.I.getD k.toNat []) v = true → gB (σ.O.getD b []) v = true) ∧
    ∀ v < f.r, gB (aheadL (f.bk b) (σ.O.getD b [])) v = true → gB (σ.I.getD b []) v = true

theorem SInv.wlen {f : BF} {σ : SV} (h : SInv f σ) : σ.wt.length ≤ f.n := nodup_le _ _ h.nd h.wn
def muS (f : BF) (σ : SV) : Nat := unset σ.I * (f.n + 1) + σ.wt.length

section
variable {f : BF} {σ : SV} {b : Nat}
theorem newO_len (hf : Fine f) (h : SizedP f σ.L) (hb : b < f.n) : (newO f σ.I σ.O b).length = f.r := by
  unfold newO; rw [gath_len]; exact h.ol hb
theorem grown_len (hf : Fine f) (h : SizedP f σ.L) (hb : b < f.n) : (grown f σ b).length = f.r := by
  unfold grown; rw [aheadL_len, newO_len hf h hb]
theorem newO_ge (hf : Fine f) (h : SizedP f σ.L) (hb : b < f.n) {v : Nat} (hv : v < f.r) (e : gB (σ.O.getD b []) v = true) : gB (newO f σ.I σ.O b) v = true := by
  unfold newO
  rw [gB_gath _ _ _ (by have := h.ol hb; exact Nat.lt_of_lt_of_eq hv this.symm)]
  rw [show gB (σ.O.getD b default) v = true from e]; rfl
theorem newO_way (hf : Fine f) (h : SizedP f σ.L) (hb : b < f.n) {k : Int} (hk : k ∈ nxt (f.bk b)) {v : Nat} (hv : v < f.r) (e : gB (σ.I.getD k.toNat []) v = true) : gB (newO f σ.I σ.O b) v = true := by
  unfold newO
  rw [gB_gath _ _ _ (by have := h.ol hb; exact Nat.lt_of_lt_of_eq hv this.symm), Bool.or_eq_true]
  exact .inr (List.any_eq_true.2 ⟨k, hk, e⟩)
theorem grown_ge (hf : Fine f) (h : SInv f σ) (hb : b < f.n) {v : Nat} (hv : v < f.r) (e : gB (σ.I.getD b []) v = true) : gB (grown f σ b) v = true := by
  have h1 := h.low b hb v hv e
  rw [gB_ahead hf hb (σ.O.getD b []) (h.sz.ol hb) hv] at h1
  unfold grown
  rw [gB_ahead hf hb _ (newO_len hf h.sz hb) hv]
  exact (Tri.ahead1 _ v).mono (fun e => newO_ge hf h.sz hb hv e) h1

theorem SInv.round (hf : Fine f) {w0 : List Nat} (h : SInv f σ) (hw : σ.wt = w0 ++ [b]) : SInv f (roundS f σ w0 b) ∧ muS f (roundS f σ w0 b) < muS f σ := by
  have hb : b < f.n := h.wn b (by rw [hw]; simp)
  have hbI : b < σ.I.length := by rw [show σ.I.length = f.n from h.sz.i]; exact hb
  have hbO : b < σ.O.length := by rw [show σ.O.length = f.n from h.sz.o]; exact hb
  have hnd := h.nd
  rw [hw, List.nodup_append] at hnd
  have hb0 : b ∉ w0 := fun e => hnd.2.2 b e b (by simp) rfl
  have hol := newO_len hf h.sz hb
  have hgl := grown_len hf h.sz hb
  have hsz : SizedP f ⟨σ.I.set b (grown f σ b), σ.O.set b (newO f σ.I σ.O b)⟩ := (h.sz.setO hol).setI hgl
  have hI : ∀ c, (σ.I.set b (grown f σ b)).getD c [] = if b = c then grown f σ b else σ.I.getD c [] := fun c => row_set hbI
  have hO : ∀ c, (σ.O.set b (newO f σ.I σ.O b)).getD c [] = if b = c then newO f σ.I σ.O b else σ.O.getD c [] := fun c => row_set hbO
  have hsame : moreS f σ b = false → ∀ c, (σ.I.set b (grown f σ b)).getD c [] = σ.I.getD c [] := fun e c => by
    rw [hI]
    have e' : σ.I.getD b [] = grown f σ b := Classical.byContradiction fun g => by rw [moreS, decide_eq_true g] at e; cases e
    by_cases hc : b = c
    · rw [if_pos hc, ← hc, e']
    · rw [if_neg hc]
  have hun : Under f ⟨σ.I.set b (grown f σ b), σ.O.set b (newO f σ.I σ.O b)⟩ := by
    refine under_in hf (h.sz.setO hol) (under_out hf h.sz h.un hb) hb fun v hv e => .inr ?_
    show gB (aheadL (f.bk b) ((σ.O.set b (newO f σ.I σ.O b)).getD b [])) v = true
    rw [hO, if_pos rfl]; exact e
  have hmem : ∀ c, c ∉ (roundS f σ w0 b).wt → c ∉ w0 ∧ (moreS f σ b = true → c ∉ predL f b) := fun c hc => by
    unfold roundS at hc
    simp only at hc
    split at hc
    · rw [mem_waits] at hc
      exact ⟨fun e => hc (.inl e), fun _ e => hc (.inr e)⟩
    · rename_i hm
      exact ⟨hc, fun e => absurd e hm⟩
  refine ⟨⟨hsz, hun, fun c hc => ?_, ?_, fun c hc v hv e => ?_, fun c hc hw' => ?_⟩, ?_⟩
  · unfold roundS at hc
    simp only at hc
    have hw0 : ∀ c ∈ w0, c < f.n := fun c hc => h.wn c (by rw [hw]; simp [hc])
    split at hc
    · rcases mem_waits.1 hc with g | g
      · exact hw0 c g
      · exact (mem_pred.1 g).1
    · exact hw0 c hc
  · unfold roundS
    simp only
    split
    · exact nodup_waits hnd.1
    · exact hnd.1
  · have e' : gB ((σ.I.set b (grown f σ b)).getD c []) v = true := e
    show gB (aheadL (f.bk c) ((σ.O.set b (newO f σ.I σ.O b)).getD c [])) v = true
    rw [hI] at e'
    rw [hO]
    by_cases hbc : b = c
    · subst hbc
      rw [if_pos rfl] at e' ⊢
      exact e'
    · rw [if_neg hbc] at e' ⊢
      exact h.low c hc v hv e'
  · obtain ⟨g1, g2⟩ := hmem c hw'
    show (∀ k ∈ nxt (f.bk c), ∀ v < f.r, gB ((σ.I.set b (grown f σ b)).getD k.toNat []) v = true → gB ((σ.O.set b (newO f σ.I σ.O b)).getD c []) v = true) ∧
      ∀ v < f.r, gB (aheadL (f.bk c) ((σ.O.set b (newO f σ.I σ.O b)).getD c [])) v = true → gB ((σ.I.set b (grown f σ b)).getD c []) v = true
    have hk' : ∀ k ∈ nxt (f.bk c), (σ.I.set b (grown f σ b)).getD k.toNat [] = σ.I.getD k.toNat [] := fun k hk => by
      cases hm : moreS f σ b
      · exact hsame hm _
      · rw [hI, if_neg]
        exact fun e => g2 hm (mem_pred.2 ⟨hc, k, hk, e.symm⟩)
    by_cases hbc : b = c
    · subst hbc
      rw [hO, if_pos rfl, hI, if_pos rfl]
      refine ⟨fun k hk v hv e => ?_, fun v hv e => e⟩
      rw [hk' k hk] at e
      exact newO_way hf h.sz hb hk hv e
    · rw [hO, if_neg hbc, hI c, if_neg hbc]
      have hcw : c ∉ σ.wt := by
        rw [hw]; simp only [List.mem_append, List.mem_singleton, not_or]
        exact ⟨g1, fun e => hbc e.symm⟩
      refine ⟨fun k hk v hv e => ?_, (h.ok c hc hcw).2⟩
      rw [hk' k hk] at e
      exact (h.ok c hc hcw).1 k hk v hv e
  · have hu := unset_set (m := σ.I) (b := b) (l := grown f σ b) hbI (by rw [hgl]; exact (h.sz.il hb).symm) (fun v e => by
      rcases Nat.lt_or_ge v f.r with hv | hv
      · exact grown_ge hf h hb hv e
      · rw [gB_out (by rw [show (σ.I.getD b []).length = f.r from h.sz.il hb]; exact hv)] at e; cases e)
    have hwl : w0.length + 1 = σ.wt.length := by rw [hw]; simp
    have hwn : σ.wt.length ≤ f.n := h.wlen
    unfold muS roundS
    simp only [growS]
    cases hm : moreS f σ b
    · simp only [Bool.false_eq_true, if_false]
      have := Nat.mul_le_mul_right (f.n + 1) hu.1
      omega
    · simp only [if_true]
      have hlt := hu.2 (of_decide_eq_true hm)
      have h1 := Nat.mul_le_mul_right (f.n + 1) (show unset (σ.I.set b (grown f σ b)) + 1 ≤ unset σ.I from hlt)
      rw [Nat.add_mul, Nat.one_mul] at h1
      have h2 : (waitsS w0 (predL f b)).length ≤ f.n := nodup_le _ _ (nodup_waits hnd.1) fun c hc => by
        rcases mem_waits.1 hc with g | g
        · exact h.wn c (by rw [hw]; simp [g])
        · exact (mem_pred.1 g).1
      omega

theorem SInv.least (hf : Fine f) (h : SInv f σ) (hw : σ.wt = []) : Least f σ.L := by
  refine ⟨⟨h.sz, ⟨fun b hb k hk v hv e => (h.ok b hb (by rw [hw]; simp)).1 k hk v hv e, fun b hb v hv e => ?_⟩⟩, h.un⟩
  refine (h.ok b hb (by rw [hw]; simp)).2 v hv ?_
  rw [gB_ahead hf hb (σ.O.getD b []) (h.sz.ol hb) hv]
  exact e

/-- At first nothing matters, and all wait. -/
def beginS (f : BF) : SV := ⟨List.replicate f.n (List.replicate f.r false), List.replicate f.n (List.replicate f.r false), List.range f.n⟩
theorem rep_row (n r b v : Nat) : gB ((List.replicate n (List.replicate r false)).getD b []) v = false := by
  rw [List.getD, List.getElem?_replicate]
  split
  · exact gB_rep r v
  · rfl
theorem begin_inv (f : BF) : SInv f (beginS f) := by
  refine ⟨⟨by simp [beginS, SV.L], by simp [beginS, SV.L], fun l hl => ?_, fun l hl => ?_⟩, fun I O _ b _ v _ => ⟨fun e => ?_, fun e => ?_⟩, fun b hb => by simpa [beginS] using hb, List.nodup_range, fun b hb v hv e => ?_, fun b hb hw => absurd (by simpa [beginS] using hb) hw⟩
  · simp [beginS, SV.L] at hl; rw [hl.2]; simp
  · simp [beginS, SV.L] at hl; rw [hl.2]; simp
  · have : gB ((List.replicate f.n (List.replicate f.r false)).getD b []) v = true := e
    rw [rep_row] at this; cases this
  · have : gB ((List.replicate f.n (List.replicate f.r false)).getD b []) v = true := e
    rw [rep_row] at this; cases this
  · have : gB ((List.replicate f.n (List.replicate f.r false)).getD b []) v = true := e
    rw [rep_row] at this; cases this
end
end Go.Proofs.Ytjdeediehmhdoaa
