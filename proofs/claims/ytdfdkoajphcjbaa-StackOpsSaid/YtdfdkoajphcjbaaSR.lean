/-
  Given programs of stack code: that they are right, and what they do. No condition.
-/
import Derived.Test.YtdfdkoajphcjbaaP1
import Derived.Test.YtdfdkoajphcjbaaS6
import Derived.KernelRfl
namespace Go.Proofs.Ytdfdkoajphcjbaa
set_option linter.unusedSimpArgs false
set_option linter.unusedVariables false
open Go.V

def clB (s : SP) (f : Nat) (code : List SI) (dl : List Int) (i : Nat) : Bool :=
  match effD s f (code.getD i default) (dl.getD i (-1)) with
  | none => false
  | some e => (nextL (code.getD i default) i).all fun k => decide (0 ≤ k ∧ k < (code.length : Int) ∧ dl.getD k.toNat (-1) = e)
def solB (s : SP) (f : Nat) (dl : List Int) : Bool :=
  !(s.fn f).code.isEmpty && (dl.length == (s.fn f).code.length) && decide (dl.getD 0 (-1) = 0) && (List.range dl.length).all fun i => decide (dl.getD i (-1) < 0) || clB s f (s.fn f).code dl i
theorem sol_of {s : SP} {f : Nat} {dl : List Int} (h : solB s f dl = true) : Sol s f dl := by
  simp only [solB, Bool.and_eq_true, List.all_eq_true, Bool.or_eq_true, decide_eq_true_eq, beq_iff_eq] at h
  obtain ⟨⟨⟨h1, h2⟩, h3⟩, h4⟩ := h
  refine ⟨fun e => by (rw [e] at h1; cases h1), h2, h3, fun i hi h0 => ?_⟩
  rcases h4 i (List.mem_range.2 hi) with h5 | h5
  · omega
  · unfold clB at h5
    split at h5
    · cases h5
    · rename_i e he
      exact ⟨e, he, fun k hk => by simpa using List.all_eq_true.1 h5 k hk⟩
theorem fits_of {s : SP} {f : Nat} (h : ∀ x ∈ (s.fn f).code, FitsP s f x) : ∀ k, k < (s.fn f).code.length → FitsP s f (s.ins f k) := fun k hk => by
  unfold SP.ins
  rw [List.getD, List.getElem?_eq_getElem hk]
  exact h _ (List.getElem_mem hk)
theorem runS_add (s : SP) (inp : ByteArray) (σ : SM) (k : Nat) : ∀ d, runS s inp σ (k + d) = runS s inp (runS s inp σ k) d
  | 0 => rfl
  | d + 1 => by
    show stepS s inp (runS s inp σ (k + d)) = stepS s inp (runS s inp (runS s inp σ k) d)
    rw [runS_add s inp σ k d]
theorem runS_end {s : SP} {inp : ByteArray} {σ τ : SM} {k n : Nat} (h : runS s inp σ k = τ) (hf : τ.fin ≠ 0) (hk : k ≤ n) : runS s inp σ n = τ := by
  obtain ⟨d, rfl⟩ : ∃ d, n = k + d := ⟨n - k, by omega⟩
  rw [runS_fin (by rw [h]; exact hf), h]

/- Two words, an operation, four bytes. -/
def shI (i : Int) : List SI := [⟨2, 0, 0, 0⟩, ⟨1, 0, 0, i⟩, ⟨6, 13, 0, 0⟩, ⟨13, 0, 0, 0⟩]
def opsL (k a b : Int) : List SI := [⟨1, 0, 0, a⟩, ⟨1, 0, 0, b⟩, ⟨6, k, 0, 0⟩, ⟨3, 0, 0, 0⟩] ++ shI 0 ++ shI 8 ++ shI 16 ++ shI 24 ++ [⟨11, 0, 0, 0⟩]
def opsP (k a b : Int) : SP := ⟨1, [⟨0, 0, 0, false, opsL k a b⟩]⟩
theorem ops_right (k a b : Int) (hk : 4 ≤ k ∧ k ≤ 15) : RightP (opsP k a b) := by
  refine ⟨by simp [opsP], by simp [opsP], by simp [opsP], by simp [opsP], fun f hf => ?_, rfl, rfl⟩
  obtain rfl : f = 0 := by simp [opsP] at hf; exact hf
  refine ⟨⟨by simp [opsP, SP.fn], by simp [opsP, SP.fn], by simp [opsP, SP.fn], by simp [opsP, SP.fn], by simp [opsP, SP.fn]⟩, fits_of ?_, ⟨[0, 1, 2, 1, 0, 1, 2, 1, 0, 1, 2, 1, 0, 1, 2, 1, 0, 1, 2, 1, 0], sol_of (by kernel_rfl)⟩⟩
  show ∀ x ∈ opsL k a b, FitsP (opsP k a b) 0 x
  intro x hx
  simp only [opsL, shI, List.cons_append, List.nil_append, List.mem_cons, List.not_mem_nil, or_false] at hx
  rcases hx with rfl | rfl | rfl | rfl | rfl | rfl | rfl | rfl | rfl | rfl | rfl | rfl | rfl | rfl | rfl | rfl | rfl | rfl | rfl | rfl | rfl <;> (unfold FitsP; simp [opsP]) <;> omega
theorem ops_two (k a b : Int) (inp : ByteArray) : runS (opsP k a b) inp (startS (opsP k a b)) 2 = ⟨[0], 0, [], 2, 0, ⟨0, 2, [b, a]⟩, []⟩ := by kernel_rfl
theorem ops_zero (k a b : Int) (inp : ByteArray) (h : (applyW k a b).2 ≠ 0) : runS (opsP k a b) inp (startS (opsP k a b)) 100 = ⟨[0], 0, [], 3, 2, ⟨0, 3, [b, a]⟩, []⟩ := by
  refine runS_end (k := 3) ?_ (by simp) (by omega)
  show stepS _ _ (runS (opsP k a b) inp (startS (opsP k a b)) 2) = _
  rw [ops_two]
  show (if (applyW k a b).2 = 0 then _ else _ : SM) = _
  rw [if_neg h]; rfl
theorem ops_rest (k a b v : Int) (inp : ByteArray) : runS (opsP k a b) inp ⟨[0], 0, [], 3, 0, ⟨0, 3, [v]⟩, []⟩ 18 =
    ⟨[v], 0, [byteS (applyW 13 v 0).1, byteS (applyW 13 v 8).1, byteS (applyW 13 v 16).1, byteS (applyW 13 v 24).1], 21, 1, ⟨0, 21, []⟩, []⟩ := by kernel_rfl
theorem ops_fine (k a b : Int) (inp : ByteArray) (h : (applyW k a b).2 = 0) : runS (opsP k a b) inp (startS (opsP k a b)) 100 =
    ⟨[(applyW k a b).1], 0, [byteS (applyW 13 (applyW k a b).1 0).1, byteS (applyW 13 (applyW k a b).1 8).1, byteS (applyW 13 (applyW k a b).1 16).1, byteS (applyW 13 (applyW k a b).1 24).1], 21, 1, ⟨0, 21, []⟩, []⟩ := by
  refine runS_end (k := 3 + 18) ?_ (by simp) (by omega)
  rw [runS_add]
  have h3 : runS (opsP k a b) inp (startS (opsP k a b)) 3 = ⟨[0], 0, [], 3, 0, ⟨0, 3, [(applyW k a b).1]⟩, []⟩ := by
    show stepS _ _ (runS (opsP k a b) inp (startS (opsP k a b)) 2) = _
    rw [ops_two]
    show (if (applyW k a b).2 = 0 then _ else _ : SM) = _
    rw [if_pos h]; rfl
  rw [h3]
  exact ops_rest k a b _ inp

/- A function of two parameters and one local, called twice. -/
def clsF (c : Int) : List SI := [⟨2, 1, 0, 0⟩, ⟨2, 2, 0, 0⟩, ⟨6, 5, 0, 0⟩, ⟨2, 3, 0, 0⟩, ⟨6, 5, 0, 0⟩, ⟨1, 0, 0, c⟩, ⟨3, 3, 0, 0⟩, ⟨11, 0, 0, 0⟩]
def clsC (a b : Int) : List SI := [⟨1, 0, 0, a⟩, ⟨1, 0, 0, b⟩, ⟨10, 0, 0, 0⟩, ⟨13, 0, 0, 0⟩]
def clsP (a b c : Int) : SP := ⟨4, [⟨2, 3, 1, true, clsF c⟩, ⟨0, 0, 0, false, clsC a b ++ clsC a b ++ [⟨11, 0, 0, 0⟩]⟩]⟩
theorem cls_right (a b c : Int) : RightP (clsP a b c) := by
  refine ⟨by simp [clsP], by simp [clsP], by simp [clsP], by simp [clsP], fun f hf => ?_, rfl, rfl⟩
  have hf : f < 2 := hf
  rcases (by omega : f = 0 ∨ f = 1) with rfl | rfl
  · refine ⟨⟨by simp [clsP, SP.fn], by simp [clsP, SP.fn], by simp [clsP, SP.fn], by simp [clsP, SP.fn], by simp [clsP, SP.fn]⟩, fits_of ?_, ⟨[0, 1, 2, 1, 2, 1, 2, 1], sol_of (by kernel_rfl)⟩⟩
    show ∀ x ∈ clsF c, FitsP (clsP a b c) 0 x
    intro x hx
    simp only [clsF, List.mem_cons, List.not_mem_nil, or_false] at hx
    rcases hx with rfl | rfl | rfl | rfl | rfl | rfl | rfl | rfl <;> (unfold FitsP; simp [clsP])
  · refine ⟨⟨by simp [clsP, SP.fn], by simp [clsP, SP.fn], by simp [clsP, SP.fn], by simp [clsP, SP.fn], by simp [clsP, SP.fn]⟩, fits_of ?_, ⟨[0, 1, 2, 1, 0, 1, 2, 1, 0], sol_of (by kernel_rfl)⟩⟩
    show ∀ x ∈ clsC a b ++ clsC a b ++ [⟨11, 0, 0, 0⟩], FitsP (clsP a b c) 1 x
    intro x hx
    simp only [clsC, List.cons_append, List.nil_append, List.mem_cons, List.not_mem_nil, or_false] at hx
    rcases hx with rfl | rfl | rfl | rfl | rfl | rfl | rfl | rfl | rfl <;> (unfold FitsP; simp [clsP])
theorem cls_rest (a b c : Int) (inp : ByteArray) : runS (clsP a b c) inp (startS (clsP a b c)) 25 =
    ⟨[0, a, b, c], 0, [byteS (applyW 5 (applyW 5 a b).1 0).1, byteS (applyW 5 (applyW 5 a b).1 0).1], 25, 1, ⟨1, 9, []⟩, []⟩ := by kernel_rfl
theorem cls_run (a b c : Int) (inp : ByteArray) : runS (clsP a b c) inp (startS (clsP a b c)) 100 =
    ⟨[0, a, b, c], 0, [byteS (applyW 5 (applyW 5 a b).1 0).1, byteS (applyW 5 (applyW 5 a b).1 0).1], 25, 1, ⟨1, 9, []⟩, []⟩ := by
  exact runS_end (cls_rest a b c inp) (by simp) (by omega)

/- A word is stored in an array, and loaded. -/
def plS (n i v : Int) : List SI := [⟨1, 0, 0, i⟩, ⟨1, 0, 0, v⟩, ⟨5, 2, n, 0⟩]
def plL (n i : Int) : List SI := [⟨1, 0, 0, i⟩, ⟨4, 2, n, 0⟩, ⟨13, 0, 0, 0⟩, ⟨11, 0, 0, 0⟩]
def plP (n i v : Int) : SP := ⟨n + 2, [⟨0, 0, 0, false, plS n i v ++ plL n i⟩]⟩
def plQ (n i : Int) : SP := ⟨n + 2, [⟨0, 0, 0, false, plL n i⟩]⟩
theorem pl_right (n i v : Int) (h : 1 ≤ n ∧ n ≤ 4096) : RightP (plP n i v) := by
  refine ⟨by simp [plP]; omega, by simp [plP]; omega, by simp [plP], by simp [plP], fun f hf => ?_, rfl, rfl⟩
  obtain rfl : f = 0 := by simp [plP] at hf; exact hf
  refine ⟨⟨by simp [plP, SP.fn], by simp [plP, SP.fn], by simp [plP, SP.fn], by simp [plP, SP.fn]; omega, by simp [plP, SP.fn]; omega⟩, fits_of ?_, ⟨[0, 1, 2, 0, 1, 1, 0], sol_of (by kernel_rfl)⟩⟩
  show ∀ x ∈ plS n i v ++ plL n i, FitsP (plP n i v) 0 x
  intro x hx
  simp only [plS, plL, List.cons_append, List.nil_append, List.mem_cons, List.not_mem_nil, or_false] at hx
  rcases hx with rfl | rfl | rfl | rfl | rfl | rfl | rfl <;> (unfold FitsP; simp [plP]) <;> omega
theorem plQ_right (n i : Int) (h : 1 ≤ n ∧ n ≤ 4096) : RightP (plQ n i) := by
  refine ⟨by simp [plQ]; omega, by simp [plQ]; omega, by simp [plQ], by simp [plQ], fun f hf => ?_, rfl, rfl⟩
  obtain rfl : f = 0 := by simp [plQ] at hf; exact hf
  refine ⟨⟨by simp [plQ, SP.fn], by simp [plQ, SP.fn], by simp [plQ, SP.fn], by simp [plQ, SP.fn]; omega, by simp [plQ, SP.fn]; omega⟩, fits_of ?_, ⟨[0, 1, 1, 0], sol_of (by kernel_rfl)⟩⟩
  show ∀ x ∈ plL n i, FitsP (plQ n i) 0 x
  intro x hx
  simp only [plL, List.mem_cons, List.not_mem_nil, or_false] at hx
  rcases hx with rfl | rfl | rfl | rfl <;> (unfold FitsP; simp [plQ]) <;> omega

/- A loop that puts out what comes in. -/
def echL : List SI := [⟨12, 0, 0, 0⟩, ⟨3, 0, 0, 0⟩, ⟨2, 0, 0, 0⟩, ⟨1, 0, 0, 256⟩, ⟨6, 14, 0, 0⟩, ⟨9, 9, 0, 0⟩, ⟨2, 0, 0, 0⟩, ⟨13, 0, 0, 0⟩, ⟨8, 0, 0, 0⟩, ⟨11, 0, 0, 0⟩]
def echP : SP := ⟨1, [⟨0, 0, 0, false, echL⟩]⟩
theorem ech_right : RightP echP := by
  refine ⟨by simp [echP], by simp [echP], by simp [echP], by simp [echP], fun f hf => ?_, rfl, rfl⟩
  obtain rfl : f = 0 := by simp [echP] at hf; exact hf
  refine ⟨⟨by simp [echP, SP.fn], by simp [echP, SP.fn], by simp [echP, SP.fn], by simp [echP, SP.fn], by simp [echP, SP.fn]⟩, fits_of ?_, ⟨[0, 1, 0, 1, 2, 1, 0, 1, 0, 0], sol_of (by kernel_rfl)⟩⟩
  show ∀ x ∈ echL, FitsP echP 0 x
  intro x hx
  simp only [echL, List.mem_cons, List.not_mem_nil, or_false] at hx
  rcases hx with rfl | rfl | rfl | rfl | rfl | rfl | rfl | rfl | rfl | rfl <;> (unfold FitsP; simp [echP, SP.fn, echL])
end Go.Proofs.Ytdfdkoajphcjbaa
