/-
  Programs of stack code as arguments; their size: contracts. No condition.
-/
import Derived.Test.YtdfdkoajphcjbaaP1
import Derived.Test.YtdfdkoajphcjbaaD7
import Derived.Test.YtdfdkoajphcjbaaVG
import Derived.Test.YtdfdkoajphcjbaaVH
import Derived.SizedLaws
namespace Go.Proofs.Ytdfdkoajphcjbaa
set_option linter.unusedSimpArgs false
set_option linter.unusedVariables false
set_option maxRecDepth 10000
open Go.V Go.ChangeShapes Go.WideShapes Go.ChangeAt Go.RowKit

theorem Try.own : ownKnob Try.prog.godebug = none := by kernel_rfl
theorem Try.laidOut : laidOutB Try.prog = true := by kernel_rfl

abbrev siSh : Sh := .agg [.int .i64, .int .i64, .int .i64, .int .u32]
abbrev sfSh : Sh := .agg [.int .i64, .int .i64, .int .i64, .bool, .sl 4 32 siSh]
abbrev spSh : Sh := .agg [.int .i64, .sl 5 56 sfSh]

theorem fit_w {x : AV} (h : Sh.fit (.int .u32) x) : ∃ n : Int, x = U32 n ∧ In32 n := by
  simp only [Sh.fit] at h
  obtain ⟨n, rfl, h⟩ := h
  simp [Lit.wf, IntKind.min, IntKind.max, IntKind.bits, IntKind.signed] at h
  exact ⟨n, rfl, by unfold In32; omega⟩
theorem fit_b {x : AV} (h : Sh.fit .bool x) : ∃ b : Bool, x = B b := by
  simp only [Sh.fit] at h; exact h
def SIOk (x : SI) : Prop := Int64 x.op ∧ Int64 x.a ∧ Int64 x.b ∧ In32 x.n
theorem si_of {x : AV} (h : Sh.fit siSh x) : ∃ i : SI, x = siA i ∧ SIOk i := by
  simp only [siSh, Sh.fit.eq_5, Sh.fitL] at h
  obtain ⟨ys, rfl, a, _, rfl, ha, b, _, rfl, hb, c, _, rfl, hc, d, _, rfl, hd, rfl⟩ := h
  obtain ⟨op, rfl, k1⟩ := fit_int ha
  obtain ⟨a, rfl, k2⟩ := fit_int hb
  obtain ⟨b, rfl, k3⟩ := fit_int hc
  obtain ⟨n, rfl, k4⟩ := fit_w hd
  exact ⟨⟨op, a, b, n⟩, rfl, k1, k2, k3, k4⟩
structure SFOk (g : SF) : Prop where
  p : Int64 g.params
  s : Int64 g.slots
  f : Int64 g.first
  len : g.code.length * 32 ≤ 140737488351232
  code : ∀ x ∈ g.code, SIOk x
theorem sf_of {x : AV} (h : Sh.fit sfSh x) : ∃ g : SF, x = sfA g ∧ SFOk g := by
  simp only [sfSh, Sh.fit.eq_5, Sh.fitL] at h
  obtain ⟨ys, rfl, a, _, rfl, ha, b, _, rfl, hb, c, _, rfl, hc, d, _, rfl, hd, e, _, rfl, he, rfl⟩ := h
  obtain ⟨p, rfl, k1⟩ := fit_int ha
  obtain ⟨q, rfl, k2⟩ := fit_int hb
  obtain ⟨f, rfl, k3⟩ := fit_int hc
  obtain ⟨w, rfl⟩ := fit_b hd
  simp only [Sh.fit.eq_4] at he
  obtain ⟨xs, rfl, _, h1, h2⟩ := he
  obtain ⟨l, rfl, h3⟩ := maps_of (f := siA) (p := SIOk) (fun y hy => si_of hy) xs h2
  exact ⟨⟨p, q, f, w, l⟩, rfl, k1, k2, k3, by simpa [reachBytes] using h1, h3⟩
structure SPOk (s : SP) : Prop where
  w : Int64 s.words
  len : s.funcs.length * 56 ≤ 140737488351232
  fn : ∀ g ∈ s.funcs, SFOk g
theorem sp_of {x : AV} (h : Sh.fit spSh x) : ∃ s : SP, x = spA s ∧ SPOk s := by
  simp only [spSh, Sh.fit.eq_5, Sh.fitL] at h
  obtain ⟨ys, rfl, a, _, rfl, ha, e, _, rfl, he, rfl⟩ := h
  obtain ⟨w, rfl, k1⟩ := fit_int ha
  simp only [Sh.fit.eq_4] at he
  obtain ⟨xs, rfl, _, h1, h2⟩ := he
  obtain ⟨l, rfl, h3⟩ := maps_of (f := sfA) (p := SFOk) (fun y hy => sf_of hy) xs h2
  exact ⟨⟨w, l⟩, rfl, k1, by simpa [reachBytes] using h1, h3⟩
theorem SPOk.at_ {s : SP} (h : SPOk s) (f : Nat) : SFOk (s.fn f) := by
  unfold SP.fn
  rw [List.getD]
  cases hf : s.funcs[f]? with
  | none => exact ⟨⟨by decide, by decide⟩, ⟨by decide, by decide⟩, ⟨by decide, by decide⟩, by decide, fun x hx => by cases hx⟩
  | some g => exact h.fn g (List.mem_of_getElem? hf)

theorem fitS_cons {s : Sh} {ss : List Sh} {ys : List AV} (h : Sh.fitL (s :: ss) ys) : ∃ y ys', ys = y :: ys' ∧ s.fit y ∧ Sh.fitL ss ys' := by
  simp only [Sh.fitL] at h; exact h
theorem ba_self (a : ByteArray) : (a == a) = true := by
  rcases a with ⟨a⟩
  show (a == a) = true
  simp
/-- How many instructions. -/
def sizeS (l : List SF) : Nat := (l.map fun g => g.code.length).sum
theorem size_take (l : List SF) (k : Nat) (h : k < l.length) : sizeS (l.take (k + 1)) = sizeS (l.take k) + (l.getD k default).code.length := by
  unfold sizeS
  rw [List.take_add_one, List.getElem?_eq_getElem h, List.map_append, List.sum_append]
  simp [List.getD, List.getElem?_eq_getElem h]
theorem size_le (l : List SF) (k : Nat) : sizeS (l.take k) ≤ sizeS l := by
  unfold sizeS
  conv => rhs; rw [← List.take_append_drop k l]
  rw [List.map_append, List.sum_append]; omega
theorem size_one (s : SP) (f : Nat) : (s.fn f).code.length ≤ sizeS s.funcs := by
  by_cases h : f < s.funcs.length
  · have h1 := size_take s.funcs f h
    have h2 := size_le s.funcs (f + 1)
    have : s.fn f = s.funcs.getD f default := rfl
    rw [this]; omega
  · unfold SP.fn
    rw [List.getD, List.getElem?_eq_none (by omega)]; exact Nat.zero_le _
theorem size_bound (l : List SF) (n : Nat) (h : ∀ g ∈ l, g.code.length ≤ n) : sizeS l ≤ l.length * n := by
  induction l with
  | nil => simp [sizeS]
  | cons g l ih =>
    have h1 := ih fun x hx => h x (List.mem_cons_of_mem _ hx)
    have h2 := h g (by simp)
    simp only [sizeS, List.map_cons, List.sum_cons, List.length_cons, Nat.succ_mul] at h1 ⊢
    omega

theorem refsize_c (s : SP) (hl : s.funcs.length ≤ 70) (hs : ∀ g ∈ s.funcs, g.code.length ≤ 4398046510976) : Contract Try.prog 20 [spA s] (fun r => r = I (sizeS s.funcs)) := by
  refine Contract.of_call (VCall.of_body hmix f_scref20_Size (by simp) ?_)
  have hb := size_bound s.funcs _ hs
  have hb2 : s.funcs.length * 4398046510976 ≤ 70 * 4398046510976 := Nat.mul_le_mul_right _ hl
  simp only [go_sem,Nat.reduceEqDiff,Nat.reduceAdd,Nat.reduceMul,↓reduceIte,↓dreduceIte,reduceCtorEq,Nat.reduceLeDiff,Nat.reduceLT,Nat.reduceSub,Int.reduceToNat,Int.reduceLE,Int.reduceLT, c_scref20_Size, one_imm, one_ref]
  refine VW_loop (fun i : Nat => ⟨[(1, .ptr 0 0 0), (3, I (sizeS (s.funcs.take i))), (4, I i)], [⟨0, 24, 1, [I s.words, fnsA s.funcs]⟩], 1⟩)
    (fun i => i ≤ s.funcs.length) (fun i => s.funcs.length - i) 0 (Wk.mk (by simp [get_cons, sizeS]) ⟨[], rfl⟩ (Nat.le_refl _)) (Nat.zero_le _) ?_
  intro i hi
  by_cases h : (i : Int) < (s.funcs.length : Int)
  · have h1 := size_take s.funcs i (by omega)
    have h2 := size_le s.funcs (i + 1)
    have e1 : IntKind.i64.wrap ((i : Int) + 1) = ((i + 1 : Nat) : Int) := by rw [i64_in (by omega) (by omega)]; omega
    have e2 : IntKind.i64.wrap (((sizeS (s.funcs.take i) : Nat) : Int) + (((s.funcs.getD i default).code.length : Nat) : Int)) = ((sizeS (s.funcs.take (i + 1)) : Nat) : Int) := by rw [i64_in (by omega) (by omega)]; omega
    simp only [go_sem,Nat.reduceEqDiff,Nat.reduceAdd,Nat.reduceMul,↓reduceIte,↓dreduceIte,reduceCtorEq,Nat.reduceLeDiff,Nat.reduceLT,Nat.reduceSub,Int.reduceToNat,Int.reduceLE,Int.reduceLT, one_imm, one_ref, eq_true h, e1, e2]
    repeat (refine And.intro (by omega) ?_)
    exact ⟨i + 1, by omega, by omega, Wk.mk (by simp [get_cons]) ⟨[], (List.append_nil _).symm⟩ (Nat.le_refl _)⟩
  · obtain rfl : i = s.funcs.length := by omega
    simp only [go_sem,Nat.reduceEqDiff,Nat.reduceAdd,Nat.reduceMul,↓reduceIte,↓dreduceIte,reduceCtorEq,Nat.reduceLeDiff,Nat.reduceLT,Nat.reduceSub,Int.reduceToNat,Int.reduceLE,Int.reduceLT, one_imm, one_ref, eq_false h, List.take_length]
    exact ⟨_, Frz.pure rfl, rfl⟩

def fewB (s : SP) (n : Int) : Bool := decide (s.funcs.length ≤ 70 ∧ (sizeS s.funcs : Int) ≤ n)
theorem few_c (s : SP) (h : SPOk s) (n : Int) : Contract Try.prog 10 [spA s, I n] (fun r => r = B (fewB s n)) := by
  refine Contract.of_call (VCall.of_body hmix f_scref20_Few (by simp) ?_)
  by_cases h1 : s.funcs.length ≤ 70
  · have h1' : (s.funcs.length : Int) ≤ 70 := by omega
    simp only [go_sem,Nat.reduceEqDiff,Nat.reduceAdd,Nat.reduceMul,↓reduceIte,↓dreduceIte,reduceCtorEq,Nat.reduceLeDiff,Nat.reduceLT,Nat.reduceSub,Int.reduceToNat,Int.reduceLE,Int.reduceLT, c_scref20_Few, one_imm, one_ref, eq_true h1']
    refine VCall.of_contract (refsize_c s h1 fun g hg => by have := (h.fn g hg).len; omega) (SleL.pure rfl) fun r hr => ?_
    subst hr
    simp only [go_sem,Nat.reduceEqDiff,Nat.reduceAdd,Nat.reduceMul,↓reduceIte,↓dreduceIte,reduceCtorEq,Nat.reduceLeDiff,Nat.reduceLT,Nat.reduceSub,Int.reduceToNat,Int.reduceLE,Int.reduceLT, one_imm, one_ref]
    refine ⟨_, Frz.pure rfl, ?_⟩
    unfold fewB; simp [h1]
  · have h1' : ¬ (s.funcs.length : Int) ≤ 70 := by omega
    simp only [go_sem,Nat.reduceEqDiff,Nat.reduceAdd,Nat.reduceMul,↓reduceIte,↓dreduceIte,reduceCtorEq,Nat.reduceLeDiff,Nat.reduceLT,Nat.reduceSub,Int.reduceToNat,Int.reduceLE,Int.reduceLT, c_scref20_Few, one_imm, one_ref, eq_false h1']
    refine ⟨_, Frz.pure rfl, ?_⟩
    unfold fewB; simp [h1]

/-- What is known of a program that is small. -/
theorem small_in {s : SP} {n : Nat} (h : SPOk s) (hn : n ≤ 1000000) (hf : fewB s n = true) : InP s ∧ (RightP s → FitP s) := by
  obtain ⟨h1, h2⟩ := of_decide_eq_true hf
  have hc : ∀ f, (s.fn f).code.length ≤ 1000000 := fun f => by have := size_one s f; omega
  refine ⟨⟨by omega, hc, fun f => (h.at_ f).p⟩, fun hR => ⟨fun g hg x hx => ((h.fn g hg).code x hx).2.2.2, hR.w0, by have := hR.w1; omega, by omega, fun e => by have := hR.n0; rw [e] at this; simp at this, hc⟩⟩
end Go.Proofs.Ytdfdkoajphcjbaa
