/-
  Three-address code and tables of truths as arguments. No condition.
-/
import Derived.Test.YtjdeediehmhdoaaB3
import Derived.Test.YtjdeediehmhdoaaVG
import Derived.SizedLaws
namespace Go.Proofs.Ytjdeediehmhdoaa
set_option linter.unusedSimpArgs false
set_option linter.unusedVariables false
set_option maxRecDepth 10000
open Go.V Go.ChangeShapes Go.WideShapes Go.ChangeAt Go.RowKit

theorem Try.own : ownKnob Try.prog.godebug = none := by kernel_rfl
theorem Try.laidOut : laidOutB Try.prog = true := by kernel_rfl

/-- A word. -/
def W32 (n : Int) : Prop := 0 ≤ n ∧ n < 4294967296
abbrev tacSh : Sh := .agg [.int .i64, .int .i64, .int .i64, .int .i64, .int .i64, .int .i64, .int .i64, .int .u32]
abbrev bkSh : Sh := .agg [.sl 8 64 tacSh, .int .i64, .int .i64, .int .i64, .int .i64]
abbrev bfSh : Sh := .agg [.int .i64, .sl 5 56 bkSh]
abbrev rowSh : Sh := .sl 1 1 .bool
abbrev rowsSh : Sh := .sl 1 24 rowSh
abbrev liveSh : Sh := .agg [rowsSh, rowsSh]

theorem fit_w {x : AV} (h : Sh.fit (.int .u32) x) : ∃ n : Int, x = U32 n ∧ W32 n := by
  simp only [Sh.fit] at h
  obtain ⟨n, rfl, h⟩ := h
  simp [Lit.wf, IntKind.min, IntKind.max, IntKind.bits, IntKind.signed] at h
  exact ⟨n, rfl, by unfold W32; omega⟩
abbrev Y8 (n : Int) : AV := .val (.int .u8 n)
theorem fit_y {x : AV} (h : Sh.fit (.int .u8) x) : ∃ n : Int, x = Y8 n ∧ 0 ≤ n ∧ n ≤ 255 := by
  simp only [Sh.fit] at h
  obtain ⟨n, rfl, h⟩ := h
  simp [Lit.wf, IntKind.min, IntKind.max, IntKind.bits, IntKind.signed] at h
  exact ⟨n, rfl, by omega⟩
theorem fit_b {x : AV} (h : Sh.fit .bool x) : ∃ b : Bool, x = B b := by
  simp only [Sh.fit] at h; exact h
structure TacOk (t : Tac) : Prop where
  op : Int64 t.op
  d : Int64 t.d
  a : Int64 t.a
  b : Int64 t.b
  k : Int64 t.k
  base : Int64 t.base
  size : Int64 t.size
  n : W32 t.n
theorem tac_of {x : AV} (h : Sh.fit tacSh x) : ∃ t : Tac, x = tacA t ∧ TacOk t := by
  simp only [tacSh, Sh.fit.eq_5, Sh.fitL] at h
  obtain ⟨ys, rfl, a, _, rfl, ha, b, _, rfl, hb, c, _, rfl, hc, d, _, rfl, hd, e, _, rfl, he, f, _, rfl, hf, g, _, rfl, hg, i, _, rfl, hi, rfl⟩ := h
  obtain ⟨_, rfl, k1⟩ := fit_int ha
  obtain ⟨_, rfl, k2⟩ := fit_int hb
  obtain ⟨_, rfl, k3⟩ := fit_int hc
  obtain ⟨_, rfl, k4⟩ := fit_int hd
  obtain ⟨_, rfl, k5⟩ := fit_int he
  obtain ⟨_, rfl, k6⟩ := fit_int hf
  obtain ⟨_, rfl, k7⟩ := fit_int hg
  obtain ⟨_, rfl, k8⟩ := fit_w hi
  exact ⟨⟨_, _, _, _, _, _, _, _⟩, rfl, k1, k2, k3, k4, k5, k6, k7, k8⟩
structure BkOk (b : Bk) : Prop where
  len : b.ins.length ≤ 140737488355328
  ins : ∀ t ∈ b.ins, TacOk t
  e : Int64 b.e
  v : Int64 b.v
  to : Int64 b.to
  el : Int64 b.el
theorem bk_of {x : AV} (h : Sh.fit bkSh x) : ∃ b : Bk, x = bkA b ∧ BkOk b := by
  simp only [bkSh, Sh.fit.eq_5, Sh.fitL] at h
  obtain ⟨ys, rfl, a, _, rfl, ha, b, _, rfl, hb, c, _, rfl, hc, d, _, rfl, hd, e, _, rfl, he, rfl⟩ := h
  obtain ⟨_, rfl, k2⟩ := fit_int hb
  obtain ⟨_, rfl, k3⟩ := fit_int hc
  obtain ⟨_, rfl, k4⟩ := fit_int hd
  obtain ⟨_, rfl, k5⟩ := fit_int he
  simp only [Sh.fit.eq_4] at ha
  obtain ⟨xs, rfl, _, h1, h2⟩ := ha
  obtain ⟨l, rfl, h3⟩ := maps_of (f := tacA) (p := TacOk) (fun y hy => tac_of hy) xs h2
  exact ⟨⟨l, _, _, _, _⟩, rfl, by simp [reachBytes] at h1 ⊢; omega, h3, k2, k3, k4, k5⟩
structure BfOk (f : BF) : Prop where
  r : Int64 f.regs
  len : f.bks.length ≤ 140737488355328
  bk : ∀ b ∈ f.bks, BkOk b
theorem bf_of {x : AV} (h : Sh.fit bfSh x) : ∃ f : BF, x = bfA f ∧ BfOk f := by
  simp only [bfSh, Sh.fit.eq_5, Sh.fitL] at h
  obtain ⟨ys, rfl, a, _, rfl, ha, e, _, rfl, he, rfl⟩ := h
  obtain ⟨r, rfl, k1⟩ := fit_int ha
  simp only [Sh.fit.eq_4] at he
  obtain ⟨xs, rfl, _, h1, h2⟩ := he
  obtain ⟨l, rfl, h3⟩ := maps_of (f := bkA) (p := BkOk) (fun y hy => bk_of hy) xs h2
  exact ⟨⟨r, l⟩, rfl, k1, by simp [reachBytes] at h1 ⊢; omega, h3⟩
theorem row_of {x : AV} (h : Sh.fit rowSh x) : ∃ l : List Bool, x = bools l ∧ l.length ≤ 140737488355328 := by
  simp only [rowSh, Sh.fit.eq_4] at h
  obtain ⟨xs, rfl, _, h1, h2⟩ := h
  obtain ⟨l, rfl, _⟩ := maps_of (f := B) (p := fun _ => True) (fun y hy => by obtain ⟨b, rfl⟩ := fit_b hy; exact ⟨b, rfl, trivial⟩) xs h2
  exact ⟨l, rfl, by simp [reachBytes] at h1 ⊢; omega⟩
theorem rows_of {x : AV} (h : Sh.fit rowsSh x) : ∃ m : List (List Bool), x = rowsA m ∧ m.length ≤ 140737488355328 ∧ ∀ l ∈ m, l.length ≤ 140737488355328 := by
  simp only [rowsSh, Sh.fit.eq_4] at h
  obtain ⟨xs, rfl, _, h1, h2⟩ := h
  obtain ⟨m, rfl, h3⟩ := maps_of (f := bools) (p := fun l => l.length ≤ 140737488355328) (fun y hy => row_of hy) xs h2
  exact ⟨m, rfl, by simp [reachBytes] at h1 ⊢; omega, h3⟩
/-- Tables whose rows are no longer than may be. -/
structure LOK (L : LD) : Prop where
  i : L.inn.length ≤ 140737488355328
  o : L.out.length ≤ 140737488355328
  ir : ∀ l ∈ L.inn, l.length ≤ 140737488355328
  or : ∀ l ∈ L.out, l.length ≤ 140737488355328
theorem live_of {x : AV} (h : Sh.fit liveSh x) : ∃ L : LD, x = liveA L ∧ LOK L := by
  simp only [liveSh, Sh.fit.eq_5, Sh.fitL] at h
  obtain ⟨ys, rfl, a, _, rfl, ha, e, _, rfl, he, rfl⟩ := h
  obtain ⟨i, rfl, h1, h2⟩ := rows_of ha
  obtain ⟨o, rfl, h3, h4⟩ := rows_of he
  exact ⟨⟨i, o⟩, rfl, h1, h3, h2, h4⟩
theorem fitS_cons {s : Sh} {ss : List Sh} {ys : List AV} (h : Sh.fitL (s :: ss) ys) : ∃ y ys', ys = y :: ys' ∧ s.fit y ∧ Sh.fitL ss ys' := by
  simp only [Sh.fitL] at h; exact h
end Go.Proofs.Ytjdeediehmhdoaa
