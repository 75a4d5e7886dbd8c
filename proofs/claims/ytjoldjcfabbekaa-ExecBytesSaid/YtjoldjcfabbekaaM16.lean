/-
  The machine: states and images as data. No condition.
-/
import Derived.Test.YtjoldjcfabbekaaM14A
import Derived.Test.YtjoldjcfabbekaaVH
import Derived.Test.YtjoldjcfabbekaaVG
import Derived.SizedLaws
namespace Go.Proofs.Ytjoldjcfabbekaa
set_option linter.unusedSimpArgs false
set_option linter.unusedVariables false
set_option maxRecDepth 10000
open Go.V Go.ChangeShapes Go.WideShapes Go.ChangeAt Go.RowKit

theorem Try.own : ownKnob Try.prog.godebug = none := by kernel_rfl
theorem Try.laidOut : laidOutB Try.prog = true := by kernel_rfl

abbrev wSh : Sh := .int .u32
abbrev imSh : Sh := .agg [.sl 1 4 wSh, .int .i64]
abbrev stSh : Sh := .agg [.int .i64, wSh, wSh, wSh, wSh, wSh, wSh, wSh, wSh, wSh, wSh, wSh, wSh, wSh, wSh, wSh, wSh, .sl 1 4 wSh, .int .i64, .str, .int .i64, .int .i64]

theorem fit_w {x : AV} (h : Sh.fit wSh x) : ∃ n : Int, x = U32 n ∧ In32 n := by
  simp only [wSh, Sh.fit] at h
  obtain ⟨n, rfl, h⟩ := h
  simp [Lit.wf, IntKind.min, IntKind.max, IntKind.bits, IntKind.signed] at h
  exact ⟨n, rfl, by unfold In32; omega⟩
theorem fit_ws {x : AV} (h : Sh.fit (.sl 1 4 wSh) x) : ∃ l : List Int, x = words l ∧ (∀ y ∈ l, In32 y) ∧ l.length ≤ 70368744177664 := by
  simp only [Sh.fit] at h
  obtain ⟨xs, rfl, h0, h1, h2⟩ := h
  obtain ⟨l, rfl, h3⟩ := maps_of (f := U32) (p := In32) (fun y hy => fit_w (show Sh.fit wSh y by simp only [Sh.fit]; exact hy)) xs h2
  exact ⟨l, rfl, h3, by simp [reachBytes] at h1; omega⟩

structure Im (code : List Int) (data : Int) : Prop where
  fit : ∀ x ∈ code, In32 x
  len : code.length ≤ 70368744177664
  word : Int64 data
theorem im_of {x : AV} (h : Sh.fit imSh x) : ∃ code data, x = imgA code data ∧ Im code data := by
  simp only [imSh, Sh.fit.eq_5, Sh.fitL] at h
  obtain ⟨ys, rfl, a, ys1, rfl, ha, b, ys2, rfl, hb, rfl⟩ := h
  obtain ⟨l, rfl, h1, h2⟩ := fit_ws ha
  obtain ⟨n, rfl, h3⟩ := fit_int hb
  exact ⟨l, n, rfl, h1, h2, h3⟩

structure StF (s : S) : Prop where
  wf : Wf s
  pc : Int64 s.pc
  rd : Int64 s.rd
  st : Int64 s.st
  fin : Int64 s.fin
  len : s.mem.length ≤ 70368744177664
theorem st_of {x : AV} (h : Sh.fit stSh x) : ∃ s : S, x = stA s ∧ StF s := by
  simp only [stSh, Sh.fit.eq_5, Sh.fitL] at h
  obtain ⟨ys, rfl, xp, _, rfl, hp, x0, _, rfl, h0, x1, _, rfl, h1, x2, _, rfl, h2, x3, _, rfl, h3, x4, _, rfl, h4, x5, _, rfl, h5, x6, _, rfl, h6, x7, _, rfl, h7, x8, _, rfl, h8, x9, _, rfl, h9, x10, _, rfl, h10, x11, _, rfl, h11, x12, _, rfl, h12, x13, _, rfl, h13, x14, _, rfl, h14, x15, _, rfl, h15, xm, _, rfl, hm, xr, _, rfl, hr, xo, _, rfl, ho, xs, _, rfl, hs, xf, _, rfl, hf, rfl⟩ := h
  obtain ⟨pc, rfl, kp⟩ := fit_int hp
  obtain ⟨r0, rfl, k0⟩ := fit_w h0
  obtain ⟨r1, rfl, k1⟩ := fit_w h1
  obtain ⟨r2, rfl, k2⟩ := fit_w h2
  obtain ⟨r3, rfl, k3⟩ := fit_w h3
  obtain ⟨r4, rfl, k4⟩ := fit_w h4
  obtain ⟨r5, rfl, k5⟩ := fit_w h5
  obtain ⟨r6, rfl, k6⟩ := fit_w h6
  obtain ⟨r7, rfl, k7⟩ := fit_w h7
  obtain ⟨r8, rfl, k8⟩ := fit_w h8
  obtain ⟨r9, rfl, k9⟩ := fit_w h9
  obtain ⟨r10, rfl, k10⟩ := fit_w h10
  obtain ⟨r11, rfl, k11⟩ := fit_w h11
  obtain ⟨r12, rfl, k12⟩ := fit_w h12
  obtain ⟨r13, rfl, k13⟩ := fit_w h13
  obtain ⟨r14, rfl, k14⟩ := fit_w h14
  obtain ⟨r15, rfl, k15⟩ := fit_w h15
  obtain ⟨mem, rfl, hm1, hm2⟩ := fit_ws hm
  obtain ⟨rd, rfl, kr⟩ := fit_int hr
  simp only [Sh.fit] at ho
  obtain ⟨out, rfl, ho⟩ := ho
  obtain ⟨st, rfl, ks⟩ := fit_int hs
  obtain ⟨fin, rfl, kf⟩ := fit_int hf
  have hreg : ∀ x ∈ [r0, r1, r2, r3, r4, r5, r6, r7, r8, r9, r10, r11, r12, r13, r14, r15], In32 x := by
    intro x hx
    simp only [List.mem_cons, List.not_mem_nil, or_false] at hx
    rcases hx with rfl | rfl | rfl | rfl | rfl | rfl | rfl | rfl | rfl | rfl | rfl | rfl | rfl | rfl | rfl | rfl <;> assumption
  refine ⟨⟨pc, fun k => [r0, r1, r2, r3, r4, r5, r6, r7, r8, r9, r10, r11, r12, r13, r14, r15].getD k 0, mem, rd, out, st, fin⟩, rfl, ⟨fun k => ?_, hm1⟩, kp, kr, ks, kf, hm2⟩
  simp only [List.getD]
  cases hk : [r0, r1, r2, r3, r4, r5, r6, r7, r8, r9, r10, r11, r12, r13, r14, r15][k]? with
  | none => exact ⟨Int.le_refl _, by decide⟩
  | some x => exact hreg x (List.mem_of_getElem? hk)
end Go.Proofs.Ytjoldjcfabbekaa
