/-
  Two more given programs: a function called twice; places of an array. No condition.
-/
import Derived.Test.YtdfdkoajphcjbaaSE
namespace Go.Proofs.Ytdfdkoajphcjbaa
set_option linter.unusedSimpArgs false
set_option linter.unusedVariables false
open Go.V

theorem b2sT_one {x : UInt8} {C : ByteArray → Prop} : b2sT [U8 x] C .mk = C ⟨#[x]⟩ := b2sT_U8 (l := [x])
theorem b2sT_two {x y : UInt8} {C : ByteArray → Prop} : b2sT [U8 x, U8 y] C .mk = C ⟨#[x, y]⟩ := b2sT_U8 (l := [x, y])
theorem u8_byteS (v : Int) : (AV.val (.int .u8 (IntKind.u8.wrap v))) = U8 (byteS v) := by rw [← byteS_eq]

theorem len2 {s : SP} {n : Nat} (h : ∀ g ∈ s.funcs, g.code.length ≤ n) (f : Nat) : (s.fn f).code.length ≤ n := by
  unfold SP.fn
  rw [List.getD]
  cases hf : s.funcs[f]? with
  | none => exact Nat.zero_le _
  | some g => exact h g (List.mem_of_getElem? hf)
theorem fn_of {s : SP} {p : SF → Prop} (h : ∀ g ∈ s.funcs, p g) (h0 : p default) (f : Nat) : p (s.fn f) := by
  unfold SP.fn
  rw [List.getD]
  cases hf : s.funcs[f]? with
  | none => exact h0
  | some g => exact h g (List.mem_of_getElem? hf)

/-- A program of the given kind as an argument: small, its numbers words. -/
structure Giv (s : SP) : Prop where
  right : RightP s
  wf : WfP s
  fn : ∀ g ∈ s.funcs, g.code.length ≤ 1000000 ∧ Int64 g.params ∧ Int64 g.slots ∧ Int64 g.first
theorem Giv.fit {s : SP} (h : Giv s) : FitP s := FitP.of h.wf h.right (len2 fun g hg => (h.fn g hg).1)
theorem Giv.runN {s : SP} (h : Giv s) (inp : ByteArray) (fuel : Int) (hfu : fuel ≤ 60000) (hi : inp.size ≤ 1000000000) :
    ContractN Try.prog 12 [spA s, strv inp, I fuel] (fun r => r = resS (runS s inp (startS s) fuel.toNat)) := srunN_c s inp fuel h.fit h.right hfu hi
theorem Giv.rightN {s : SP} (h : Giv s) : ContractN Try.prog 14 [spA s] (fun r => r = B true) := by
  have d : Int64 (default : Int) := ⟨by decide, by decide⟩
  have hn1 := h.right.n1
  have hw0 := h.right.w0
  have hw1 := h.right.w1
  exact srightN_c s ⟨by omega, h.fit.code, fn_of (p := fun g => Int64 g.params) (fun g hg => (h.fn g hg).2.1) d⟩ (by unfold V.Int64; omega)
    (fn_of (p := fun g => Int64 g.slots ∧ Int64 g.first) (fun g hg => ⟨(h.fn g hg).2.2.1, (h.fn g hg).2.2.2⟩) ⟨d, d⟩) h.right

theorem i64_lit {n : Int} (h : 0 ≤ n ∧ n ≤ 100000) : Int64 n := by unfold V.Int64; omega
theorem cls_giv (a b c : Int) (ha : In32 a) (hb : In32 b) (hc : In32 c) : Giv (clsP a b c) := by
  have z : In32 0 := In32.zero
  refine ⟨cls_right a b c, fun g hg x hx => ?_, fun g hg => ?_⟩
  · simp only [clsP, List.mem_cons, List.not_mem_nil, or_false] at hg
    rcases hg with rfl | rfl
    · simp only [clsF, List.mem_cons, List.not_mem_nil, or_false] at hx
      rcases hx with rfl | rfl | rfl | rfl | rfl | rfl | rfl | rfl <;> first | exact z | exact hc
    · simp only [clsC, List.cons_append, List.nil_append, List.mem_cons, List.not_mem_nil, or_false] at hx
      rcases hx with rfl | rfl | rfl | rfl | rfl | rfl | rfl | rfl | rfl <;> first | exact z | exact ha | exact hb
  · simp only [clsP, List.mem_cons, List.not_mem_nil, or_false] at hg
    rcases hg with rfl | rfl <;> exact ⟨by simp [clsF, clsC], i64_lit (by simp), i64_lit (by simp), i64_lit (by simp)⟩
theorem ops_giv (k a b : Int) (hk : 4 ≤ k ∧ k ≤ 15) (ha : In32 a) (hb : In32 b) : Giv (opsP k a b) := by
  have z : In32 0 := In32.zero
  refine ⟨ops_right k a b hk, fun g hg x hx => ?_, fun g hg => ?_⟩
  · simp only [opsP, List.mem_cons, List.not_mem_nil, or_false] at hg
    subst hg
    simp only [opsL, shI, List.cons_append, List.nil_append, List.mem_cons, List.not_mem_nil, or_false] at hx
    rcases hx with rfl | rfl | rfl | rfl | rfl | rfl | rfl | rfl | rfl | rfl | rfl | rfl | rfl | rfl | rfl | rfl | rfl | rfl | rfl | rfl | rfl <;> first | exact z | exact ha | exact hb | exact ⟨by decide, by decide⟩
  · simp only [opsP, List.mem_cons, List.not_mem_nil, or_false] at hg
    subst hg
    exact ⟨by simp [opsL, shI], i64_lit (by simp), i64_lit (by simp), i64_lit (by simp)⟩
theorem plP_giv (n i v : Int) (hn : 1 ≤ n ∧ n ≤ 4096) (hi : In32 i) (hv : In32 v) : Giv (plP n i v) := by
  have z : In32 0 := In32.zero
  refine ⟨pl_right n i v hn, fun g hg x hx => ?_, fun g hg => ?_⟩
  · simp only [plP, List.mem_cons, List.not_mem_nil, or_false] at hg
    subst hg
    simp only [plS, plL, List.cons_append, List.nil_append, List.mem_cons, List.not_mem_nil, or_false] at hx
    rcases hx with rfl | rfl | rfl | rfl | rfl | rfl | rfl <;> first | exact z | exact hi | exact hv
  · simp only [plP, List.mem_cons, List.not_mem_nil, or_false] at hg
    subst hg
    exact ⟨by simp [plS, plL], i64_lit (by simp), i64_lit (by simp), i64_lit (by simp)⟩
theorem plQ_giv (n i : Int) (hn : 1 ≤ n ∧ n ≤ 4096) (hi : In32 i) : Giv (plQ n i) := by
  have z : In32 0 := In32.zero
  refine ⟨plQ_right n i hn, fun g hg x hx => ?_, fun g hg => ?_⟩
  · simp only [plQ, List.mem_cons, List.not_mem_nil, or_false] at hg
    subst hg
    simp only [plL, List.mem_cons, List.not_mem_nil, or_false] at hx
    rcases hx with rfl | rfl | rfl | rfl <;> first | exact z | exact hi
  · simp only [plQ, List.mem_cons, List.not_mem_nil, or_false] at hg
    subst hg
    exact ⟨by simp [plL], i64_lit (by simp), i64_lit (by simp), i64_lit (by simp)⟩

theorem pl_two (n i v : Int) (inp : ByteArray) (m : List Int) : runS (plP n i v) inp ⟨m, 0, [], 0, 0, ⟨0, 0, []⟩, []⟩ 2 = ⟨m, 0, [], 2, 0, ⟨0, 2, [v, i]⟩, []⟩ := by kernel_rfl
theorem pl_st (n i v : Int) (inp : ByteArray) (m : List Int) : runS (plP n i v) inp ⟨m, 0, [], 2, 0, ⟨0, 2, [v, i]⟩, []⟩ 1 =
    if i < n then ⟨m.set (2 + i).toNat v, 0, [], 3, 0, ⟨0, 3, []⟩, []⟩ else ⟨m, 0, [], 3, 3, ⟨0, 3, [v, i]⟩, []⟩ := by kernel_rfl
theorem pl_push (n i v : Int) (inp : ByteArray) (m : List Int) : runS (plP n i v) inp ⟨m, 0, [], 3, 0, ⟨0, 3, []⟩, []⟩ 1 = ⟨m, 0, [], 4, 0, ⟨0, 4, [i]⟩, []⟩ := by kernel_rfl
theorem pl_ld (n i v : Int) (inp : ByteArray) (m : List Int) : runS (plP n i v) inp ⟨m, 0, [], 4, 0, ⟨0, 4, [i]⟩, []⟩ 1 =
    if i < n then ⟨m, 0, [], 5, 0, ⟨0, 5, [m.getD (2 + i).toNat default]⟩, []⟩ else ⟨m, 0, [], 5, 3, ⟨0, 5, [i]⟩, []⟩ := by kernel_rfl
theorem pl_put (n i v x : Int) (inp : ByteArray) (m : List Int) : runS (plP n i v) inp ⟨m, 0, [], 5, 0, ⟨0, 5, [x]⟩, []⟩ 2 = ⟨m, 0, [byteS x], 7, 1, ⟨0, 7, []⟩, []⟩ := by kernel_rfl
theorem q_push (n i : Int) (inp : ByteArray) (m : List Int) : runS (plQ n i) inp ⟨m, 0, [], 0, 0, ⟨0, 0, []⟩, []⟩ 1 = ⟨m, 0, [], 1, 0, ⟨0, 1, [i]⟩, []⟩ := by kernel_rfl
theorem q_ld (n i : Int) (inp : ByteArray) (m : List Int) : runS (plQ n i) inp ⟨m, 0, [], 1, 0, ⟨0, 1, [i]⟩, []⟩ 1 =
    if i < n then ⟨m, 0, [], 2, 0, ⟨0, 2, [m.getD (2 + i).toNat default]⟩, []⟩ else ⟨m, 0, [], 2, 3, ⟨0, 2, [i]⟩, []⟩ := by kernel_rfl
theorem q_put (n i x : Int) (inp : ByteArray) (m : List Int) : runS (plQ n i) inp ⟨m, 0, [], 2, 0, ⟨0, 2, [x]⟩, []⟩ 2 = ⟨m, 0, [byteS x], 4, 1, ⟨0, 4, []⟩, []⟩ := by kernel_rfl
theorem pl_out (n i v : Int) (inp : ByteArray) (h : ¬ i < n) : resS (runS (plP n i v) inp (startS (plP n i v)) 100) = .agg [I 3, strv ⟨#[]⟩, I 3] := by
  rw [runS_end (k := 2 + 1) (τ := ⟨List.replicate (n + 2).toNat 0, 0, [], 3, 3, ⟨0, 3, [v, i]⟩, []⟩) ?_ (by simp) (by omega)]
  · rfl
  · rw [runS_add, show startS (plP n i v) = ⟨List.replicate (n + 2).toNat 0, 0, [], 0, 0, ⟨0, 0, []⟩, []⟩ by kernel_rfl, pl_two, pl_st, if_neg h]
theorem pl_in (n i v : Int) (inp : ByteArray) (hn : 1 ≤ n) (hi : 0 ≤ i) (h : i < n) : resS (runS (plP n i v) inp (startS (plP n i v)) 100) = .agg [I 1, strv ⟨#[byteS v]⟩, I 7] := by
  have hg : ((List.replicate (n + 2).toNat (0 : Int)).set (2 + i).toNat v).getD (2 + i).toNat default = v := by
    rw [List.getD, List.getElem?_set_self (by simp; omega)]; rfl
  rw [runS_end (k := 2 + 1 + 1 + 1 + 2) (τ := ⟨(List.replicate (n + 2).toNat 0).set (2 + i).toNat v, 0, [byteS v], 7, 1, ⟨0, 7, []⟩, []⟩) ?_ (by simp) (by omega)]
  · rfl
  · rw [runS_add, runS_add, runS_add, runS_add, show startS (plP n i v) = ⟨List.replicate (n + 2).toNat 0, 0, [], 0, 0, ⟨0, 0, []⟩, []⟩ by kernel_rfl, pl_two, pl_st, if_pos h, pl_push, pl_ld, if_pos h, pl_put, hg]
theorem q_out (n i : Int) (inp : ByteArray) (h : ¬ i < n) : resS (runS (plQ n i) inp (startS (plQ n i)) 100) = .agg [I 3, strv ⟨#[]⟩, I 2] := by
  rw [runS_end (k := 1 + 1) (τ := ⟨List.replicate (n + 2).toNat 0, 0, [], 2, 3, ⟨0, 2, [i]⟩, []⟩) ?_ (by simp) (by omega)]
  · rfl
  · rw [runS_add, show startS (plQ n i) = ⟨List.replicate (n + 2).toNat 0, 0, [], 0, 0, ⟨0, 0, []⟩, []⟩ by kernel_rfl, q_push, q_ld, if_neg h]
theorem q_in (n i : Int) (inp : ByteArray) (hn : 1 ≤ n) (hi : 0 ≤ i) (h : i < n) : resS (runS (plQ n i) inp (startS (plQ n i)) 100) = .agg [I 1, strv ⟨#[0]⟩, I 4] := by
  have hg : (List.replicate (n + 2).toNat (0 : Int)).getD (2 + i).toNat default = 0 := by
    rw [List.getD, List.getElem?_replicate, if_pos (by omega)]; rfl
  rw [runS_end (k := 1 + 1 + 2) (τ := ⟨List.replicate (n + 2).toNat 0, 0, [byteS 0], 4, 1, ⟨0, 4, []⟩, []⟩) ?_ (by simp) (by omega)]
  · rfl
  · rw [runS_add, runS_add, show startS (plQ n i) = ⟨List.replicate (n + 2).toNat 0, 0, [], 0, 0, ⟨0, 0, []⟩, []⟩ by kernel_rfl, q_push, q_ld, if_pos h, q_put, hg]
end Go.Proofs.Ytdfdkoajphcjbaa
