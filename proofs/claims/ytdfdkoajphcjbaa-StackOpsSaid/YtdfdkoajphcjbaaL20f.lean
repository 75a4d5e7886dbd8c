/-
  StackOps: the row. No condition.
-/
import Derived.Test.YtdfdkoajphcjbaaSQ
import Derived.Test.YtdfdkoajphcjbaaSG
import Derived.Test.YtdfdkoajphcjbaaSA
import Derived.Test.YtdfdkoajphcjbaaSW
namespace Go.Proofs.Ytdfdkoajphcjbaa
set_option linter.unusedSimpArgs false
set_option linter.unusedVariables false
set_option maxRecDepth 10000
open Go.V Go.ChangeShapes Go.WideShapes Go.ChangeAt Go.RowKit


theorem fit_y {x : AV} (h : Sh.fit (.int .u8) x) : ∃ n : Int, x = .val (.int .u8 n) ∧ 0 ≤ n ∧ n ≤ 255 := by
  simp only [Sh.fit] at h
  obtain ⟨n, rfl, h⟩ := h
  simp [Lit.wf, IntKind.min, IntKind.max, IntKind.bits, IntKind.signed] at h
  exact ⟨n, rfl, by omega⟩
abbrev Y8 (n : Int) : AV := .val (.int .u8 n)
def lstO (k a b : Int) : Nat → List SI
  | 0 => [⟨1, 0, 0, a⟩, ⟨1, 0, 0, b⟩, ⟨6, k, 0, 0⟩, ⟨3, 0, 0, 0⟩]
  | n + 1 => lstO k a b n ++ shI (8 * n)
theorem lstO_length (k a b : Int) : ∀ n, (lstO k a b n).length = 4 + 4 * n
  | 0 => rfl
  | n + 1 => by simp [lstO, lstO_length k a b n, shI]; omega
theorem lstO_four (k a b : Int) : lstO k a b 4 ++ [⟨11, 0, 0, 0⟩] = opsL k a b := rfl
theorem flat_len : ∀ (l : List SI), ((l.map siC).flatten).length = l.length * 4
  | [] => rfl
  | x :: l => by rw [List.map_cons, List.flatten_cons, List.length_append, flat_len l]; simp [siC]; omega
theorem cells_next (k a b : Int) (n m : Nat) (hm : m = 4 + 4 * n) : (((lstO k a b n).map siC).flatten).take (m * 4) ++ [I 2, I 0, I 0, U32 0, I 1, I 0, I 0, U32 (8 * n), I 6, I 13, I 0, U32 0, I 13, I 0, I 0, U32 0] = ((lstO k a b (n + 1)).map siC).flatten := by
  rw [List.take_of_length_le (by rw [flat_len, lstO_length]; omega)]
  simp only [lstO, List.map_append, List.flatten_append, shI, siC, List.map_cons, List.map_nil, List.flatten_cons, List.flatten_nil, List.cons_append, List.nil_append]
theorem frz_u32 {H : List VObj} {nx id s ty : Nat} {v : Int} (ho : H[id]? = some ⟨s, ty, 1, [U32 v]⟩) : Frz 0 H nx (.ref id s 0 1) (.imm 1 [U32 v]) :=
  frz_map (l := [v]) (f := U32) (g := U32) (Nat.zero_le _) ho rfl (fun _ => rfl) fun _ _ => Frz.pure rfl
theorem stackops_c (o a b : Int) (ho : 0 ≤ o ∧ o ≤ 255) (ha : In32 a) (hb : In32 b) : Contract Try.prog 8 [Y8 o, U32 a, U32 b] (fun r => r = B true) := by
  refine Contract.of_call (VCall.of_body hmix f_sclaw20_StackOps (by simp) ?_)
  have hmx : (2000000 : Nat) ≤ maxLen := by decide
  obtain ⟨k, hk⟩ : ∃ k : Int, k = 4 + o.tmod 12 := ⟨_, rfl⟩
  have hk1 : 4 ≤ k ∧ k ≤ 15 := by rw [hk, Int.tmod_eq_emod_of_nonneg ho.1]; omega
  have w0 : IntKind.i64.wrap o = o := i64_in (by omega) (by omega)
  have w1 : IntKind.i64.wrap (o.tmod 12) = o.tmod 12 := by rw [show o.tmod 12 = k - 4 by omega]; exact i64_in (by omega) (by omega)
  have w2 : IntKind.i64.wrap (4 + o.tmod 12) = k := by rw [← hk]; exact i64_in (by omega) (by omega)
  simp only [go_sem,Nat.reduceEqDiff,Nat.reduceAdd,Nat.reduceMul,↓reduceIte,↓dreduceIte,reduceCtorEq,Nat.reduceLeDiff,Nat.reduceLT,Nat.reduceSub,Int.reduceToNat,Int.reduceLE,Int.reduceLT, one_ref, one_imm, Int.reduceLT, Int.reduceEq, Int.reduceBEq, c_sclaw20_StackOps]
  refine VCall.of_contract awake_c (SleL.pure rfl) fun r hr => ?_
  subst hr
  simp only [go_sem,Nat.reduceEqDiff,Nat.reduceAdd,Nat.reduceMul,↓reduceIte,↓dreduceIte,reduceCtorEq,Nat.reduceLeDiff,Nat.reduceLT,Nat.reduceSub,Int.reduceToNat,Int.reduceLE,Int.reduceLT, one_ref, one_imm, Int.reduceLT, Int.reduceEq, Int.reduceBEq, w0, w1, w2]
  refine VW_loop (fun q : Nat × Nat × Nat => ⟨[(1, U32 a), (2, U32 b), (7, I k), (8, .ref 0 q.2.1 0 (4 + 4 * q.1)), (9, I q.1)], [⟨q.2.1, 36, 4, ((lstO k a b q.1).map siC).flatten⟩], q.2.2⟩)
    (fun q => q.1 ≤ 4) (fun q => 4 - q.1) (0, 0, 1) (Wk.mk (by simp [get_cons]) ⟨[], by simp [lstO, siC]⟩ (Nat.le_refl _)) (by simp) ?_
  rintro ⟨n, s, nx⟩ hn
  simp only at hn
  simp only [go_sem,Nat.reduceEqDiff,Nat.reduceAdd,Nat.reduceMul,↓reduceIte,↓dreduceIte,reduceCtorEq,Nat.reduceLeDiff,Nat.reduceLT,Nat.reduceSub,Int.reduceToNat,Int.reduceLE,Int.reduceLT, one_ref, one_imm, Int.reduceLT, Int.reduceEq, Int.reduceBEq]
  refine ⟨fun h => ?_, fun h => ?_⟩
  · have w5 : IntKind.u32.wrap (8 * (n : Int)) = 8 * n := w32_in ⟨by omega, by omega⟩
    have w6 : IntKind.i64.wrap (8 * (n : Int)) = 8 * n := i64_in (by omega) (by omega)
    repeat (with_reducible refine And.intro (by first | omega | simp) ?_)
    refine ⟨(n + 1, nx + 1, nx + 1 + 1), by simp; omega, by simp; omega, ?_⟩
    rw [i64_in (by omega) (by omega), w6, w5, cells_next k a b n _ rfl]
    refine Wk.mk (by simp [get_cons]; omega) ⟨[⟨nx, 36, 4, [I 2, I 0, I 0, U32 0, I 1, I 0, I 0, U32 (8 * n), I 6, I 13, I 0, U32 0, I 13, I 0, I 0, U32 0]⟩], rfl⟩ (Nat.le_refl _)
  · obtain rfl : n = 4 := by omega
    repeat (with_reducible refine And.intro (by first | omega | simp) ?_)
    rw [show (((lstO k a b 4).map siC).flatten).take ((4 + 4 * 4) * 4) ++ [I 11, I 0, I 0, U32 0] = ((opsL k a b).map siC).flatten by
      rw [List.take_of_length_le (by rw [flat_len, lstO_length]; omega), ← lstO_four]
      simp only [List.map_append, List.flatten_append, siC, List.map_cons, List.map_nil, List.flatten_cons, List.flatten_nil, List.cons_append, List.nil_append]]
    refine VCall.of_contractN ((ops_giv k a b hk1 ha hb).runN ⟨#[]⟩ 100 (by omega) (by decide)) ?_ fun r hr => ?_
    · exact ⟨_, _, rfl, frz_one 1 ⟨0, 0, 0, false, opsL k a b⟩ rfl rfl, _, _, rfl, Frz.pure rfl, _, _, rfl, Frz.pure rfl, rfl⟩
    rw [show (100 : Int).toNat = 100 by rfl] at hr
    by_cases h : (applyW k a b).2 = 0
    · have hv : In32 (applyW k a b).1 := applyW_ok ha hb
      rw [ops_fine k a b _ h] at hr
      subst hr
      simp only [go_sem,Nat.reduceEqDiff,Nat.reduceAdd,Nat.reduceMul,↓reduceIte,↓dreduceIte,reduceCtorEq,Nat.reduceLeDiff,Nat.reduceLT,Nat.reduceSub,Int.reduceToNat,Int.reduceLE,Int.reduceLT, one_ref, one_imm, Int.reduceLT, Int.reduceEq, Int.reduceBEq, resS]
      refine VCall.of_contract (apply_c k a b hb.1) (SleL.pure rfl) fun r hr => ?_
      subst hr
      simp only [go_sem,Nat.reduceEqDiff,Nat.reduceAdd,Nat.reduceMul,↓reduceIte,↓dreduceIte,reduceCtorEq,Nat.reduceLeDiff,Nat.reduceLT,Nat.reduceSub,Int.reduceToNat,Int.reduceLE,Int.reduceLT, one_ref, one_imm, Int.reduceLT, Int.reduceEq, Int.reduceBEq, h, tup2]
      refine VCall.of_contractN (ops_giv k a b hk1 ha hb).rightN ?_ fun r hr => ?_
      · exact ⟨_, _, rfl, frz_one 1 ⟨0, 0, 0, false, opsL k a b⟩ rfl rfl, rfl⟩
      subst hr
      refine ⟨Stab.refl _ _ _, ?_⟩
      simp only [go_sem,Nat.reduceEqDiff,Nat.reduceAdd,Nat.reduceMul,↓reduceIte,↓dreduceIte,reduceCtorEq,Nat.reduceLeDiff,Nat.reduceLT,Nat.reduceSub,Int.reduceToNat,Int.reduceLE,Int.reduceLT, one_ref, one_imm, Int.reduceLT, Int.reduceEq, Int.reduceBEq]
      repeat' (with_reducible apply And.intro)
      all_goals
        refine VCall.of_contractN (bytes1_c (applyW k a b).1 hv) ?_ fun r hr => ?_
        · exact ⟨_, _, rfl, frz_u32 rfl, rfl⟩
        subst hr
        refine ⟨Stab.refl _ _ _, ?_⟩
        simp only [go_sem,Nat.reduceEqDiff,Nat.reduceAdd,Nat.reduceMul,↓reduceIte,↓dreduceIte,reduceCtorEq,Nat.reduceLeDiff,Nat.reduceLT,Nat.reduceSub,Int.reduceToNat,Int.reduceLE,Int.reduceLT, one_ref, one_imm, Int.reduceLT, Int.reduceEq, Int.reduceBEq]
        refine ⟨_, Frz.pure rfl, ?_⟩
        simp [ba_self, bytes1]
    · rw [ops_zero k a b _ h] at hr
      subst hr
      simp only [go_sem,Nat.reduceEqDiff,Nat.reduceAdd,Nat.reduceMul,↓reduceIte,↓dreduceIte,reduceCtorEq,Nat.reduceLeDiff,Nat.reduceLT,Nat.reduceSub,Int.reduceToNat,Int.reduceLE,Int.reduceLT, one_ref, one_imm, Int.reduceLT, Int.reduceEq, Int.reduceBEq, resS]
      refine VCall.of_contract (apply_c k a b hb.1) (SleL.pure rfl) fun r hr => ?_
      subst hr
      simp only [go_sem,Nat.reduceEqDiff,Nat.reduceAdd,Nat.reduceMul,↓reduceIte,↓dreduceIte,reduceCtorEq,Nat.reduceLeDiff,Nat.reduceLT,Nat.reduceSub,Int.reduceToNat,Int.reduceLE,Int.reduceLT, one_ref, one_imm, Int.reduceLT, Int.reduceEq, Int.reduceBEq, h, tup2]
      refine ⟨_, Frz.pure rfl, ?_⟩
      simp [ba_self]

set_option maxRecDepth 100000 in
theorem stackops_lifted (os : Os) (started : os.Started) (H : Type) (enc : TypeId × Value → H) :
    ReturnsInHanded {} Try.checked os 8 .any (Rows.stackOpsSpec.pre6 enc Try.prog Try.f8 Rows.stackOpsRow.domain false) (Rows.stackOpsSpec.post enc Try.prog Try.f8 false true false false) := by
  refine returnsInHanded_of_change_sized (C := Try.checked) Try.own started (by kernel_rfl) Try.func8
    (ChangeSpec.witness6 (enc := enc) (C := Try.checked) false ⟨#[], #[.int .u8 0, .int .u32 0, .int .u32 0], []⟩ 8 (by kernel_rfl) (by kernel_rfl) (by kernel_rfl) (by kernel_rfl)) ?_
  intro W base args ds gs before hval hW _ hwt _
  refine law_calls (P := Try.prog) (n := 20) (shs := [.int .u8, .int .u32, .int .u32]) (tb := 4) Try.laidOut rfl (by kernel_rfl) (by kernel_rfl) (by decide +kernel) (by kernel_rfl) (fun ds h => ?_) (fun xs hx => ?_) hval hW hwt
  · match ds, h with
    | [d1, d2, d3], _ => rfl
  · obtain ⟨x, xs', rfl, hx1, hxs⟩ := fitS_cons hx
    obtain ⟨y, ys', rfl, hy, hys⟩ := fitS_cons hxs
    obtain ⟨z, zs', rfl, hz, hzs⟩ := fitS_cons hys
    simp only [Sh.fitL] at hzs
    subst hzs
    obtain ⟨a, rfl, ha⟩ := fit_y hx1
    obtain ⟨b, rfl, hb⟩ := fit_w hy
    obtain ⟨c, rfl, hc⟩ := fit_w hz
    exact stackops_c a b c ha hb hc

theorem stackops_holds : Rows.StackOpsSaid :=
  OpenClaim.holds_of_wide 8 Try.f8 rfl rfl rfl rfl rfl rfl rfl ⟨rfl, rfl, rfl, rfl, rfl⟩ rfl rfl rfl rfl rfl (by kernel_rfl) Try.func8 (by kernel_rfl)
    (of_decide_eq_true (by kernel_rfl)) (by unfold Func.isWrapper; first | (rw [if_pos (by decide +kernel)]; kernel_rfl) | (rw [if_neg (by decide +kernel)]; exact ⟨rfl, rfl⟩))
    (fun os started H enc _ => stackops_lifted os started H enc)
end Go.Proofs.Ytdfdkoajphcjbaa
