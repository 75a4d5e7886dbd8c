/-
  MachineRuns: the row. No condition.
-/
import Derived.Test.YtjkkmpkbiddhkaaCodeB
import Derived.Test.YtjkkmpkbiddhkaaM19
namespace Go.Proofs.Ytjkkmpkbiddhkaa
set_option linter.unusedSimpArgs false
set_option linter.unusedVariables false
set_option maxRecDepth 10000
open Go.V Go.ChangeShapes Go.WideShapes Go.ChangeAt Go.RowKit

theorem fit_u8 {x : AV} (h : Sh.fit (.int .u8) x) : ∃ n : Int, x = .val (.int .u8 n) ∧ 0 ≤ n ∧ n ≤ 255 := by
  simp only [Sh.fit] at h
  obtain ⟨n, h1, h2⟩ := h
  simp [Lit.wf, IntKind.min, IntKind.max, IntKind.bits, IntKind.signed] at h2
  exact ⟨n, h1, by omega, by omega⟩

theorem machineruns_c (code : List Int) (data : Int) (inp : ByteArray) (n : Int) (h : Im code data) (hn : 0 ≤ n ∧ n ≤ 255) :
    Contract Try.prog 5 [imgA code data, strv inp, .val (.int .u8 n)] (fun r => r = B true) := by
  refine Contract.of_call (VCall.of_body hmix f_sclaw09_MachineRuns (by simp) ?_)
  have hcode := h.fit
  by_cases h1 : (200 : Int) < (code.length : Int)
  · simp only [go_sem,Nat.reduceEqDiff,Nat.reduceAdd,Nat.reduceMul,↓reduceIte,↓dreduceIte,reduceCtorEq,Nat.reduceLeDiff,Nat.reduceLT,Nat.reduceSub,Int.reduceToNat,Int.reduceLE,Int.reduceLT, c_sclaw09_MachineRuns, one_imm, eq_true h1]
    refine VCall.of_contract awake_c (SleL.pure rfl) fun x hx => ?_
    subst hx
    simp only [go_sem,Nat.reduceEqDiff,Nat.reduceAdd,Nat.reduceMul,↓reduceIte,↓dreduceIte,reduceCtorEq,Nat.reduceLeDiff,Nat.reduceLT,Nat.reduceSub,Int.reduceToNat,Int.reduceLE,Int.reduceLT]
    exact ⟨_, Frz.pure rfl, rfl⟩
  by_cases h2 : (200 : Int) < (inp.size : Int)
  · simp only [go_sem,Nat.reduceEqDiff,Nat.reduceAdd,Nat.reduceMul,↓reduceIte,↓dreduceIte,reduceCtorEq,Nat.reduceLeDiff,Nat.reduceLT,Nat.reduceSub,Int.reduceToNat,Int.reduceLE,Int.reduceLT, c_sclaw09_MachineRuns, one_imm, eq_false h1, eq_true h2]
    refine VCall.of_contract awake_c (SleL.pure rfl) fun x hx => ?_
    subst hx
    simp only [go_sem,Nat.reduceEqDiff,Nat.reduceAdd,Nat.reduceMul,↓reduceIte,↓dreduceIte,reduceCtorEq,Nat.reduceLeDiff,Nat.reduceLT,Nat.reduceSub,Int.reduceToNat,Int.reduceLE,Int.reduceLT]
    exact ⟨_, Frz.pure rfl, rfl⟩
  by_cases h3 : (200 : Int) < data
  · simp only [go_sem,Nat.reduceEqDiff,Nat.reduceAdd,Nat.reduceMul,↓reduceIte,↓dreduceIte,reduceCtorEq,Nat.reduceLeDiff,Nat.reduceLT,Nat.reduceSub,Int.reduceToNat,Int.reduceLE,Int.reduceLT, c_sclaw09_MachineRuns, one_imm, eq_false h1, eq_false h2, eq_true h3]
    refine VCall.of_contract awake_c (SleL.pure rfl) fun x hx => ?_
    subst hx
    simp only [go_sem,Nat.reduceEqDiff,Nat.reduceAdd,Nat.reduceMul,↓reduceIte,↓dreduceIte,reduceCtorEq,Nat.reduceLeDiff,Nat.reduceLT,Nat.reduceSub,Int.reduceToNat,Int.reduceLE,Int.reduceLT]
    exact ⟨_, Frz.pure rfl, rfl⟩
  obtain ⟨m, hm⟩ : ∃ m : Nat, (m : Int) = n % 41 := ⟨(n % 41).toNat, by omega⟩
  have hm40 : m ≤ 40 := by omega
  have hn1 : IntKind.u8.wrap (n.tmod 41) = m := by rw [Int.tmod_eq_emod_of_nonneg hn.1, IntKind.wrap_u8]; omega
  have hn2 : IntKind.i64.wrap ((m : Nat) : Int) = m := i64_in (by omega) (by omega)
  have hmk : n.tmod 41 = m := by rw [Int.tmod_eq_emod_of_nonneg hn.1]; omega
  simp only [go_sem,Nat.reduceEqDiff,Nat.reduceAdd,Nat.reduceMul,↓reduceIte,↓dreduceIte,reduceCtorEq,Nat.reduceLeDiff,Nat.reduceLT,Nat.reduceSub,Int.reduceToNat,Int.reduceLE,Int.reduceLT, c_sclaw09_MachineRuns, one_imm, eq_false h1, eq_false h2, eq_false h3]
  refine ECall.of (start_c code data) (SleL.pure rfl) ⟨_, fun _ => Iff.rfl⟩ fun x hx => ?_
  subst hx
  simp only [go_sem,Nat.reduceEqDiff,Nat.reduceAdd,Nat.reduceMul,↓reduceIte,↓dreduceIte,reduceCtorEq,Nat.reduceLeDiff,Nat.reduceLT,Nat.reduceSub,Int.reduceToNat,Int.reduceLE,Int.reduceLT, s_all, s_zero, s_put, s_put', stc_length, stc_all, one_imm]
  refine ECall.of (refstart_c code data) (SleL.pure rfl) ⟨_, fun _ => Iff.rfl⟩ fun x hx => ?_
  subst hx
  simp only [go_sem,Nat.reduceEqDiff,Nat.reduceAdd,Nat.reduceMul,↓reduceIte,↓dreduceIte,reduceCtorEq,Nat.reduceLeDiff,Nat.reduceLT,Nat.reduceSub,Int.reduceToNat,Int.reduceLE,Int.reduceLT, s_all, s_zero, s_put, s_put', stc_length, stc_all, one_imm]
  refine ⟨?_, ?_⟩
  ·
    refine VW_loop (fun q : S × Nat => ⟨[(1, strv inp), (2, .val (.int .u8 n)), (3, .ptr 0 0 0), (6, B false), (7, .ptr 1 1 0), (8, .ptr 2 2 0), (9, I q.2)], [⟨0, 24, 1, [words code, I data]⟩, ⟨1, 30, 1, stc q.1.pc q.1.reg (words q.1.mem) q.1.rd q.1.out q.1.st q.1.fin⟩, ⟨2, 30, 1, stc q.1.pc q.1.reg (words q.1.mem) q.1.rd q.1.out q.1.st q.1.fin⟩], 3⟩)
      (fun q => Wf q.1 ∧ q.1.mem.length ≤ 32768 ∧ q.1.out.size ≤ q.2 ∧ q.2 ≤ m) (fun q => m - q.2) (startF data, 0) (Wk.mk (by simp [get_cons]) ⟨[], rfl⟩ (Nat.le_refl _))
      ⟨wf_start data, start_len data, Nat.le_refl _, Nat.zero_le _⟩ ?_
    rintro ⟨s, k⟩ ⟨w1, w2, w3, w4⟩
    simp only at w1 w2 w3 w4
    by_cases hk : (k : Int) < m
    · simp only [go_sem,Nat.reduceEqDiff,Nat.reduceAdd,Nat.reduceMul,↓reduceIte,↓dreduceIte,reduceCtorEq,Nat.reduceLeDiff,Nat.reduceLT,Nat.reduceSub,Int.reduceToNat,Int.reduceLE,Int.reduceLT, hn1, hn2, hmk, eq_true hk, s_all, s_zero, s_put, s_put', stc_length, stc_all, one_imm]
      refine ⟨by omega, ?_⟩
      refine ECall.of (step_c code data inp s hcode (by omega) (by omega) w1 (by omega) (by omega)) (SleL.pure rfl) ⟨_, fun _ => Iff.rfl⟩ fun x hx => ?_
      subst hx
      simp only [go_sem,Nat.reduceEqDiff,Nat.reduceAdd,Nat.reduceMul,↓reduceIte,↓dreduceIte,reduceCtorEq,Nat.reduceLeDiff,Nat.reduceLT,Nat.reduceSub,Int.reduceToNat,Int.reduceLE,Int.reduceLT, s_all, s_zero, s_put, s_put', stc_length, stc_all, one_imm]
      refine ECall.of (refstep_c code data inp s hcode (by omega) (by omega) w1 (by omega)) (SleL.pure rfl) ⟨_, fun _ => Iff.rfl⟩ fun x hx => ?_
      subst hx
      obtain ⟨v1, v2, v3, v4⟩ := stepF_wf code inp s hcode w1
      simp only at v1 v2 v3 v4
      simp only [go_sem,Nat.reduceEqDiff,Nat.reduceAdd,Nat.reduceMul,↓reduceIte,↓dreduceIte,reduceCtorEq,Nat.reduceLeDiff,Nat.reduceLT,Nat.reduceSub,Int.reduceToNat,Int.reduceLE,Int.reduceLT, s_all, s_zero, s_put, s_put', stc_length, stc_all, one_imm]
      have hs' := refsame_c (stepF code inp s) (stepF code inp s) (by omega)
      rw [sameB_refl] at hs'
      refine VCall.of_contract hs' (SleL.pure rfl) fun x hx => ?_
      subst hx
      simp only [go_sem,Nat.reduceEqDiff,Nat.reduceAdd,Nat.reduceMul,↓reduceIte,↓dreduceIte,reduceCtorEq,Nat.reduceLeDiff,Nat.reduceLT,Nat.reduceSub,Int.reduceToNat,Int.reduceLE,Int.reduceLT]
      rw [i64_in (by omega) (by omega)]
      exact ⟨(stepF code inp s, k + 1), ⟨v1, by simp only; omega, by simp only; omega, by simp only; omega⟩, by simp only; omega, Wk.mk (by simp [get_cons]) ⟨[], rfl⟩ (Nat.le_refl _)⟩
    · simp only [go_sem,Nat.reduceEqDiff,Nat.reduceAdd,Nat.reduceMul,↓reduceIte,↓dreduceIte,reduceCtorEq,Nat.reduceLeDiff,Nat.reduceLT,Nat.reduceSub,Int.reduceToNat,Int.reduceLE,Int.reduceLT, hn1, hn2, hmk, eq_false hk, s_all, s_zero, s_put, s_put', stc_length, stc_all, one_imm]
      refine ⟨by omega, ?_⟩
      refine VCall.of_contract awake_c (SleL.pure rfl) fun x hx => ?_
      subst hx
      simp only [go_sem,Nat.reduceEqDiff,Nat.reduceAdd,Nat.reduceMul,↓reduceIte,↓dreduceIte,reduceCtorEq,Nat.reduceLeDiff,Nat.reduceLT,Nat.reduceSub,Int.reduceToNat,Int.reduceLE,Int.reduceLT]
      exact ⟨_, Frz.pure rfl, rfl⟩
  ·
    refine VW_loop (fun q : S × Nat => ⟨[(1, strv inp), (2, .val (.int .u8 n)), (3, .ptr 0 0 0), (6, B false), (7, .ptr 2 2 0), (8, .ptr 1 1 0), (9, I q.2)], [⟨0, 24, 1, [words code, I data]⟩, ⟨1, 30, 1, stc q.1.pc q.1.reg (words q.1.mem) q.1.rd q.1.out q.1.st q.1.fin⟩, ⟨2, 30, 1, stc q.1.pc q.1.reg (words q.1.mem) q.1.rd q.1.out q.1.st q.1.fin⟩], 3⟩)
      (fun q => Wf q.1 ∧ q.1.mem.length ≤ 32768 ∧ q.1.out.size ≤ q.2 ∧ q.2 ≤ m) (fun q => m - q.2) (startF data, 0) (Wk.mk (by simp [get_cons]) ⟨[], rfl⟩ (Nat.le_refl _))
      ⟨wf_start data, start_len data, Nat.le_refl _, Nat.zero_le _⟩ ?_
    rintro ⟨s, k⟩ ⟨w1, w2, w3, w4⟩
    simp only at w1 w2 w3 w4
    by_cases hk : (k : Int) < m
    · simp only [go_sem,Nat.reduceEqDiff,Nat.reduceAdd,Nat.reduceMul,↓reduceIte,↓dreduceIte,reduceCtorEq,Nat.reduceLeDiff,Nat.reduceLT,Nat.reduceSub,Int.reduceToNat,Int.reduceLE,Int.reduceLT, hn1, hn2, hmk, eq_true hk, s_all, s_zero, s_put, s_put', stc_length, stc_all, one_imm]
      refine ⟨by omega, ?_⟩
      refine ECall.of (step_c code data inp s hcode (by omega) (by omega) w1 (by omega) (by omega)) (SleL.pure rfl) ⟨_, fun _ => Iff.rfl⟩ fun x hx => ?_
      subst hx
      simp only [go_sem,Nat.reduceEqDiff,Nat.reduceAdd,Nat.reduceMul,↓reduceIte,↓dreduceIte,reduceCtorEq,Nat.reduceLeDiff,Nat.reduceLT,Nat.reduceSub,Int.reduceToNat,Int.reduceLE,Int.reduceLT, s_all, s_zero, s_put, s_put', stc_length, stc_all, one_imm]
      refine ECall.of (refstep_c code data inp s hcode (by omega) (by omega) w1 (by omega)) (SleL.pure rfl) ⟨_, fun _ => Iff.rfl⟩ fun x hx => ?_
      subst hx
      obtain ⟨v1, v2, v3, v4⟩ := stepF_wf code inp s hcode w1
      simp only at v1 v2 v3 v4
      simp only [go_sem,Nat.reduceEqDiff,Nat.reduceAdd,Nat.reduceMul,↓reduceIte,↓dreduceIte,reduceCtorEq,Nat.reduceLeDiff,Nat.reduceLT,Nat.reduceSub,Int.reduceToNat,Int.reduceLE,Int.reduceLT, s_all, s_zero, s_put, s_put', stc_length, stc_all, one_imm]
      have hs' := refsame_c (stepF code inp s) (stepF code inp s) (by omega)
      rw [sameB_refl] at hs'
      refine VCall.of_contract hs' (SleL.pure rfl) fun x hx => ?_
      subst hx
      simp only [go_sem,Nat.reduceEqDiff,Nat.reduceAdd,Nat.reduceMul,↓reduceIte,↓dreduceIte,reduceCtorEq,Nat.reduceLeDiff,Nat.reduceLT,Nat.reduceSub,Int.reduceToNat,Int.reduceLE,Int.reduceLT]
      rw [i64_in (by omega) (by omega)]
      exact ⟨(stepF code inp s, k + 1), ⟨v1, by simp only; omega, by simp only; omega, by simp only; omega⟩, by simp only; omega, Wk.mk (by simp [get_cons]) ⟨[], rfl⟩ (Nat.le_refl _)⟩
    · simp only [go_sem,Nat.reduceEqDiff,Nat.reduceAdd,Nat.reduceMul,↓reduceIte,↓dreduceIte,reduceCtorEq,Nat.reduceLeDiff,Nat.reduceLT,Nat.reduceSub,Int.reduceToNat,Int.reduceLE,Int.reduceLT, hn1, hn2, hmk, eq_false hk, s_all, s_zero, s_put, s_put', stc_length, stc_all, one_imm]
      refine ⟨by omega, ?_⟩
      refine VCall.of_contract awake_c (SleL.pure rfl) fun x hx => ?_
      subst hx
      simp only [go_sem,Nat.reduceEqDiff,Nat.reduceAdd,Nat.reduceMul,↓reduceIte,↓dreduceIte,reduceCtorEq,Nat.reduceLeDiff,Nat.reduceLT,Nat.reduceSub,Int.reduceToNat,Int.reduceLE,Int.reduceLT]
      exact ⟨_, Frz.pure rfl, rfl⟩

set_option maxRecDepth 100000 in
theorem machineruns_lifted (os : Os) (started : os.Started) (H : Type) (enc : TypeId × Value → H) :
    ReturnsInHanded {} Try.checked os 5 .any (Rows.machineRunsSpec.pre6 enc Try.prog Try.f5 Rows.machineRunsRow.domain false) (Rows.machineRunsSpec.post enc Try.prog Try.f5 false true false false) := by
  refine returnsInHanded_of_change_sized (C := Try.checked) Try.own started (by kernel_rfl) Try.func5
    (ChangeSpec.witness6 (enc := enc) (C := Try.checked) false ⟨#[], #[.agg #[.slice none 0 0, .int .i64 0], .string ⟨#[]⟩, .int .u8 0], []⟩ 8 (by kernel_rfl) (by kernel_rfl) (by kernel_rfl) (by kernel_rfl)) ?_
  intro W base args ds gs before hval hW _ hwt _
  refine law_calls (P := Try.prog) (n := 20) (shs := [imSh, .str, .int .u8]) (tb := 4) Try.laidOut rfl (by kernel_rfl) (by kernel_rfl) (by decide +kernel) (by kernel_rfl) (fun ds h => ?_) (fun xs hx => ?_) hval hW hwt
  · match ds, h with
    | [d1, d2, d3], _ => rfl
  · obtain ⟨x, xs', rfl, hx1, hxs⟩ := fitL_cons hx
    obtain ⟨y, ys', rfl, hy, hys⟩ := fitL_cons hxs
    obtain ⟨z, zs', rfl, hz, hzs⟩ := fitL_cons hys
    simp only [Sh.fitL] at hzs
    subst hzs
    obtain ⟨code, data, rfl, h⟩ := im_of hx1
    simp only [Sh.fit] at hy
    obtain ⟨inp, rfl, hy⟩ := hy
    obtain ⟨n, rfl, hn⟩ := fit_u8 hz
    exact machineruns_c code data inp n h hn

theorem machineruns_holds : Rows.MachineRunsSaid :=
  OpenClaim.holds_of_wide 5 Try.f5 rfl rfl rfl rfl rfl rfl rfl ⟨rfl, rfl, rfl, rfl, rfl⟩ rfl rfl rfl rfl rfl (by kernel_rfl) Try.func5 (by kernel_rfl)
    (of_decide_eq_true (by kernel_rfl)) (by unfold Func.isWrapper; first | (rw [if_pos (by decide +kernel)]; kernel_rfl) | (rw [if_neg (by decide +kernel)]; exact ⟨rfl, rfl⟩))
    (fun os started H enc _ => machineruns_lifted os started H enc)
end Go.Proofs.Ytjkkmpkbiddhkaa
