/-
  ExecStays: the row. No condition.
-/
import Derived.Test.YtjoldjcfabbekaaEO
import Derived.Test.YtjoldjcfabbekaaEF
namespace Go.Proofs.Ytjoldjcfabbekaa
set_option linter.unusedSimpArgs false
set_option linter.unusedVariables false
set_option maxRecDepth 10000
open Go.V Go.ChangeShapes Go.WideShapes Go.ChangeAt Go.RowKit

/-- No end of a step is that of the fuel. -/
theorem insF_ne5 (code : List Int) (inp : ByteArray) (s : S) (op a b c : Int) : (insF code inp s op a b c).1 ≠ 5 := by
  unfold insF
  iterate 8 (refine ite_ind (P := fun p : Int × S => p.1 ≠ 5) (fun _ => by simp) fun _ => ?_)
  iterate 3 (refine ite_ind (P := fun p : Int × S => p.1 ≠ 5) (fun _ => ite_ind (P := fun p : Int × S => p.1 ≠ 5) (fun _ => by simp) fun _ => by simp) fun _ => ?_)
  refine ite_ind (P := fun p : Int × S => p.1 ≠ 5) (fun _ => by simp) fun _ => ?_
  iterate 2 (refine ite_ind (P := fun p : Int × S => p.1 ≠ 5) (fun _ => ite_ind (P := fun p : Int × S => p.1 ≠ 5) (fun _ => by simp) fun _ => by simp) fun _ => ?_)
  refine ite_ind (P := fun p : Int × S => p.1 ≠ 5) (fun _ => by simp) fun _ => ?_
  exact ite_ind (P := fun p : Int × S => p.1 ≠ 5) (fun _ => by simp) fun _ => by simp
theorem stepF_ne5 {code : List Int} {inp : ByteArray} {s : S} (h : s.fin ≠ 5) : (stepF code inp s).fin ≠ 5 := by
  refine ite_ind (P := fun x : S => x.fin ≠ 5) (fun h0 => ?_) fun _ => h
  refine ite_ind (P := fun x : S => x.fin ≠ 5) (fun _ => by simp) fun _ => ?_
  unfold wordF
  refine ite_ind (P := fun x : S => x.fin ≠ 5) (fun _ => ?_) fun _ => by simp
  have k := insF_keeps code inp { s with st := IntKind.i64.wrap (s.st + 1) } (opW (code.getD s.pc.toNat default)) (raW (code.getD s.pc.toNat default)) (rbW (code.getD s.pc.toNat default)) (kW (code.getD s.pc.toNat default))
  refine ite_ind (P := fun x : S => x.fin ≠ 5) (fun _ => ?_) fun _ => insF_ne5 _ _ _ _ _ _ _
  rw [k.1]; exact h
theorem runN_ne5 {code : List Int} {inp : ByteArray} {s : S} (h : s.fin ≠ 5) : ∀ k, (runN code inp s k).fin ≠ 5
  | 0 => h
  | k + 1 => stepF_ne5 (runN_ne5 h k)

theorem execstays_c (code : List Int) (data : Int) (inp : ByteArray) (t0 t1 : Int) (h : Im code data) : Contract Try.prog 5 [imgA code data, strv inp, .agg [I t0, I t1]] (fun r => r = B true) := by
  refine Contract.of_call (VCall.of_body hmix f_sclaw10_ExecStays (by simp) ?_)
  simp only [go_sem,Nat.reduceEqDiff,Nat.reduceAdd,Nat.reduceMul,↓reduceIte,↓dreduceIte,reduceCtorEq,Nat.reduceLeDiff,Nat.reduceLT,Nat.reduceSub,Int.reduceToNat,Int.reduceLE,Int.reduceLT, c_sclaw10_ExecStays, one_imm]
  refine VCall.of_contract alive_c (SleL.pure rfl) fun x hx => ?_
  subst hx
  simp only [go_sem,Nat.reduceEqDiff,Nat.reduceAdd,Nat.reduceMul,↓reduceIte,↓dreduceIte,reduceCtorEq,Nat.reduceLeDiff,Nat.reduceLT,Nat.reduceSub,Int.reduceToNat,Int.reduceLE,Int.reduceLT, one_imm]
  refine VCall.of_contract (few_c code data inp t0) (SleL.pure rfl) fun x hx => ?_
  subst hx
  cases hb : fewB code data inp t0
  · simp only [go_sem,Nat.reduceEqDiff,Nat.reduceAdd,Nat.reduceMul,↓reduceIte,↓dreduceIte,reduceCtorEq,Nat.reduceLeDiff,Nat.reduceLT,Nat.reduceSub,Int.reduceToNat,Int.reduceLE,Int.reduceLT, one_imm]
    exact ⟨_, Frz.pure rfl, rfl⟩
  obtain ⟨b1, b2, b3, b4⟩ := fewB_iff.1 hb
  by_cases c1 : t1 < t0
  · simp only [go_sem,Nat.reduceEqDiff,Nat.reduceAdd,Nat.reduceMul,↓reduceIte,↓dreduceIte,reduceCtorEq,Nat.reduceLeDiff,Nat.reduceLT,Nat.reduceSub,Int.reduceToNat,Int.reduceLE,Int.reduceLT, eq_true c1, one_imm]
    exact ⟨_, Frz.pure rfl, rfl⟩
  by_cases c2 : 500 < t1
  · simp only [go_sem,Nat.reduceEqDiff,Nat.reduceAdd,Nat.reduceMul,↓reduceIte,↓dreduceIte,reduceCtorEq,Nat.reduceLeDiff,Nat.reduceLT,Nat.reduceSub,Int.reduceToNat,Int.reduceLE,Int.reduceLT, eq_false c1, eq_true c2, one_imm]
    exact ⟨_, Frz.pure rfl, rfl⟩
  by_cases c3 : t0 < 0
  · simp only [go_sem,Nat.reduceEqDiff,Nat.reduceAdd,Nat.reduceMul,↓reduceIte,↓dreduceIte,reduceCtorEq,Nat.reduceLeDiff,Nat.reduceLT,Nat.reduceSub,Int.reduceToNat,Int.reduceLE,Int.reduceLT, eq_false c1, eq_false c2, eq_true c3, one_imm]
    exact ⟨_, Frz.pure rfl, rfl⟩
  have hsum : runF code data inp t1 = runN code inp (runF code data inp t0) (t1.toNat - t0.toNat) := by
    unfold runF
    rw [← runN_add, show t0.toNat + (t1.toNat - t0.toNat) = t1.toNat by omega]
  obtain ⟨⟨i1, i2⟩, i3⟩ := runN_st (code := code) (inp := inp) (s := startF data) (Int.le_refl _) (by show (0 : Int) ≤ 2000000; omega) t0.toNat (by omega)
  obtain ⟨⟨j1, j2⟩, j3⟩ := runN_st (code := code) (inp := inp) (s := startF data) (Int.le_refl _) (by show (0 : Int) ≤ 2000000; omega) t1.toNat (by omega)
  have hmono : (runF code data inp t0).st ≤ (runN code inp (runF code data inp t0) (t1.toNat - t0.toNat)).st := by
    unfold runF
    rw [← runN_add]
    exact runN_mono (Int.le_refl _) (by show (0 : Int) ≤ 1000000; omega) _ _ (by omega) (by omega)
  have hne5 : (runF code data inp t0).fin ≠ 5 := runN_ne5 (by show (0 : Int) ≠ 5; omega) _
  simp only [go_sem,Nat.reduceEqDiff,Nat.reduceAdd,Nat.reduceMul,↓reduceIte,↓dreduceIte,reduceCtorEq,Nat.reduceLeDiff,Nat.reduceLT,Nat.reduceSub,Int.reduceToNat,Int.reduceLE,Int.reduceLT, eq_false c1, eq_false c2, eq_false c3, one_imm]
  refine ECall.of (run_c code data inp t0 h.fit (by omega) (by omega) (by omega)) (SleL.pure rfl) ⟨_, fun _ => Iff.rfl⟩ fun x hx => ?_
  subst hx
  simp only [go_sem,Nat.reduceEqDiff,Nat.reduceAdd,Nat.reduceMul,↓reduceIte,↓dreduceIte,reduceCtorEq,Nat.reduceLeDiff,Nat.reduceLT,Nat.reduceSub,Int.reduceToNat,Int.reduceLE,Int.reduceLT, one_imm]
  refine ECall.of (run_c code data inp t1 h.fit (by omega) (by omega) (by omega)) (SleL.pure rfl) ⟨_, fun _ => Iff.rfl⟩ fun x hx => ?_
  subst hx
  by_cases c4 : endF (runF code data inp t0) = 5
  · have hf0 : (runF code data inp t0).fin = 0 := by
      unfold endF at c4; split at c4
      · assumption
      · exact absurd c4 hne5
    obtain ⟨bs, hbs⟩ := runN_out code inp (runF code data inp t0) (t1.toNat - t0.toNat)
    rw [← hsum] at hbs
    have hx := extract_pre hbs
    have hsz := size_pre hbs
    have hst := i3 hf0
    have hst2 : (runF code data inp t0).st = t0 := by show (runN code inp (startF data) t0.toNat).st = t0; rw [hst]; show (0 : Int) + _ = _; omega
    have d1 : ¬ ((runF code data inp t1).out.size : Int) < ((runF code data inp t0).out.size : Int) := by omega
    have d2 : ((runF code data inp t1).out.extract 0 (runF code data inp t0).out.size).toList = (runF code data inp t0).out.toList := by rw [hx]
    have d3 : (runF code data inp t0).st ≤ (runF code data inp t1).st := by rw [hsum]; exact hmono
    have d4 : (runF code data inp t1).st ≤ t1 := by have : (runF code data inp t1).st ≤ 0 + (t1.toNat : Int) := j2; omega
    simp only [go_sem,Nat.reduceEqDiff,Nat.reduceAdd,Nat.reduceMul,↓reduceIte,↓dreduceIte,reduceCtorEq,Nat.reduceLeDiff,Nat.reduceLT,Nat.reduceSub,Int.reduceToNat,Int.reduceLE,Int.reduceLT, eq_true c4, one_imm]
    refine ⟨?_, ?_⟩
    all_goals
      simp only [go_sem,Nat.reduceEqDiff,Nat.reduceAdd,Nat.reduceMul,↓reduceIte,↓dreduceIte,reduceCtorEq,Nat.reduceLeDiff,Nat.reduceLT,Nat.reduceSub,Int.reduceToNat,Int.reduceLE,Int.reduceLT, eq_true c4, eq_false d1, eq_true d2, eq_true hst2, eq_true d3, eq_true d4, one_imm]
      repeat (refine And.intro (by omega) ?_)
      exact ⟨_, Frz.pure rfl, by simp [hst2, d3, d4]⟩
  · have hf0 : (runF code data inp t0).fin ≠ 0 := fun e => c4 (by unfold endF; rw [if_pos e])
    have hsame : runF code data inp t1 = runF code data inp t0 := by
      unfold runF at hf0 ⊢
      rw [show t1.toNat = t0.toNat + (t1.toNat - t0.toNat) by omega]
      exact runN_stays hf0 _
    rw [show runA code data inp t1 = runA code data inp t0 by rw [runA, hsame]]
    have hs' := execsame_c (endF (runF code data inp t0)) (runF code data inp t0).out (runF code data inp t0).st (endF (runF code data inp t0)) (runF code data inp t0).out (runF code data inp t0).st
    rw [sameR_refl] at hs'
    simp only [go_sem,Nat.reduceEqDiff,Nat.reduceAdd,Nat.reduceMul,↓reduceIte,↓dreduceIte,reduceCtorEq,Nat.reduceLeDiff,Nat.reduceLT,Nat.reduceSub,Int.reduceToNat,Int.reduceLE,Int.reduceLT, eq_false c4, one_imm]
    refine ⟨?_, ?_⟩
    all_goals
      refine VCall.of_contract hs' (SleL.pure rfl) fun x hx => ?_
      subst hx
      simp only [go_sem,Nat.reduceEqDiff,Nat.reduceAdd,Nat.reduceMul,↓reduceIte,↓dreduceIte,reduceCtorEq,Nat.reduceLeDiff,Nat.reduceLT,Nat.reduceSub,Int.reduceToNat,Int.reduceLE,Int.reduceLT]
      exact ⟨_, Frz.pure rfl, rfl⟩

set_option maxRecDepth 100000 in
theorem execstays_lifted (os : Os) (started : os.Started) (H : Type) (enc : TypeId × Value → H) :
    ReturnsInHanded {} Try.checked os 5 .any (Rows.execStaysSpec.pre6 enc Try.prog Try.f5 Rows.execStaysRow.domain false) (Rows.execStaysSpec.post enc Try.prog Try.f5 false true false false) := by
  refine returnsInHanded_of_change_sized (C := Try.checked) Try.own started (by kernel_rfl) Try.func5
    (ChangeSpec.witness6 (enc := enc) (C := Try.checked) false ⟨#[], #[.agg #[.slice none 0 0, .int .i64 0], .string ⟨#[]⟩, .agg #[.int .i64 0, .int .i64 0]], []⟩ 8 (by kernel_rfl) (by kernel_rfl) (by kernel_rfl) (by kernel_rfl)) ?_
  intro W base args ds gs before hval hW _ hwt _
  refine law_calls (P := Try.prog) (n := 20) (shs := [imSh, .str, .agg [.int .i64, .int .i64]]) (tb := 4) Try.laidOut rfl (by kernel_rfl) (by kernel_rfl) (by decide +kernel) (by kernel_rfl) (fun ds h => ?_) (fun xs hx => ?_) hval hW hwt
  · match ds, h with
    | [d1, d2, d3], _ => rfl
  · obtain ⟨x, _, rfl, hx1, hxs⟩ := fitL_cons hx
    obtain ⟨y, _, rfl, hy, hys⟩ := fitL_cons hxs
    obtain ⟨z, _, rfl, hz, hzs⟩ := fitL_cons hys
    have := fitL_nil hzs
    subst this
    obtain ⟨code, data, rfl, h⟩ := im_of hx1
    obtain ⟨inp, rfl⟩ := fit_str hy
    simp only [Sh.fit.eq_5] at hz
    obtain ⟨ys, rfl, hz⟩ := hz
    obtain ⟨a, _, rfl, ha, hz⟩ := fitL_cons hz
    obtain ⟨b, _, rfl, hb, hz⟩ := fitL_cons hz
    have := fitL_nil hz
    subst this
    obtain ⟨t0, rfl, _⟩ := fit_int ha
    obtain ⟨t1, rfl, _⟩ := fit_int hb
    exact execstays_c code data inp t0 t1 h

theorem execstays_holds : Rows.ExecStaysSaid :=
  OpenClaim.holds_of_wide 5 Try.f5 rfl rfl rfl rfl rfl rfl rfl ⟨rfl, rfl, rfl, rfl, rfl⟩ rfl rfl rfl rfl rfl (by kernel_rfl) Try.func5 (by kernel_rfl)
    (of_decide_eq_true (by kernel_rfl)) (by unfold Func.isWrapper; first | (rw [if_pos (by decide +kernel)]; kernel_rfl) | (rw [if_neg (by decide +kernel)]; exact ⟨rfl, rfl⟩))
    (fun os started H enc _ => execstays_lifted os started H enc)
end Go.Proofs.Ytjoldjcfabbekaa
