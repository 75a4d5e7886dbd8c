/-
  StackMore: the row. No condition.
-/
import Derived.Test.YtdfdkoajphcjbaaSQ
import Derived.Test.YtdfdkoajphcjbaaS10
import Derived.Test.YtdfdkoajphcjbaaSA
namespace Go.Proofs.Ytdfdkoajphcjbaa
set_option linter.unusedSimpArgs false
set_option linter.unusedVariables false
set_option maxRecDepth 10000
open Go.V Go.ChangeShapes Go.WideShapes Go.ChangeAt Go.RowKit


theorem stepI_fin (s : SP) (inp : ByteArray) (x : SI) (σ : SM) (h : σ.fin = 0) : (stepI s inp x σ).fin ≠ 5 ∧ ∃ e, (stepI s inp x σ).out = σ.out ++ e := by
  let Q : SM → Prop := fun τ => τ.fin ≠ 5 ∧ ∃ e, τ.out = σ.out ++ e
  show Q (stepI s inp x σ)
  have h5 : σ.fin ≠ 5 := by omega
  have q : ∃ e, σ.out = σ.out ++ e := ⟨[], by simp⟩
  have P : ∀ τ : SM, τ.fin ≠ 5 → τ.out = σ.out → Q τ := fun τ h1 h2 => ⟨h1, [], by rw [h2, List.append_nil]⟩
  unfold stepI
  refine iteI (P := Q) (fun _ => P _ h5 rfl) fun _ => ?_
  refine iteI (P := Q) (fun _ => P _ h5 rfl) fun _ => ?_
  refine iteI (P := Q) (fun _ => P _ h5 rfl) fun _ => ?_
  refine iteI (P := Q) (fun _ => iteI (P := Q) (fun _ => P _ h5 rfl) fun _ => P _ (by simp) rfl) fun _ => ?_
  refine iteI (P := Q) (fun _ => iteI (P := Q) (fun _ => P _ h5 rfl) fun _ => P _ (by simp) rfl) fun _ => ?_
  refine iteI (P := Q) (fun _ => iteI (P := Q) (fun _ => P _ h5 rfl) fun _ => P _ (by simp) rfl) fun _ => ?_
  refine iteI (P := Q) (fun _ => P _ h5 rfl) fun _ => ?_
  refine iteI (P := Q) (fun _ => P _ h5 rfl) fun _ => ?_
  refine iteI (P := Q) (fun _ => iteI (P := Q) (fun _ => P _ h5 rfl) fun _ => P _ h5 rfl) fun _ => ?_
  refine iteI (P := Q) (fun _ => P _ h5 rfl) fun _ => ?_
  refine iteI (P := Q) (fun _ => ?_) fun _ => ?_
  · unfold SM.ret
    split
    · exact P _ (by simp) rfl
    · exact P _ h5 rfl
  refine iteI (P := Q) (fun _ => iteI (P := Q) (fun _ => P _ h5 rfl) fun _ => P _ h5 rfl) fun _ => ?_
  exact ⟨h5, _, rfl⟩
theorem runS_fin5 (s : SP) (inp : ByteArray) : ∀ k, (runS s inp (startS s) k).fin ≠ 5
  | 0 => by simp [runS, startS]
  | k + 1 => by
    show (stepS s inp (runS s inp (startS s) k)).fin ≠ 5
    by_cases h0 : (runS s inp (startS s) k).fin = 0
    · rw [stepS_eq h0]
      exact (stepI_fin s inp _ (runS s inp (startS s) k).next h0).1
    · rw [stepS, if_neg h0]
      exact runS_fin5 s inp k
theorem runS_out (s : SP) (inp : ByteArray) (σ : SM) (k : Nat) : ∀ d, ∃ e, (runS s inp σ (k + d)).out = (runS s inp σ k).out ++ e
  | 0 => ⟨[], by simp⟩
  | d + 1 => by
    obtain ⟨e, he⟩ := runS_out s inp σ k d
    show ∃ e, (stepS s inp (runS s inp σ (k + d))).out = _
    by_cases h0 : (runS s inp σ (k + d)).fin = 0
    · rw [stepS_eq h0]
      obtain ⟨_, e2, h2⟩ := stepI_fin s inp (s.ins (runS s inp σ (k + d)).top.f (runS s inp σ (k + d)).top.at_) (runS s inp σ (k + d)).next h0
      refine ⟨e ++ e2, ?_⟩
      rw [h2]
      show (runS s inp σ (k + d)).out ++ e2 = _
      rw [he, List.append_assoc]
    · rw [stepS, if_neg h0]
      exact ⟨e, he⟩
theorem stepI_steps (s : SP) (inp : ByteArray) (x : SI) (σ : SM) : (stepI s inp x σ).steps = σ.steps := by
  exact (stepI_sz s inp x σ).2.2.2.2
theorem runS_steps (s : SP) (inp : ByteArray) (σ : SM) (k : Nat) : ∀ d, (runS s inp σ k).steps ≤ (runS s inp σ (k + d)).steps
  | 0 => Nat.le_refl _
  | d + 1 => by
    refine Nat.le_trans (runS_steps s inp σ k d) ?_
    show _ ≤ (stepS s inp (runS s inp σ (k + d))).steps
    unfold stepS
    split
    · rw [stepI_steps]; exact Nat.le_succ _
    · exact Nat.le_refl _

theorem runS_le (s : SP) (inp : ByteArray) : ∀ k, (runS s inp (startS s) k).steps ≤ k
  | 0 => Nat.le_refl _
  | k + 1 => by
    have ih := runS_le s inp k
    show (stepS s inp (runS s inp (startS s) k)).steps ≤ k + 1
    unfold stepS
    split
    · rw [stepI_steps]; exact Nat.succ_le_succ ih
    · exact Nat.le_succ_of_le ih

theorem fit_y {x : AV} (h : Sh.fit (.int .u8) x) : ∃ n : Int, x = .val (.int .u8 n) ∧ 0 ≤ n ∧ n ≤ 255 := by
  simp only [Sh.fit] at h
  obtain ⟨n, rfl, h⟩ := h
  simp [Lit.wf, IntKind.min, IntKind.max, IntKind.bits, IntKind.signed] at h
  exact ⟨n, rfl, by omega⟩
abbrev Y8 (n : Int) : AV := .val (.int .u8 n)
theorem stackmore_c (s : SP) (inp : ByteArray) (a b : Int) (h : SPOk s) (ha : 0 ≤ a ∧ a ≤ 255) (hb : 0 ≤ b ∧ b ≤ 255) : Contract Try.prog 4 [spA s, strv inp, .agg [Y8 a, Y8 b]] (fun r => r = B true) := by
  refine Contract.of_call (VCall.of_body hmix f_sclaw20_StackMore (by simp) ?_)
  simp only [go_sem,Nat.reduceEqDiff,Nat.reduceAdd,Nat.reduceMul,↓reduceIte,↓dreduceIte,reduceCtorEq,Nat.reduceLeDiff,Nat.reduceLT,Nat.reduceSub,Int.reduceToNat,Int.reduceLE,Int.reduceLT, one_ref, one_imm, Int.reduceLT, Int.reduceEq, Int.reduceBEq, c_sclaw20_StackMore]
  refine VCall.of_contract awake_c (SleL.pure rfl) fun r hr => ?_
  subst hr
  simp only [go_sem,Nat.reduceEqDiff,Nat.reduceAdd,Nat.reduceMul,↓reduceIte,↓dreduceIte,reduceCtorEq,Nat.reduceLeDiff,Nat.reduceLT,Nat.reduceSub,Int.reduceToNat,Int.reduceLE,Int.reduceLT, one_ref, one_imm, Int.reduceLT, Int.reduceEq, Int.reduceBEq]
  refine VCall.of_contract (few_c s h 200) (SleL.pure rfl) fun r hr => ?_
  subst hr
  cases hf : fewB s 200 with
  | false =>
    simp only [go_sem,Nat.reduceEqDiff,Nat.reduceAdd,Nat.reduceMul,↓reduceIte,↓dreduceIte,reduceCtorEq,Nat.reduceLeDiff,Nat.reduceLT,Nat.reduceSub,Int.reduceToNat,Int.reduceLE,Int.reduceLT, one_ref, one_imm, Int.reduceLT, Int.reduceEq, Int.reduceBEq]
    exact ⟨_, Frz.pure rfl, rfl⟩
  | true =>
    obtain ⟨hin, hfit⟩ := small_in h (n := 200) (by decide) hf
    by_cases h1 : (4000 : Int) < s.words
    · simp only [go_sem,Nat.reduceEqDiff,Nat.reduceAdd,Nat.reduceMul,↓reduceIte,↓dreduceIte,reduceCtorEq,Nat.reduceLeDiff,Nat.reduceLT,Nat.reduceSub,Int.reduceToNat,Int.reduceLE,Int.reduceLT, one_ref, one_imm, Int.reduceLT, Int.reduceEq, Int.reduceBEq, eq_true h1]
      exact ⟨_, Frz.pure rfl, rfl⟩
    by_cases h3 : (100 : Int) < (inp.size : Int)
    · simp only [go_sem,Nat.reduceEqDiff,Nat.reduceAdd,Nat.reduceMul,↓reduceIte,↓dreduceIte,reduceCtorEq,Nat.reduceLeDiff,Nat.reduceLT,Nat.reduceSub,Int.reduceToNat,Int.reduceLE,Int.reduceLT, one_ref, one_imm, Int.reduceLT, Int.reduceEq, Int.reduceBEq, eq_false h1, eq_true h3]
      exact ⟨_, Frz.pure rfl, rfl⟩
    simp only [go_sem,Nat.reduceEqDiff,Nat.reduceAdd,Nat.reduceMul,↓reduceIte,↓dreduceIte,reduceCtorEq,Nat.reduceLeDiff,Nat.reduceLT,Nat.reduceSub,Int.reduceToNat,Int.reduceLE,Int.reduceLT, one_ref, one_imm, Int.reduceLT, Int.reduceEq, Int.reduceBEq, eq_false h1, eq_false h3]
    refine VCall.of_contract (refright_c s hin h.w fun f => ⟨(h.at_ f).s, (h.at_ f).f⟩) (SleL.pure rfl) fun r hr => ?_
    subst hr
    cases hr : rightB s with
    | false =>
      simp only [go_sem,Nat.reduceEqDiff,Nat.reduceAdd,Nat.reduceMul,↓reduceIte,↓dreduceIte,reduceCtorEq,Nat.reduceLeDiff,Nat.reduceLT,Nat.reduceSub,Int.reduceToNat,Int.reduceLE,Int.reduceLT, one_ref, one_imm, Int.reduceLT, Int.reduceEq, Int.reduceBEq]
      exact ⟨_, Frz.pure rfl, rfl⟩
    | true =>
      have hR := rightB_iff.1 hr
      obtain ⟨n, rfl⟩ : ∃ n : Nat, a = n := ⟨a.toNat, by omega⟩
      obtain ⟨d, rfl⟩ : ∃ n : Nat, b = n := ⟨b.toNat, by omega⟩
      have w1 : IntKind.i64.wrap (n : Int) = n := i64_in (by omega) (by omega)
      have w2 : IntKind.i64.wrap (d : Int) = d := i64_in (by omega) (by omega)
      have w3 : IntKind.i64.wrap ((n : Int) + (d : Int)) = ((n + d : Nat) : Int) := by rw [i64_in (by omega) (by omega)]; omega
      simp only [go_sem,Nat.reduceEqDiff,Nat.reduceAdd,Nat.reduceMul,↓reduceIte,↓dreduceIte,reduceCtorEq,Nat.reduceLeDiff,Nat.reduceLT,Nat.reduceSub,Int.reduceToNat,Int.reduceLE,Int.reduceLT, one_ref, one_imm, Int.reduceLT, Int.reduceEq, Int.reduceBEq, w1, w2, w3]
      refine VCall.of_contract (srun_c s inp n (hfit hR) (by omega) (by omega) fun k _ => runS_good hR inp k) (SleL.pure rfl) fun r hr => ?_
      subst hr
      simp only [go_sem,Nat.reduceEqDiff,Nat.reduceAdd,Nat.reduceMul,↓reduceIte,↓dreduceIte,reduceCtorEq,Nat.reduceLeDiff,Nat.reduceLT,Nat.reduceSub,Int.reduceToNat,Int.reduceLE,Int.reduceLT, one_ref, one_imm, Int.reduceLT, Int.reduceEq, Int.reduceBEq, resS, Int.toNat_natCast, w1, w2, w3]
      refine VCall.of_contract (srun_c s inp ((n + d : Nat) : Int) (hfit hR) (by omega) (by omega) fun k _ => runS_good hR inp k) (SleL.pure rfl) fun r hr => ?_
      subst hr
      simp only [Int.toNat_natCast]
      have hs := runS_sz s inp n
      have h5 := runS_fin5 s inp n
      by_cases h0 : (runS s inp (startS s) n).fin = 0
      · obtain ⟨e, he⟩ := runS_out s inp (startS s) n d
        have hst := runS_steps s inp (startS s) n d
        have hsn := hs.5 h0
        generalize runS s inp (startS s) n = σ at *
        generalize runS s inp (startS s) (n + d) = τ at *
        have e1 : (σ.steps : Int) = (n : Int) := by omega
        have e2 : (n : Int) ≤ (τ.steps : Int) := by omega
        have e3 : (σ.out.toArray.size : Int) ≤ (τ.out.toArray.size : Int) := by rw [he]; simp; omega
        simp only [go_sem,Nat.reduceEqDiff,Nat.reduceAdd,Nat.reduceMul,↓reduceIte,↓dreduceIte,reduceCtorEq,Nat.reduceLeDiff,Nat.reduceLT,Nat.reduceSub,Int.reduceToNat,Int.reduceLE,Int.reduceLT, one_ref, one_imm, Int.reduceLT, Int.reduceEq, Int.reduceBEq, resS, h0, if_true, w1, w2, w3, eq_true e1, eq_true e2, eq_true e3]
        refine ⟨_, Frz.pure rfl, ?_⟩
        congr 3
        rw [he]
        have hx : (ByteArray.extract ⟨(σ.out ++ e).toArray⟩ 0 σ.out.length) = ⟨σ.out.toArray⟩ := by
          apply ByteArray.ext
          rw [ByteArray.data_extract]
          simp
        simp only [Int.toNat_zero, Int.toNat_natCast, List.size_toArray]
        rw [hx]
        simp [ba_self]
        done
      · rw [runS_fin h0 d]
        have hsn := runS_le s inp n
        generalize runS s inp (startS s) n = σ at *
        have hle : (σ.steps : Int) ≤ (n : Int) := by omega
        simp only [go_sem,Nat.reduceEqDiff,Nat.reduceAdd,Nat.reduceMul,↓reduceIte,↓dreduceIte,reduceCtorEq,Nat.reduceLeDiff,Nat.reduceLT,Nat.reduceSub,Int.reduceToNat,Int.reduceLE,Int.reduceLT, one_ref, one_imm, Int.reduceLT, Int.reduceEq, Int.reduceBEq, resS, h0, h5, if_false, w1, w2, w3, eq_true hle]
        refine ⟨fun _ => ⟨_, Frz.pure rfl, rfl⟩, fun e => ?_⟩
        simp [ba_self] at e

set_option maxRecDepth 100000 in
theorem stackmore_lifted (os : Os) (started : os.Started) (H : Type) (enc : TypeId × Value → H) :
    ReturnsInHanded {} Try.checked os 4 .any (Rows.stackMoreSpec.pre6 enc Try.prog Try.f4 Rows.stackMoreRow.domain false) (Rows.stackMoreSpec.post enc Try.prog Try.f4 false true false false) := by
  refine returnsInHanded_of_change_sized (C := Try.checked) Try.own started (by kernel_rfl) Try.func4
    (ChangeSpec.witness6 (enc := enc) (C := Try.checked) false ⟨#[], #[.agg #[.int .i64 0, .slice none 0 0], .string ⟨#[]⟩, .agg #[.int .u8 0, .int .u8 0]], []⟩ 8 (by kernel_rfl) (by kernel_rfl) (by kernel_rfl) (by kernel_rfl)) ?_
  intro W base args ds gs before hval hW _ hwt _
  refine law_calls (P := Try.prog) (n := 20) (shs := [spSh, .str, .agg [.int .u8, .int .u8]]) (tb := 4) Try.laidOut rfl (by kernel_rfl) (by kernel_rfl) (by decide +kernel) (by kernel_rfl) (fun ds h => ?_) (fun xs hx => ?_) hval hW hwt
  · match ds, h with
    | [d1, d2, d3], _ => rfl
  · obtain ⟨x, xs', rfl, hx1, hxs⟩ := fitS_cons hx
    obtain ⟨y, ys', rfl, hy, hys⟩ := fitS_cons hxs
    obtain ⟨z, zs', rfl, hz, hzs⟩ := fitS_cons hys
    simp only [Sh.fitL] at hzs
    subst hzs
    obtain ⟨s, rfl, h⟩ := sp_of hx1
    simp only [Sh.fit] at hy
    obtain ⟨inp, rfl, hy⟩ := hy
    simp only [Sh.fit.eq_5, Sh.fitL] at hz
    obtain ⟨ys, rfl, a, _, rfl, ha, b, _, rfl, hb, rfl⟩ := hz
    obtain ⟨a', rfl, ha'⟩ := fit_y ha
    obtain ⟨b', rfl, hb'⟩ := fit_y hb
    exact stackmore_c s inp a' b' h ha' hb'

theorem stackmore_holds : Rows.StackMoreSaid :=
  OpenClaim.holds_of_wide 4 Try.f4 rfl rfl rfl rfl rfl rfl rfl ⟨rfl, rfl, rfl, rfl, rfl⟩ rfl rfl rfl rfl rfl (by kernel_rfl) Try.func4 (by kernel_rfl)
    (of_decide_eq_true (by kernel_rfl)) (by unfold Func.isWrapper; first | (rw [if_pos (by decide +kernel)]; kernel_rfl) | (rw [if_neg (by decide +kernel)]; exact ⟨rfl, rfl⟩))
    (fun os started H enc _ => stackmore_lifted os started H enc)
end Go.Proofs.Ytdfdkoajphcjbaa
