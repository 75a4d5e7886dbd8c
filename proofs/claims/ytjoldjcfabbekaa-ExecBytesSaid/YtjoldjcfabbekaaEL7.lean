/-
  ExecBytes: the row. No condition.
-/
import Derived.Test.YtjoldjcfabbekaaEO
import Derived.Test.YtjoldjcfabbekaaER6
import Derived.Test.YtjoldjcfabbekaaEB
import Derived.Test.YtjoldjcfabbekaaE5
namespace Go.Proofs.Ytjoldjcfabbekaa
set_option linter.unusedSimpArgs false
set_option linter.unusedVariables false
set_option maxRecDepth 10000
open Go.V Go.ChangeShapes Go.WideShapes Go.ChangeAt Go.RowKit

theorem execbytes_c (s inp : ByteArray) (fuel : Int) : Contract Try.prog 9 [strv s, strv inp, I fuel] (fun r => r = B true) := by
  refine Contract.of_call (VCall.of_body hmix f_sclaw10_ExecBytes (by simp) ?_)
  simp only [go_sem,Nat.reduceEqDiff,Nat.reduceAdd,Nat.reduceMul,↓reduceIte,↓dreduceIte,reduceCtorEq,Nat.reduceLeDiff,Nat.reduceLT,Nat.reduceSub,Int.reduceToNat,Int.reduceLE,Int.reduceLT, c_sclaw10_ExecBytes, one_imm]
  refine VCall.of_contract alive_c (SleL.pure rfl) fun x hx => ?_
  subst hx
  by_cases b1 : (s.size : Int) ≤ 1000
  case neg =>
    simp only [go_sem,Nat.reduceEqDiff,Nat.reduceAdd,Nat.reduceMul,↓reduceIte,↓dreduceIte,reduceCtorEq,Nat.reduceLeDiff,Nat.reduceLT,Nat.reduceSub,Int.reduceToNat,Int.reduceLE,Int.reduceLT, one_imm, eq_true (show 1000 < (s.size : Int) by omega)]
    exact ⟨_, Frz.pure rfl, rfl⟩
  by_cases b2 : (inp.size : Int) ≤ 100
  case neg =>
    simp only [go_sem,Nat.reduceEqDiff,Nat.reduceAdd,Nat.reduceMul,↓reduceIte,↓dreduceIte,reduceCtorEq,Nat.reduceLeDiff,Nat.reduceLT,Nat.reduceSub,Int.reduceToNat,Int.reduceLE,Int.reduceLT, one_imm, eq_false (show ¬ 1000 < (s.size : Int) by omega), eq_true (show 100 < (inp.size : Int) by omega)]
    exact ⟨_, Frz.pure rfl, rfl⟩
  by_cases b3 : fuel ≤ 500
  case neg =>
    simp only [go_sem,Nat.reduceEqDiff,Nat.reduceAdd,Nat.reduceMul,↓reduceIte,↓dreduceIte,reduceCtorEq,Nat.reduceLeDiff,Nat.reduceLT,Nat.reduceSub,Int.reduceToNat,Int.reduceLE,Int.reduceLT, one_imm, eq_false (show ¬ 1000 < (s.size : Int) by omega), eq_false (show ¬ 100 < (inp.size : Int) by omega), eq_true (show 500 < fuel by omega)]
    exact ⟨_, Frz.pure rfl, rfl⟩
  simp only [go_sem,Nat.reduceEqDiff,Nat.reduceAdd,Nat.reduceMul,↓reduceIte,↓dreduceIte,reduceCtorEq,Nat.reduceLeDiff,Nat.reduceLT,Nat.reduceSub,Int.reduceToNat,Int.reduceLE,Int.reduceLT, one_imm, eq_false (show ¬ 1000 < (s.size : Int) by omega), eq_false (show ¬ 100 < (inp.size : Int) by omega), eq_false (show ¬ 500 < fuel by omega)]
  refine VCall.of_contract (refread_c s (by omega)) (SleL.pure rfl) fun x hx => ?_
  subst hx
  have hb := bytes_c s inp fuel (by omega) (by omega) (by omega)
  unfold readA
  unfold bytesA at hb
  cases h : okR s
  · rw [h] at hb
    simp only [Bool.false_eq_true, if_false] at hb
    simp only [go_sem,Nat.reduceEqDiff,Nat.reduceAdd,Nat.reduceMul,↓reduceIte,↓dreduceIte,reduceCtorEq,Nat.reduceLeDiff,Nat.reduceLT,Nat.reduceSub,Int.reduceToNat,Int.reduceLE,Int.reduceLT, one_imm, Bool.false_eq_true, if_false, Int.reduceEq, Int.reduceBEq]
    refine VCall.of_contract hb (SleL.pure rfl) fun x hx => ?_
    subst hx
    simp only [go_sem,Nat.reduceEqDiff,Nat.reduceAdd,Nat.reduceMul,↓reduceIte,↓dreduceIte,reduceCtorEq,Nat.reduceLeDiff,Nat.reduceLT,Nat.reduceSub,Int.reduceToNat,Int.reduceLE,Int.reduceLT, one_imm, Int.reduceEq, Int.reduceBEq]
    have hs' := execsame_c 0 ⟨#[]⟩ 0 0 ⟨#[]⟩ 0
    rw [sameR_refl] at hs'
    refine VCall.of_contract hs' (SleL.pure rfl) fun x hx => ?_
    subst hx
    simp only [go_sem,Nat.reduceEqDiff,Nat.reduceAdd,Nat.reduceMul,↓reduceIte,↓dreduceIte,reduceCtorEq,Nat.reduceLeDiff,Nat.reduceLT,Nat.reduceSub,Int.reduceToNat,Int.reduceLE,Int.reduceLT]
    exact ⟨_, Frz.pure rfl, rfl⟩
  · rw [h] at hb
    simp only [if_true] at hb
    obtain ⟨_, _, _, _, _, h1, _, h2⟩ := okR_iff.1 h
    have hl := rl_length s (wordA s 4).toNat
    have hn := (wordA_in s 4).1
    have hin := rl_in s (wordA s 4).toNat
    generalize rl s (wordA s 4).toNat = code at *
    generalize wordA s 8 = data at *
    by_cases b4 : data ≤ 3000
    case neg =>
      simp only [go_sem,Nat.reduceEqDiff,Nat.reduceAdd,Nat.reduceMul,↓reduceIte,↓dreduceIte,reduceCtorEq,Nat.reduceLeDiff,Nat.reduceLT,Nat.reduceSub,Int.reduceToNat,Int.reduceLE,Int.reduceLT, one_imm, if_true, eq_true (show 3000 < data by omega)]
      exact ⟨_, Frz.pure rfl, rfl⟩
    simp only [go_sem,Nat.reduceEqDiff,Nat.reduceAdd,Nat.reduceMul,↓reduceIte,↓dreduceIte,reduceCtorEq,Nat.reduceLeDiff,Nat.reduceLT,Nat.reduceSub,Int.reduceToNat,Int.reduceLE,Int.reduceLT, one_imm, if_true, eq_false (show ¬ 3000 < data by omega)]
    refine VCall.of_contract hb (SleL.pure rfl) fun x hx => ?_
    subst hx
    simp only [go_sem,Nat.reduceEqDiff,Nat.reduceAdd,Nat.reduceMul,↓reduceIte,↓dreduceIte,reduceCtorEq,Nat.reduceLeDiff,Nat.reduceLT,Nat.reduceSub,Int.reduceToNat,Int.reduceLE,Int.reduceLT, one_imm, Int.reduceEq, Int.reduceBEq]
    refine ECall.of (refRun_c code data inp fuel hin (by omega) (by omega) (by omega)) (SleL.pure rfl) ⟨_, fun _ => Iff.rfl⟩ fun x hx => ?_
    subst hx
    simp only [go_sem,Nat.reduceEqDiff,Nat.reduceAdd,Nat.reduceMul,↓reduceIte,↓dreduceIte,reduceCtorEq,Nat.reduceLeDiff,Nat.reduceLT,Nat.reduceSub,Int.reduceToNat,Int.reduceLE,Int.reduceLT, one_imm]
    have hs' := refsameR_c (endF (runF code data inp fuel)) (runF code data inp fuel).out (runF code data inp fuel).st (endF (runF code data inp fuel)) (runF code data inp fuel).out (runF code data inp fuel).st
    rw [sameR_refl] at hs'
    refine ECall.of hs' (SleL.pure rfl) ⟨_, fun _ => Iff.rfl⟩ fun x hx => ?_
    subst hx
    simp only [go_sem,Nat.reduceEqDiff,Nat.reduceAdd,Nat.reduceMul,↓reduceIte,↓dreduceIte,reduceCtorEq,Nat.reduceLeDiff,Nat.reduceLT,Nat.reduceSub,Int.reduceToNat,Int.reduceLE,Int.reduceLT]
    exact ⟨_, Frz.pure rfl, rfl⟩

set_option maxRecDepth 100000 in
theorem execbytes_lifted (os : Os) (started : os.Started) (H : Type) (enc : TypeId × Value → H) :
    ReturnsInHanded {} Try.checked os 9 .any (Rows.execBytesSpec.pre6 enc Try.prog Try.f9 Rows.execBytesRow.domain false) (Rows.execBytesSpec.post enc Try.prog Try.f9 false true false false) := by
  refine returnsInHanded_of_change_sized (C := Try.checked) Try.own started (by kernel_rfl) Try.func9
    (ChangeSpec.witness6 (enc := enc) (C := Try.checked) false ⟨#[], #[.string ⟨#[]⟩, .string ⟨#[]⟩, .int .i64 0], []⟩ 8 (by kernel_rfl) (by kernel_rfl) (by kernel_rfl) (by kernel_rfl)) ?_
  intro W base args ds gs before hval hW _ hwt _
  refine law_calls (P := Try.prog) (n := 20) (shs := [.str, .str, .int .i64]) (tb := 4) Try.laidOut rfl (by kernel_rfl) (by kernel_rfl) (by decide +kernel) (by kernel_rfl) (fun ds h => ?_) (fun xs hx => ?_) hval hW hwt
  · match ds, h with
    | [d1, d2, d3], _ => rfl
  · obtain ⟨x, _, rfl, hx1, hxs⟩ := fitL_cons hx
    obtain ⟨y, _, rfl, hy, hys⟩ := fitL_cons hxs
    obtain ⟨z, _, rfl, hz, hzs⟩ := fitL_cons hys
    have := fitL_nil hzs
    subst this
    obtain ⟨s, rfl⟩ := fit_str hx1
    obtain ⟨inp, rfl⟩ := fit_str hy
    obtain ⟨fuel, rfl, _⟩ := fit_int hz
    exact execbytes_c s inp fuel

theorem execbytes_holds : Rows.ExecBytesSaid :=
  OpenClaim.holds_of_wide 9 Try.f9 rfl rfl rfl rfl rfl rfl rfl ⟨rfl, rfl, rfl, rfl, rfl⟩ rfl rfl rfl rfl rfl (by kernel_rfl) Try.func9 (by kernel_rfl)
    (of_decide_eq_true (by kernel_rfl)) (by unfold Func.isWrapper; first | (rw [if_pos (by decide +kernel)]; kernel_rfl) | (rw [if_neg (by decide +kernel)]; exact ⟨rfl, rfl⟩))
    (fun os started H enc _ => execbytes_lifted os started H enc)
end Go.Proofs.Ytjoldjcfabbekaa
