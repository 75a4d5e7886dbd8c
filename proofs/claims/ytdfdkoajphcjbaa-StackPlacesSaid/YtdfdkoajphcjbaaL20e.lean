/-
  StackPlaces: the row. No condition.
-/
import Derived.Test.YtdfdkoajphcjbaaSQ
import Derived.Test.YtdfdkoajphcjbaaSG
import Derived.Test.YtdfdkoajphcjbaaSA
namespace Go.Proofs.Ytdfdkoajphcjbaa
set_option linter.unusedSimpArgs false
set_option linter.unusedVariables false
set_option maxRecDepth 10000
open Go.V Go.ChangeShapes Go.WideShapes Go.ChangeAt Go.RowKit


theorem fit_16 {x : AV} (h : Sh.fit (.int .u16) x) : ∃ n : Int, x = .val (.int .u16 n) ∧ 0 ≤ n ∧ n ≤ 65535 := by
  simp only [Sh.fit] at h
  obtain ⟨n, rfl, h⟩ := h
  simp [Lit.wf, IntKind.min, IntKind.max, IntKind.bits, IntKind.signed] at h
  exact ⟨n, rfl, by omega⟩
theorem fit_y {x : AV} (h : Sh.fit (.int .u8) x) : ∃ n : Int, x = .val (.int .u8 n) ∧ 0 ≤ n ∧ n ≤ 255 := by
  simp only [Sh.fit] at h
  obtain ⟨n, rfl, h⟩ := h
  simp [Lit.wf, IntKind.min, IntKind.max, IntKind.bits, IntKind.signed] at h
  exact ⟨n, rfl, by omega⟩
abbrev Y8 (n : Int) : AV := .val (.int .u8 n)
theorem stackplaces_c (z i v : Int) (hz : 0 ≤ z ∧ z ≤ 65535) (hi : In32 i) (hv : 0 ≤ v ∧ v ≤ 255) : Contract Try.prog 6 [.val (.int .u16 z), U32 i, Y8 v] (fun r => r = B true) := by
  refine Contract.of_call (VCall.of_body hmix f_sclaw20_StackPlaces (by simp) ?_)
  obtain ⟨n, hn⟩ : ∃ n : Int, n = 1 + z.tmod 4096 := ⟨_, rfl⟩
  have hn1 : 1 ≤ n ∧ n ≤ 4096 := by rw [hn, Int.tmod_eq_emod_of_nonneg hz.1]; omega
  have w0 : IntKind.i64.wrap z = z := i64_in (by omega) (by omega)
  have w1 : IntKind.i64.wrap (z.tmod 4096) = z.tmod 4096 := by rw [show z.tmod 4096 = n - 1 by omega]; exact i64_in (by omega) (by omega)
  have w2 : IntKind.i64.wrap (1 + z.tmod 4096) = n := by rw [← hn]; exact i64_in (by omega) (by omega)
  have w3 : IntKind.i64.wrap (n + 2) = n + 2 := i64_in (by omega) (by omega)
  have hv32 : In32 v := ⟨by omega, by omega⟩
  have w4 : IntKind.u32.wrap v = v := w32_in hv32
  have w5 : IntKind.u32.wrap n = n := w32_in ⟨by omega, by omega⟩
  have w6 : IntKind.u8.wrap v = v := by rw [IntKind.wrap_u8]; omega
  have hU8 : (AV.val (.int .u8 v)) = U8 (byteS v) := by have := u8_byteS v; rw [w6] at this; exact this
  simp only [go_sem,Nat.reduceEqDiff,Nat.reduceAdd,Nat.reduceMul,↓reduceIte,↓dreduceIte,reduceCtorEq,Nat.reduceLeDiff,Nat.reduceLT,Nat.reduceSub,Int.reduceToNat,Int.reduceLE,Int.reduceLT, one_ref, one_imm, Int.reduceLT, Int.reduceEq, Int.reduceBEq, c_sclaw20_StackPlaces]
  refine VCall.of_contract awake_c (SleL.pure rfl) fun r hr => ?_
  subst hr
  simp only [go_sem,Nat.reduceEqDiff,Nat.reduceAdd,Nat.reduceMul,↓reduceIte,↓dreduceIte,reduceCtorEq,Nat.reduceLeDiff,Nat.reduceLT,Nat.reduceSub,Int.reduceToNat,Int.reduceLE,Int.reduceLT, one_ref, one_imm, Int.reduceLT, Int.reduceEq, Int.reduceBEq, w0, w1, w2, w3, w4]
  repeat (with_reducible refine And.intro (by simp [maxLen]) ?_)
  refine VCall.of_contractN ((plP_giv n i v hn1 hi hv32).runN ⟨#[]⟩ 100 (by omega) (by decide)) ?_ fun r hr => ?_
  · exact ⟨_, _, rfl, frz_one (n + 2) ⟨0, 0, 0, false, plS n i v ++ plL n i⟩ rfl rfl, _, _, rfl, Frz.pure rfl, _, _, rfl, Frz.pure rfl, rfl⟩
  rw [show (100 : Int).toNat = 100 by rfl] at hr
  by_cases h : i < n
  · rw [pl_in n i v _ hn1.1 hi.1 h] at hr
    subst hr
    simp only [go_sem,Nat.reduceEqDiff,Nat.reduceAdd,Nat.reduceMul,↓reduceIte,↓dreduceIte,reduceCtorEq,Nat.reduceLeDiff,Nat.reduceLT,Nat.reduceSub,Int.reduceToNat,Int.reduceLE,Int.reduceLT, one_ref, one_imm, Int.reduceLT, Int.reduceEq, Int.reduceBEq, w0, w1, w2, w3, w4]
    refine VCall.of_contractN ((plQ_giv n i hn1 hi).runN ⟨#[]⟩ 100 (by omega) (by decide)) ?_ fun r hr => ?_
    · exact ⟨_, _, rfl, frz_one (n + 2) ⟨0, 0, 0, false, plL n i⟩ rfl rfl, _, _, rfl, Frz.pure rfl, _, _, rfl, Frz.pure rfl, rfl⟩
    rw [show (100 : Int).toNat = 100 by rfl, q_in n i _ hn1.1 hi.1 h] at hr
    subst hr
    have h' : ¬ n ≤ i := by omega
    simp only [go_sem,Nat.reduceEqDiff,Nat.reduceAdd,Nat.reduceMul,↓reduceIte,↓dreduceIte,reduceCtorEq,Nat.reduceLeDiff,Nat.reduceLT,Nat.reduceSub,Int.reduceToNat,Int.reduceLE,Int.reduceLT, one_ref, one_imm, Int.reduceLT, Int.reduceEq, Int.reduceBEq, w0, w1, w2, w5, eq_false h', hU8, b2sT_one]
    refine ⟨fun _ => ⟨_, Frz.pure rfl, ?_⟩, fun e => ?_⟩
    · simp [ba_self]
    · simp [ba_self] at e
  · rw [pl_out n i v _ h] at hr
    subst hr
    simp only [go_sem,Nat.reduceEqDiff,Nat.reduceAdd,Nat.reduceMul,↓reduceIte,↓dreduceIte,reduceCtorEq,Nat.reduceLeDiff,Nat.reduceLT,Nat.reduceSub,Int.reduceToNat,Int.reduceLE,Int.reduceLT, one_ref, one_imm, Int.reduceLT, Int.reduceEq, Int.reduceBEq, w0, w1, w2, w3, w4]
    refine VCall.of_contractN ((plQ_giv n i hn1 hi).runN ⟨#[]⟩ 100 (by omega) (by decide)) ?_ fun r hr => ?_
    · exact ⟨_, _, rfl, frz_one (n + 2) ⟨0, 0, 0, false, plL n i⟩ rfl rfl, _, _, rfl, Frz.pure rfl, _, _, rfl, Frz.pure rfl, rfl⟩
    rw [show (100 : Int).toNat = 100 by rfl, q_out n i _ h] at hr
    subst hr
    have h' : n ≤ i := by omega
    simp only [go_sem,Nat.reduceEqDiff,Nat.reduceAdd,Nat.reduceMul,↓reduceIte,↓dreduceIte,reduceCtorEq,Nat.reduceLeDiff,Nat.reduceLT,Nat.reduceSub,Int.reduceToNat,Int.reduceLE,Int.reduceLT, one_ref, one_imm, Int.reduceLT, Int.reduceEq, Int.reduceBEq, w0, w1, w2, w5, eq_true h']
    refine ⟨fun _ => ⟨_, Frz.pure rfl, ?_⟩, fun e => ?_⟩
    · simp [ba_self]
    · simp [ba_self] at e

set_option maxRecDepth 100000 in
theorem stackplaces_lifted (os : Os) (started : os.Started) (H : Type) (enc : TypeId × Value → H) :
    ReturnsInHanded {} Try.checked os 6 .any (Rows.stackPlacesSpec.pre6 enc Try.prog Try.f6 Rows.stackPlacesRow.domain false) (Rows.stackPlacesSpec.post enc Try.prog Try.f6 false true false false) := by
  refine returnsInHanded_of_change_sized (C := Try.checked) Try.own started (by kernel_rfl) Try.func6
    (ChangeSpec.witness6 (enc := enc) (C := Try.checked) false ⟨#[], #[.int .u16 0, .int .u32 0, .int .u8 0], []⟩ 8 (by kernel_rfl) (by kernel_rfl) (by kernel_rfl) (by kernel_rfl)) ?_
  intro W base args ds gs before hval hW _ hwt _
  refine law_calls (P := Try.prog) (n := 20) (shs := [.int .u16, .int .u32, .int .u8]) (tb := 4) Try.laidOut rfl (by kernel_rfl) (by kernel_rfl) (by decide +kernel) (by kernel_rfl) (fun ds h => ?_) (fun xs hx => ?_) hval hW hwt
  · match ds, h with
    | [d1, d2, d3], _ => rfl
  · obtain ⟨x, xs', rfl, hx1, hxs⟩ := fitS_cons hx
    obtain ⟨y, ys', rfl, hy, hys⟩ := fitS_cons hxs
    obtain ⟨z, zs', rfl, hz, hzs⟩ := fitS_cons hys
    simp only [Sh.fitL] at hzs
    subst hzs
    obtain ⟨a, rfl, ha⟩ := fit_16 hx1
    obtain ⟨b, rfl, hb⟩ := fit_w hy
    obtain ⟨c, rfl, hc⟩ := fit_y hz
    exact stackplaces_c a b c ha hb hc

theorem stackplaces_holds : Rows.StackPlacesSaid :=
  OpenClaim.holds_of_wide 6 Try.f6 rfl rfl rfl rfl rfl rfl rfl ⟨rfl, rfl, rfl, rfl, rfl⟩ rfl rfl rfl rfl rfl (by kernel_rfl) Try.func6 (by kernel_rfl)
    (of_decide_eq_true (by kernel_rfl)) (by unfold Func.isWrapper; first | (rw [if_pos (by decide +kernel)]; kernel_rfl) | (rw [if_neg (by decide +kernel)]; exact ⟨rfl, rfl⟩))
    (fun os started H enc _ => stackplaces_lifted os started H enc)
end Go.Proofs.Ytdfdkoajphcjbaa
