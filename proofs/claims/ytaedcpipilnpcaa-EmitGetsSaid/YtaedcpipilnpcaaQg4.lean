/-
  EmitGets: the row. No condition.
-/
import Derived.Test.YtaedcpipilnpcaaQg3
set_option linter.unusedVariables false
set_option linter.unusedSimpArgs false
namespace Go.Proofs.Ytaedcpipilnpcaa
set_option linter.unusedSimpArgs false
set_option linter.unusedVariables false
set_option maxRecDepth 10000
open Go.V Go.ChangeShapes Go.WideShapes Go.ChangeAt Go.RowKit
theorem insM_noget (w : List Int) (a b : ByteArray) (t : S) {op : Int} (h : op ≠ 23) (x y z : Int) : insM w a t op x y z = insM w b t op x y z := by
  unfold insM
  simp only [if_neg h]
theorem run_noget {code : List Ci} (hc : CdOk code) (hg : ∀ i ∈ code, i.op ≠ 23) (a b : ByteArray) (t : S) : ∀ k, runN (wrds code) a t k = runN (wrds code) b t k
  | 0 => rfl
  | k + 1 => by
    show stepF (wrds code) a (runN (wrds code) a t k) = stepF (wrds code) b (runN (wrds code) b t k)
    rw [run_noget hc hg a b t k]
    generalize runN (wrds code) b t k = τ
    unfold stepF
    by_cases h0 : τ.fin = 0
    · rw [if_pos h0, if_pos h0]
      by_cases h1 : τ.pc < 0 ∨ ((wrds code).length : Int) ≤ τ.pc
      · rw [if_pos h1, if_pos h1]
      · rw [if_neg h1, if_neg h1]
        have hlt : τ.pc.toNat < code.length := by rw [List.length_map] at h1; omega
        have hm : code.getD τ.pc.toNat default ∈ code := by
          rw [List.getD, List.getElem?_eq_getElem hlt]; exact List.getElem_mem hlt
        have hw : (wrds code).getD τ.pc.toNat default = encI (code.getD τ.pc.toNat default).op (code.getD τ.pc.toNat default).a (code.getD τ.pc.toNat default).b (code.getD τ.pc.toNat default).c := by
          rw [List.getD, List.getElem?_map, List.getD, List.getElem?_eq_getElem hlt]; rfl
        have hop := (enc_dec (hc.ok _ hm).1).1
        unfold wordF
        rw [hw, hop]
        have key := insM_noget (wrds code) a b
        simp only [key _ (hg _ hm)]
    · rw [if_neg h0, if_neg h0]
theorem same10_c (e : Int) (o : ByteArray) (n : Int) : Contract Try.prog 12 [resA e o n, resA e o n] (fun r => r = B true) := by
  refine Contract.of_call (VCall.of_body hmix f_scref10_Same (by simp) ?_)
  simp only [go_sem, Nat.reduceEqDiff, Nat.reduceAdd, ↓reduceIte, reduceCtorEq, Nat.reduceLeDiff, c_scref10_Same, beq_self_eq_true]
  exact ⟨_, Frz.pure rfl, by simp⟩
theorem emitgets_c (s : SP) (h : SPOk s) (a b : ByteArray) : Contract Try.prog 3 [spA s, strv a, strv b] (fun r => r = B true) := by
  refine Contract.of_call (VCall.of_body hmix f_sclaw22_EmitGets (by simp) ?_)
  simp only [go_sem, Nat.reduceAdd, ↓reduceIte, ↓dreduceIte, c_sclaw22_EmitGets]
  refine VCall.of_contract alive_c (SleL.pure rfl) fun x hx => ?_
  subst hx
  simp only [go_sem, Nat.reduceEqDiff, Nat.reduceAdd, ↓reduceIte, ↓dreduceIte]
  refine VCall.of_contract (fewL_c s h) (SleL.pure rfl) fun x hx => ?_
  obtain ⟨v, rfl, hv⟩ := hx
  cases v
  · simp only [go_sem, Nat.reduceEqDiff, ↓reduceIte]
    exact ⟨_, Frz.pure rfl, rfl⟩
  obtain ⟨hz, hw, hfit⟩ := hv rfl
  by_cases ha : (60 : Int) < (a.size : Int)
  · simp only [go_sem, Nat.reduceEqDiff, ↓reduceIte, reduceCtorEq, eq_true ha]
    exact ⟨_, Frz.pure rfl, rfl⟩
  by_cases hb : (60 : Int) < (b.size : Int)
  · simp only [go_sem, Nat.reduceEqDiff, ↓reduceIte, reduceCtorEq, eq_false ha, eq_true hb]
    exact ⟨_, Frz.pure rfl, rfl⟩
  simp only [go_sem, Nat.reduceEqDiff, ↓reduceIte, reduceCtorEq, eq_false ha, eq_false hb]
  have hn1 := hz.r.n1
  have hw0 := hz.r.w0
  refine VW_loop (fun k : Nat => ⟨[(1, strv a), (2, strv b), (3, .ptr 0 0 0), (7, I k)], [⟨0, 24, 1, [I s.words, fnsA s.funcs]⟩], 1⟩) (fun k => k ≤ s.funcs.length ∧ ∀ f < k, ∀ i < (s.fn f).code.length, (s.ins f i).op ≠ 12) (fun k => s.funcs.length - k) 0
    (Wk.mk (by simp [get_cons]) ⟨[], rfl⟩ (Nat.le_refl _)) ⟨Nat.zero_le _, fun f hf => absurd hf (Nat.not_lt_zero f)⟩ ?_
  rintro k ⟨hk, hno⟩
  by_cases hlt : k < s.funcs.length
  · have hcl := hz.code hlt
    have hfd : s.funcs.getD k default = s.fn k := rfl
    simp only [go_sem, Nat.reduceEqDiff, Nat.reduceAdd, ↓reduceIte, List.length_map, eq_true (show (k : Int) < s.funcs.length by omega)]
    refine VW_loop (fun i : Nat => ⟨[(1, strv a), (2, strv b), (3, .ptr 0 0 0), (7, I k), (8, I i)], [⟨0, 24, 1, [I s.words, fnsA s.funcs]⟩], 1⟩) (fun i => i ≤ (s.fn k).code.length ∧ ∀ j < i, (s.ins k j).op ≠ 12) (fun i => (s.fn k).code.length - i) 0
      (Wk.mk (by simp [get_cons]) ⟨[], rfl⟩ (Nat.le_refl _)) ⟨Nat.zero_le _, fun j hj => absurd hj (Nat.not_lt_zero j)⟩ ?_
    rintro i ⟨hi, hnoi⟩
    by_cases hil : i < (s.fn k).code.length
    · have hx : (s.fn k).code.getD i default = s.ins k i := rfl
      have w1 : IntKind.i64.wrap ((i : Int) + 1) = ((i + 1 : Nat) : Int) := by rw [i64_in (by omega) (by omega)]; omega
      by_cases e : (s.ins k i).op = 12
      · simp only [go_sem, Nat.reduceEqDiff, Nat.reduceAdd, ↓reduceIte, Nat.reduceLeDiff, List.length_map, hfd, hx, eq_true (show (i : Int) < (s.fn k).code.length by omega), eq_true e]
        repeat ((with_reducible refine And.intro ?_ ?_); · first | omega | (simp; omega))
        exact ⟨_, Frz.pure rfl, rfl⟩
      · simp only [go_sem, Nat.reduceEqDiff, Nat.reduceAdd, ↓reduceIte, Nat.reduceLeDiff, List.length_map, hfd, hx, eq_true (show (i : Int) < (s.fn k).code.length by omega), eq_false e, w1]
        repeat ((with_reducible refine And.intro ?_ ?_); · first | omega | (simp; omega))
        refine ⟨i + 1, ⟨by omega, fun j hj => ?_⟩, by omega, Wk.mk (by simp [get_cons]) ⟨[], by simp⟩ (Nat.le_refl _)⟩
        rcases Nat.lt_or_ge j i with g | g
        · exact hnoi j g
        · obtain rfl : j = i := by omega
          exact e
    · obtain rfl : i = (s.fn k).code.length := by omega
      have w1 : IntKind.i64.wrap ((k : Int) + 1) = ((k + 1 : Nat) : Int) := by rw [i64_in (by omega) (by omega)]; omega
      simp only [go_sem, Nat.reduceEqDiff, Nat.reduceAdd, ↓reduceIte, List.length_map, hfd, eq_false (show ¬ ((s.fn k).code.length : Int) < (s.fn k).code.length by omega), w1]
      repeat ((with_reducible refine And.intro ?_ ?_); · first | omega | (simp; omega))
      refine ⟨k + 1, ⟨by omega, fun f hf => ?_⟩, by omega, Wk.mk (by simp [get_cons]) ⟨[], by simp⟩ (Nat.le_refl _)⟩
      rcases Nat.lt_or_ge f k with g | g
      · exact hno f g
      · obtain rfl : f = k := by omega
        exact hnoi
  obtain rfl : k = s.funcs.length := by omega
  have hng : ¬ HasGet s := fun ⟨f, hf, i, hi, e⟩ => hno f hf i hi e
  have hcd := hz.cd
  have hc := hz.cok
  have hg : ∀ i ∈ fixE s, i.op ≠ 23 := fun i hi e => hng ((hz.fix i hi).2.2 e)
  have hrun : runF (codeE s) (dataE s) b ((200 + 1) * (64 + 8 * s.words)) = runF (codeE s) (dataE s) a ((200 + 1) * (64 + 8 * s.words)) := (run_noget hcd hg a b _ _).symm
  have k1 := of22_c hz.ofH
  unfold ofA at k1
  have k2 := refRun_c (codeE s) (dataE s) a ((200 + 1) * (64 + 8 * s.words)) hc.1 hc.2 (by omega) (by omega)
  have k3 := refRun_c (codeE s) (dataE s) b ((200 + 1) * (64 + 8 * s.words)) hc.1 hc.2 (by omega) (by omega)
  unfold runA at k2 k3
  rw [hrun] at k3
  have k4 := same10_c (endF (runF (codeE s) (dataE s) a ((200 + 1) * (64 + 8 * s.words)))) (runF (codeE s) (dataE s) a ((200 + 1) * (64 + 8 * s.words))).out (runF (codeE s) (dataE s) a ((200 + 1) * (64 + 8 * s.words))).st
  have k5 := fuel_c s 200 ⟨hw0, by omega⟩ ⟨by decide, by decide⟩
  generalize runF (codeE s) (dataE s) a ((200 + 1) * (64 + 8 * s.words)) = ρ at *
  generalize codeE s = code at *
  generalize dataE s = data at *
  simp only [go_sem, Nat.reduceEqDiff, Nat.reduceAdd, ↓reduceIte, ↓dreduceIte, List.length_map, eq_false (show ¬ (s.funcs.length : Int) < s.funcs.length by omega)]
  refine VCall.of_contract (refrunS_c s a 200 hfit (by decide) (by omega) fun k _ => runS_good hz.r a k) (SleL.pure rfl) fun x hx => ?_
  subst hx
  simp only [resS]
  by_cases h5 : (if (runS s a (startS s) 200).fin = 0 then (5 : Int) else (runS s a (startS s) 200).fin) = 5
  · simp only [go_sem, Nat.reduceAdd, ↓reduceIte, Nat.reduceLeDiff, Int.reduceToNat, List.length_map, eq_true h5]
    exact ⟨_, Frz.pure rfl, rfl⟩
  simp only [go_sem, Nat.reduceEqDiff, Nat.reduceAdd, ↓reduceIte, ↓dreduceIte, Nat.reduceLeDiff, Int.reduceToNat, List.length_map, eq_false h5]
  refine VCall.of_contract k1 (SleL.pure rfl) fun x hx => ?_
  subst hx
  simp only [go_sem, Nat.reduceEqDiff, Nat.reduceAdd, ↓reduceIte, ↓dreduceIte, Nat.reduceLT, List.length_map]
  refine VCall.of_contract k5 (SleL.pure rfl) fun x hx => ?_
  subst hx
  simp only [go_sem, Nat.reduceEqDiff, Nat.reduceAdd, ↓reduceIte, ↓dreduceIte, Nat.reduceLT, List.length_map, Int.reduceBEq, beq_self_eq_true]
  refine ECall.of k2 (SleL.pure rfl) ⟨_, fun _ => Iff.rfl⟩ fun x hx => ?_
  subst hx
  simp only [go_sem, Nat.reduceEqDiff, Nat.reduceAdd, ↓reduceIte, ↓dreduceIte, Nat.reduceLT, List.length_map]
  refine ECall.of k3 (SleL.pure rfl) ⟨_, fun _ => Iff.rfl⟩ fun x hx => ?_
  subst hx
  simp only [go_sem, Nat.reduceEqDiff, ↓reduceIte, List.length_map]
  refine ECall.of k4 (SleL.pure rfl) ⟨_, fun _ => Iff.rfl⟩ fun x hx => ?_
  subst hx
  simp only [go_sem, Nat.reduceEqDiff, ↓reduceIte, List.length_map]
  exact ⟨_, Frz.pure rfl, rfl⟩
set_option maxRecDepth 100000 in
theorem emitgets_lifted (os : Os) (started : os.Started) (H : Type) (enc : TypeId × Value → H) :
    ReturnsInHanded {} Try.checked os 3 .any (Rows.emitGetsSpec.pre6 enc Try.prog Try.f3 Rows.emitGetsRow.domain false) (Rows.emitGetsSpec.post enc Try.prog Try.f3 false true false false) := by
  refine returnsInHanded_of_change_sized (C := Try.checked) Try.own started (by kernel_rfl) Try.func3
    (ChangeSpec.witness6 (enc := enc) (C := Try.checked) false ⟨#[], #[.agg #[.int .i64 0, .slice none 0 0], .string ⟨#[]⟩, .string ⟨#[]⟩], []⟩ 8 (by kernel_rfl) (by kernel_rfl) (by kernel_rfl) (by kernel_rfl)) ?_
  intro W base args ds gs before hval hW _ hwt _
  refine law_calls (P := Try.prog) (n := 20) (shs := [spSh, .str, .str]) (tb := 4) Try.laidOut rfl (by kernel_rfl) (by kernel_rfl) (by decide +kernel) (by kernel_rfl) (fun ds h => ?_) (fun xs hx => ?_) hval hW hwt
  · match ds, h with
    | [d1, d2, d3], _ => rfl
  · obtain ⟨x, xs', rfl, hx1, hxs⟩ := fitS_cons hx
    obtain ⟨y, ys', rfl, hy, hys⟩ := fitS_cons hxs
    obtain ⟨z, zs', rfl, hz, hzs⟩ := fitS_cons hys
    simp only [Sh.fitL] at hzs
    subst hzs
    obtain ⟨s, rfl, h⟩ := sp_of hx1
    simp only [Sh.fit] at hy hz
    obtain ⟨a, rfl, hy⟩ := hy
    obtain ⟨b, rfl, hz⟩ := hz
    exact emitgets_c s h a b
theorem emitgets_holds : Rows.EmitGetsSaid :=
  OpenClaim.holds_of_wide 3 Try.f3 rfl rfl rfl rfl rfl rfl rfl ⟨rfl, rfl, rfl, rfl, rfl⟩ rfl rfl rfl rfl rfl (by kernel_rfl) Try.func3 (by kernel_rfl)
    (of_decide_eq_true (by kernel_rfl)) (by unfold Func.isWrapper; first | (rw [if_pos (by decide +kernel)]; kernel_rfl) | (rw [if_neg (by decide +kernel)]; exact ⟨rfl, rfl⟩))
    (fun os started H enc _ => emitgets_lifted os started H enc)
end Go.Proofs.Ytaedcpipilnpcaa
