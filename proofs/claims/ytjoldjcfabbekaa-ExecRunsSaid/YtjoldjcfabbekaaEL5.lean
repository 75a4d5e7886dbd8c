/-
  ExecRuns: the row. No condition.
-/
import Derived.Test.YtjoldjcfabbekaaER6
namespace Go.Proofs.Ytjoldjcfabbekaa
set_option linter.unusedSimpArgs false
set_option linter.unusedVariables false
set_option maxRecDepth 10000
open Go.V Go.ChangeShapes Go.WideShapes Go.ChangeAt Go.RowKit

theorem stepF_done {code : List Int} {inp : ByteArray} {s : S} : (doneF code s = true → (stepF code inp s).st = IntKind.i64.wrap (s.st + 1)) ∧ (doneF code s = false → (stepF code inp s).st = s.st) := by
  by_cases h0 : s.fin = 0
  · by_cases h1 : s.pc < 0 ∨ (code.length : Int) ≤ s.pc
    · have hd : doneF code s = false := by simp only [doneF, h0, decide_true, Bool.true_and, Bool.and_eq_false_iff, decide_eq_false_iff_not]; omega
      have e : stepF code inp s = { s with fin := 7 } := by unfold stepF; rw [if_pos h0, if_pos h1]
      rw [hd, e]; exact ⟨fun h => (by cases h), fun _ => rfl⟩
    · have hd : doneF code s = true := by simp only [doneF, h0, decide_true, Bool.true_and, Bool.and_eq_true, decide_eq_true_eq]; omega
      have e : stepF code inp s = wordF code inp { s with st := IntKind.i64.wrap (s.st + 1) } (code.getD s.pc.toNat default) := by unfold stepF; rw [if_pos h0, if_neg h1]
      rw [hd, e]
      refine ⟨fun _ => ?_, fun h => by cases h⟩
      unfold wordF
      have k := insF_keeps code inp { s with st := IntKind.i64.wrap (s.st + 1) } (opW (code.getD s.pc.toNat default)) (raW (code.getD s.pc.toNat default)) (rbW (code.getD s.pc.toNat default)) (kW (code.getD s.pc.toNat default))
      refine ite_ind (P := fun x : S => x.st = IntKind.i64.wrap (s.st + 1)) (fun _ => ?_) fun _ => rfl
      exact ite_ind (P := fun x : S => x.st = IntKind.i64.wrap (s.st + 1)) (fun _ => k.2) fun _ => k.2
  · rw [stepF_stays h0]
    have hd : doneF code s = false := by simp [doneF, h0]
    rw [hd]; exact ⟨fun h => (by cases h), fun _ => rfl⟩
theorem sum_set : ∀ (l : List Int) (i : Nat), i < l.length → (l.set i (l.getD i default + 1)).sum = l.sum + 1
  | [], i, h => by simp at h
  | a :: l, 0, _ => by simp only [List.set_cons_zero, List.getD_cons_zero, List.sum_cons]; omega
  | a :: l, i + 1, h => by
    simp only [List.set_cons_succ, List.getD_cons_succ, List.sum_cons]
    rw [sum_set l i (by simpa using h)]; omega
/-- Counts add up to the steps. -/
theorem cntL_sum (code : List Int) (inp : ByteArray) (data : Int) : ∀ k : Nat, k ≤ 1000000 → (cntL code inp (startF data) k).sum = (runN code inp (startF data) k).st
  | 0, _ => by
    show (List.replicate code.length (0 : Int)).sum = 0
    induction code.length with
    | zero => rfl
    | succ n ih => rw [List.replicate_succ, List.sum_cons, ih]; rfl
  | k + 1, hk => by
    have ih := cntL_sum code inp data k (by omega)
    obtain ⟨⟨i1, i2⟩, _⟩ := runN_st (code := code) (inp := inp) (s := startF data) (Int.le_refl _) (by show (0 : Int) ≤ 2000000; omega) k (by omega)
    have i1 : (0 : Int) ≤ (runN code inp (startF data) k).st := i1
    have i2 : (runN code inp (startF data) k).st ≤ 0 + (k : Int) := i2
    have hs := stepF_done (code := code) (inp := inp) (s := runN code inp (startF data) k)
    show (if doneF code (runN code inp (startF data) k) = true then (cntL code inp (startF data) k).set (runN code inp (startF data) k).pc.toNat ((cntL code inp (startF data) k).getD (runN code inp (startF data) k).pc.toNat 0 + 1) else cntL code inp (startF data) k).sum = (stepF code inp (runN code inp (startF data) k)).st
    cases hd : doneF code (runN code inp (startF data) k)
    · rw [hs.2 hd, ← ih]; simp
    · have hd' := hd
      simp only [doneF, Bool.and_eq_true, decide_eq_true_eq] at hd'
      obtain ⟨_, h1, h2⟩ := hd'
      have hl := cntL_len code inp (startF data) k
      rw [hs.1 hd, if_pos rfl]
      have := sum_set (cntL code inp (startF data) k) (runN code inp (startF data) k).pc.toNat (by omega)
      rw [i64_in (by omega) (by omega), ← ih]
      exact this
theorem sum_take (l : List Int) (k : Nat) (h : k < l.length) : (l.take (k + 1)).sum = (l.take k).sum + l.getD k default := by
  rw [List.take_add_one, List.getElem?_eq_getElem h, List.getD_eq_getElem?_getD, List.getElem?_eq_getElem h, List.sum_append]
  simp
theorem sum_bound (l : List Int) (m : Int) (h : ∀ x ∈ l, 0 ≤ x ∧ x ≤ m) : 0 ≤ l.sum ∧ l.sum ≤ l.length * m := by
  induction l with
  | nil => simp
  | cons a l ih =>
    have ha := h a (by simp)
    have hl := ih (fun x hx => h x (by simp [hx]))
    rw [List.sum_cons, List.length_cons]
    have e : ((l.length + 1 : Nat) : Int) * m = (l.length : Int) * m + m := by rw [Int.natCast_add, Int.add_mul]; simp
    rw [e]; omega

theorem execruns_c (code : List Int) (data : Int) (inp : ByteArray) (fuel : Int) (h : Im code data) (hf : Int64 fuel) : Contract Try.prog 3 [imgA code data, strv inp, I fuel] (fun r => r = B true) := by
  refine Contract.of_call (VCall.of_body hmix f_sclaw10_ExecRuns (by simp) ?_)
  simp only [go_sem,Nat.reduceEqDiff,Nat.reduceAdd,Nat.reduceMul,↓reduceIte,↓dreduceIte,reduceCtorEq,Nat.reduceLeDiff,Nat.reduceLT,Nat.reduceSub,Int.reduceToNat,Int.reduceLE,Int.reduceLT, c_sclaw10_ExecRuns, one_imm]
  refine VCall.of_contract alive_c (SleL.pure rfl) fun x hx => ?_
  subst hx
  simp only [go_sem,Nat.reduceEqDiff,Nat.reduceAdd,Nat.reduceMul,↓reduceIte,↓dreduceIte,reduceCtorEq,Nat.reduceLeDiff,Nat.reduceLT,Nat.reduceSub,Int.reduceToNat,Int.reduceLE,Int.reduceLT, one_imm]
  refine VCall.of_contract (few_c code data inp fuel) (SleL.pure rfl) fun x hx => ?_
  subst hx
  cases hb : fewB code data inp fuel
  · simp only [go_sem,Nat.reduceEqDiff,Nat.reduceAdd,Nat.reduceMul,↓reduceIte,↓dreduceIte,reduceCtorEq,Nat.reduceLeDiff,Nat.reduceLT,Nat.reduceSub,Int.reduceToNat,Int.reduceLE,Int.reduceLT, one_imm]
    exact ⟨_, Frz.pure rfl, rfl⟩
  obtain ⟨b1, b2, b3, b4⟩ := fewB_iff.1 hb
  simp only [go_sem,Nat.reduceEqDiff,Nat.reduceAdd,Nat.reduceMul,↓reduceIte,↓dreduceIte,reduceCtorEq,Nat.reduceLeDiff,Nat.reduceLT,Nat.reduceSub,Int.reduceToNat,Int.reduceLE,Int.reduceLT, one_imm]
  refine VCall.of_contract (run_c code data inp fuel h.fit (by omega) (by omega) (by omega)) (SleL.pure rfl) fun x hx => ?_
  subst hx
  simp only [go_sem,Nat.reduceEqDiff,Nat.reduceAdd,Nat.reduceMul,↓reduceIte,↓dreduceIte,reduceCtorEq,Nat.reduceLeDiff,Nat.reduceLT,Nat.reduceSub,Int.reduceToNat,Int.reduceLE,Int.reduceLT, one_imm]
  refine VCall.of_contract (counts_c code data inp fuel h.fit (by omega) (by omega) (by omega)) (SleL.pure rfl) fun x hx => ?_
  subst hx
  simp only [go_sem,Nat.reduceEqDiff,Nat.reduceAdd,Nat.reduceMul,↓reduceIte,↓dreduceIte,reduceCtorEq,Nat.reduceLeDiff,Nat.reduceLT,Nat.reduceSub,Int.reduceToNat,Int.reduceLE,Int.reduceLT, one_imm]
  refine ECall.of (refRun_c code data inp fuel h.fit (by omega) (by omega) (by omega)) (SleL.pure rfl) ⟨_, fun _ => Iff.rfl⟩ fun x hx => ?_
  subst hx
  simp only [go_sem,Nat.reduceEqDiff,Nat.reduceAdd,Nat.reduceMul,↓reduceIte,↓dreduceIte,reduceCtorEq,Nat.reduceLeDiff,Nat.reduceLT,Nat.reduceSub,Int.reduceToNat,Int.reduceLE,Int.reduceLT, one_imm]
  have hs' := refsameR_c (endF (runF code data inp fuel)) (runF code data inp fuel).out (runF code data inp fuel).st (endF (runF code data inp fuel)) (runF code data inp fuel).out (runF code data inp fuel).st
  rw [sameR_refl] at hs'
  refine ECall.of hs' (SleL.pure rfl) ⟨_, fun _ => Iff.rfl⟩ fun x hx => ?_
  subst hx
  simp only [go_sem,Nat.reduceEqDiff,Nat.reduceAdd,Nat.reduceMul,↓reduceIte,↓dreduceIte,reduceCtorEq,Nat.reduceLeDiff,Nat.reduceLT,Nat.reduceSub,Int.reduceToNat,Int.reduceLE,Int.reduceLT, one_imm]
  refine ECall.of (refCounts_c code data inp fuel h.fit (by omega) (by omega) (by omega)) (SleL.pure rfl) ⟨_, fun _ => Iff.rfl⟩ fun x hx => ?_
  subst hx
  simp only [go_sem,Nat.reduceEqDiff,Nat.reduceAdd,Nat.reduceMul,↓reduceIte,↓dreduceIte,reduceCtorEq,Nat.reduceLeDiff,Nat.reduceLT,Nat.reduceSub,Int.reduceToNat,Int.reduceLE,Int.reduceLT, one_imm]
  have hll := cntL_len code inp (startF data) fuel.toNat
  have hle := cntL_le code inp (startF data) fuel.toNat
  have hsum := cntL_sum code inp data fuel.toNat (by omega)
  have hi' := refints_c (cntL code inp (startF data) fuel.toNat) (cntL code inp (startF data) fuel.toNat) (by omega)
  rw [beq_self_eq_true] at hi'
  refine ECall.of hi' (SleL.pure rfl) ⟨_, fun _ => Iff.rfl⟩ fun x hx => ?_
  subst hx
  have hst : (runF code data inp fuel).st = (cntL code inp (startF data) fuel.toNat).sum := hsum.symm
  rw [hst]
  generalize cntL code inp (startF data) fuel.toNat = l at *
  simp only [go_sem,Nat.reduceEqDiff,Nat.reduceAdd,Nat.reduceMul,↓reduceIte,↓dreduceIte,reduceCtorEq,Nat.reduceLeDiff,Nat.reduceLT,Nat.reduceSub,Int.reduceToNat,Int.reduceLE,Int.reduceLT, one_imm]
  refine VW_loop (fun k : Nat => ⟨[(6, B false), (7, .ptr 1 1 0), (8, ints l), (9, I (l.take k).sum), (10, I k)], [⟨0, 24, 1, [words code, I data]⟩, ⟨1, 28, 1, [I (endF (runF code data inp fuel)), strv (runF code data inp fuel).out, I l.sum]⟩], 2⟩)
    (fun k => k ≤ l.length) (fun k => l.length - k) 0 (Wk.mk (by simp [get_cons]) ⟨[], rfl⟩ (Nat.le_refl _)) (Nat.zero_le _) ?_
  intro k hk
  have hb0 := sum_bound (l.take k) 500 (fun x hx => by have := hle x (List.mem_of_mem_take hx); omega)
  have hlk : (l.take k).length ≤ 200 := by rw [List.length_take]; omega
  by_cases c1 : (k : Int) < l.length
  · have hlt : k < l.length := by omega
    have hx := hle _ (List.getElem_mem hlt)
    have hxd : l.getD k default = l[k] := by rw [List.getD_eq_getElem?_getD, List.getElem?_eq_getElem hlt]; rfl
    simp only [go_sem,Nat.reduceEqDiff,Nat.reduceAdd,Nat.reduceMul,↓reduceIte,↓dreduceIte,reduceCtorEq,Nat.reduceLeDiff,Nat.reduceLT,Nat.reduceSub,Int.reduceToNat,Int.reduceLE,Int.reduceLT, eq_true c1, cellT_I1]
    repeat (refine And.intro (by omega) ?_)
    rw [i64_in (by omega) (by omega), i64_in (by omega) (by omega)]
    exact ⟨k + 1, by omega, by omega, Wk.mk (by simp only [List.mem_cons, List.not_mem_nil, or_false]; rintro p (rfl | rfl | rfl | rfl | rfl) <;> simp [get_cons, sum_take l k hlt]) ⟨[], rfl⟩ (Nat.le_refl _)⟩
  · have e : k = l.length := by omega
    subst e
    rw [List.take_length]
    simp only [go_sem,Nat.reduceEqDiff,Nat.reduceAdd,Nat.reduceMul,↓reduceIte,↓dreduceIte,reduceCtorEq,Nat.reduceLeDiff,Nat.reduceLT,Nat.reduceSub,Int.reduceToNat,Int.reduceLE,Int.reduceLT, eq_false c1]
    exact ⟨_, Frz.pure rfl, by simp⟩

set_option maxRecDepth 100000 in
theorem execruns_lifted (os : Os) (started : os.Started) (H : Type) (enc : TypeId × Value → H) :
    ReturnsInHanded {} Try.checked os 3 .any (Rows.execRunsSpec.pre6 enc Try.prog Try.f3 Rows.execRunsRow.domain false) (Rows.execRunsSpec.post enc Try.prog Try.f3 false true false false) := by
  refine returnsInHanded_of_change_sized (C := Try.checked) Try.own started (by kernel_rfl) Try.func3
    (ChangeSpec.witness6 (enc := enc) (C := Try.checked) false ⟨#[], #[.agg #[.slice none 0 0, .int .i64 0], .string ⟨#[]⟩, .int .i64 0], []⟩ 8 (by kernel_rfl) (by kernel_rfl) (by kernel_rfl) (by kernel_rfl)) ?_
  intro W base args ds gs before hval hW _ hwt _
  refine law_calls (P := Try.prog) (n := 20) (shs := [imSh, .str, .int .i64]) (tb := 4) Try.laidOut rfl (by kernel_rfl) (by kernel_rfl) (by decide +kernel) (by kernel_rfl) (fun ds h => ?_) (fun xs hx => ?_) hval hW hwt
  · match ds, h with
    | [d1, d2, d3], _ => rfl
  · obtain ⟨x, _, rfl, hx1, hxs⟩ := fitL_cons hx
    obtain ⟨y, _, rfl, hy, hys⟩ := fitL_cons hxs
    obtain ⟨z, _, rfl, hz, hzs⟩ := fitL_cons hys
    have := fitL_nil hzs
    subst this
    obtain ⟨code, data, rfl, h⟩ := im_of hx1
    obtain ⟨inp, rfl⟩ := fit_str hy
    obtain ⟨fuel, rfl, hf⟩ := fit_int hz
    exact execruns_c code data inp fuel h hf

theorem execruns_holds : Rows.ExecRunsSaid :=
  OpenClaim.holds_of_wide 3 Try.f3 rfl rfl rfl rfl rfl rfl rfl ⟨rfl, rfl, rfl, rfl, rfl⟩ rfl rfl rfl rfl rfl (by kernel_rfl) Try.func3 (by kernel_rfl)
    (of_decide_eq_true (by kernel_rfl)) (by unfold Func.isWrapper; first | (rw [if_pos (by decide +kernel)]; kernel_rfl) | (rw [if_neg (by decide +kernel)]; exact ⟨rfl, rfl⟩))
    (fun os started H enc _ => execruns_lifted os started H enc)
end Go.Proofs.Ytjoldjcfabbekaa
