/-
  Runs with fuel: exec.Run, exec.Counts, exec.Same. No condition.
-/
import Derived.Test.YtjoldjcfabbekaaE3
namespace Go.Proofs.Ytjoldjcfabbekaa
set_option linter.unusedSimpArgs false
set_option linter.unusedVariables false
set_option maxRecDepth 10000
open Go.V

/-- A result as data. -/
abbrev resA (e : Int) (out : ByteArray) (st : Int) : AV := .agg [I e, strv out, I st]
def endF (σ : S) : Int := if σ.fin = 0 then 5 else σ.fin
def runF (code : List Int) (data : Int) (inp : ByteArray) (fuel : Int) : S := runN code inp (startF data) fuel.toNat
abbrev runA (code : List Int) (data : Int) (inp : ByteArray) (fuel : Int) : AV := resA (endF (runF code data inp fuel)) (runF code data inp fuel).out (runF code data inp fuel).st

theorem runN_c (code : List Int) (data : Int) (inp : ByteArray) (fuel : Int) (hcode : ∀ x ∈ code, In32 x) (hcl : code.length ≤ 1000000) (hi : inp.size ≤ 1000000000) (hfu : fuel ≤ 900000) :
    ContractN Try.prog 12 [imgA code data, strv inp, I fuel] (fun r => r = runA code data inp fuel) := by
  have hs := start_len data
  have ho : (startF data).out.size = 0 := rfl
  refine ContractN.of_call (VCall.of_body hmix f_exec_Run (by simp) ?_)
  simp only [go_sem,Nat.reduceEqDiff,Nat.reduceAdd,Nat.reduceMul,↓reduceIte,↓dreduceIte,reduceCtorEq,Nat.reduceLeDiff,Nat.reduceLT,Nat.reduceSub,Int.reduceToNat,Int.reduceLE,Int.reduceLT, c_exec_Run, one_imm]
  refine ECall.of (start_c code data) (SleL.pure rfl) ⟨_, fun _ => Iff.rfl⟩ fun x hx => ?_
  subst hx
  simp only [go_sem,Nat.reduceEqDiff,Nat.reduceAdd,Nat.reduceMul,↓reduceIte,↓dreduceIte,reduceCtorEq,Nat.reduceLeDiff,Nat.reduceLT,Nat.reduceSub,Int.reduceToNat,Int.reduceLE,Int.reduceLT, one_imm]
  refine ECall.of (go_c code data inp (startF data) fuel hcode hcl hi (wf_start data) (by omega) (by omega) (by omega)) (SleL.pure rfl) ⟨_, fun _ => Iff.rfl⟩ fun x hx => ?_
  subst hx
  show _
  unfold runA endF runF
  generalize runN code inp (startF data) fuel.toNat = ρ
  by_cases h : ρ.fin = 0
  · simp only [go_sem,Nat.reduceEqDiff,Nat.reduceAdd,Nat.reduceMul,↓reduceIte,↓dreduceIte,reduceCtorEq,Nat.reduceLeDiff,Nat.reduceLT,Nat.reduceSub,Int.reduceToNat,Int.reduceLE,Int.reduceLT, one_imm, s_zero, s_put, s_put', s_all, stc_length, stc_all, s_fin, s_out, s_st, ss_fin, eq_true h, if_pos h]
    exact ⟨_, FrzN.agg ⟨_, _, rfl, FrzN.val, _, _, rfl, FrzN.val, _, _, rfl, FrzN.val, rfl⟩, rfl⟩
  · simp only [go_sem,Nat.reduceEqDiff,Nat.reduceAdd,Nat.reduceMul,↓reduceIte,↓dreduceIte,reduceCtorEq,Nat.reduceLeDiff,Nat.reduceLT,Nat.reduceSub,Int.reduceToNat,Int.reduceLE,Int.reduceLT, one_imm, s_zero, s_put, s_put', s_all, stc_length, stc_all, s_fin, s_out, s_st, ss_fin, eq_false h, if_neg h]
    exact ⟨_, FrzN.agg ⟨_, _, rfl, FrzN.val, _, _, rfl, FrzN.val, _, _, rfl, FrzN.val, rfl⟩, rfl⟩
theorem run_c (code : List Int) (data : Int) (inp : ByteArray) (fuel : Int) (hcode : ∀ x ∈ code, In32 x) (hcl : code.length ≤ 1000000) (hi : inp.size ≤ 1000000000) (hfu : fuel ≤ 900000) :
    Contract Try.prog 12 [imgA code data, strv inp, I fuel] (fun r => r = runA code data inp fuel) := (runN_c code data inp fuel hcode hcl hi hfu).old

/-- How often each word was done in k steps. -/
def cntL (code : List Int) (inp : ByteArray) (σ : S) : Nat → List Int
  | 0 => List.replicate code.length 0
  | k + 1 => if doneF code (runN code inp σ k) = true then (cntL code inp σ k).set (runN code inp σ k).pc.toNat ((cntL code inp σ k).getD (runN code inp σ k).pc.toNat 0 + 1) else cntL code inp σ k
theorem cntL_len (code : List Int) (inp : ByteArray) (σ : S) : ∀ k, (cntL code inp σ k).length = code.length
  | 0 => by simp [cntL]
  | k + 1 => by
    simp only [cntL]; split
    · rw [List.length_set]; exact cntL_len code inp σ k
    · exact cntL_len code inp σ k
theorem cntL_le (code : List Int) (inp : ByteArray) (σ : S) : ∀ k, ∀ x ∈ cntL code inp σ k, 0 ≤ x ∧ x ≤ k
  | 0 => fun x hx => by
    simp only [cntL, List.mem_replicate] at hx; rw [hx.2]; exact ⟨Int.le_refl _, Int.le_refl _⟩
  | k + 1 => fun x hx => by
    have ih := cntL_le code inp σ k
    simp only [cntL] at hx
    split at hx
    · rcases List.mem_or_eq_of_mem_set hx with hx | hx
      · have := ih x hx; omega
      · rw [hx, List.getD_eq_getElem?_getD]
        cases hg : (cntL code inp σ k)[(runN code inp σ k).pc.toNat]? with
        | none => simp; omega
        | some y => have := ih y (List.mem_of_getElem? hg); simp; omega
    · have := ih x hx; omega
theorem cellT_I1 {xs : List Int} {off : Nat} {C : AV → Prop} : cellT (xs.map I) off false 1 C .mk = (off < xs.length ∧ C (I (xs.getD off default))) := cellT_map fun _ => rfl

/-- The objects ahead of the runner, behind k steps. -/
def cntO (code : List Int) (data : Int) (inp : ByteArray) (σ : S) (k : Nat) : List VObj :=
  [⟨0, 24, 1, [words code, I data]⟩, ⟨1, 3, 1, (cntL code inp σ k).map I⟩, ⟨2, 30, 1, [.ref 1 1 0 code.length]⟩, ⟨3, 24, 1, [words code, I data]⟩, ⟨4, 37, 1, stc σ.pc σ.reg (words σ.mem) σ.rd σ.out σ.st σ.fin⟩]

theorem countsN_c (code : List Int) (data : Int) (inp : ByteArray) (fuel : Int) (hcode : ∀ x ∈ code, In32 x) (hcl : code.length ≤ 1000000) (hi : inp.size ≤ 1000000000) (hfu : fuel ≤ 900000) :
    ContractN Try.prog 13 [imgA code data, strv inp, I fuel] (fun r => r = ints (cntL code inp (startF data) fuel.toNat)) := by
  have hs := start_len data
  have ho : (startF data).out.size = 0 := rfl
  refine ContractN.of_call (VCall.of_bodyB hmix f_exec_Counts (by simp) ?_)
  have hrep : (List.replicate code.length [I 0]).flatten = (List.replicate code.length (0 : Int)).map I := by
    induction code.length with
    | zero => rfl
    | succ n ih => simp only [List.replicate_succ, List.flatten_cons, ih, List.map_cons]; rfl
  simp only [go_sem,Nat.reduceEqDiff,Nat.reduceAdd,Nat.reduceMul,↓reduceIte,↓dreduceIte,reduceCtorEq,Nat.reduceLeDiff,Nat.reduceLT,Nat.reduceSub,Int.reduceToNat,Int.reduceLE,Int.reduceLT, c_exec_Counts, one_imm, one_ref, hrep]
  repeat (refine And.intro (by omega) ?_)
  refine ECall.of (start_c code data) (SleL.pure rfl) ⟨_, fun _ => Iff.rfl⟩ fun x hx => ?_
  subst hx
  have hws := wf_start data
  generalize startF data = σ at *
  simp only [go_sem,Nat.reduceEqDiff,Nat.reduceAdd,Nat.reduceMul,↓reduceIte,↓dreduceIte,reduceCtorEq,Nat.reduceLeDiff,Nat.reduceLT,Nat.reduceSub,Int.reduceToNat,Int.reduceLE,Int.reduceLT, one_imm, one_ref, s_all, stc_length, stc_all]
  refine new_v code data inp σ _ _ _ ?_
  refine ⟨⟨_, rfl⟩, ?_⟩
  simp only [go_sem,Nat.reduceEqDiff,Nat.reduceAdd,Nat.reduceMul,↓reduceIte,↓dreduceIte,reduceCtorEq,Nat.reduceLeDiff,Nat.reduceLT,Nat.reduceSub,Int.reduceToNat,Int.reduceLE,Int.reduceLT, s_all, stc_length, stc_all, one_imm]
  refine VCall.of_body hmix f_exec_steps (by simp) ?_
  simp only [go_sem,Nat.reduceEqDiff,Nat.reduceAdd,Nat.reduceMul,↓reduceIte,↓dreduceIte,reduceCtorEq,Nat.reduceLeDiff,Nat.reduceLT,Nat.reduceSub,Int.reduceToNat,Int.reduceLE,Int.reduceLT, c_exec_steps, s_all, stc_length, stc_all, one_imm, s_zero]
  refine ⟨⟨_, rfl⟩, ?_⟩
  intro R Bo E hz hY
  refine steps_v code inp σ fuel 5 5 6 7 8 _ R (cntO code data inp σ) _ _ hcode hcl hi hws (by omega) (by omega) (by omega) (fun _ => rfl) hz rfl (fun k T o nx C h1 h2 h3 h4 => ?_) (fun k hk => ?_) fun r T m own more bs nx h1 h2 h3 h4 => ?_
  · have hr : (cntO code data inp σ k ++ o :: T)[8]? = some R := (ogk (cntO code data inp σ k) o T 2).trans (h3 2 R rfl (.inl hz))
    refine hY _ _ _ _ hr rfl ?_
    have hT : T[2]? = some R := h3 2 R rfl (.inl hz)
    have hlt := (List.getElem?_eq_some_iff.1 hT).1
    have hs1 : (T.set 2 Bo)[2]? = some Bo := by rw [List.getElem?_set, if_pos rfl, if_pos hlt]
    have hs2 : (T.set 2 Bo).set 2 R = T := by rw [List.set_set, set_of_get hT]
    have hcl2 := cntL_len code inp σ k
    have hd : doneF code (runN code inp σ k) = true := h2
    simp only [doneF, Bool.and_eq_true, decide_eq_true_eq] at h2
    obtain ⟨_, h21, h22⟩ := h2
    have hx := cntL_le code inp σ k
    obtain ⟨p, hp⟩ : ∃ p, (runN code inp σ k).pc = p := ⟨_, rfl⟩
    rw [hp] at h21 h22
    have hpl : p.toNat < (cntL code inp σ k).length := by omega
    obtain ⟨x, hxe⟩ : ∃ x, (cntL code inp σ k).getD p.toNat default = x := ⟨_, rfl⟩
    have hxm : 0 ≤ x ∧ x ≤ k := by
      rw [← hxe, List.getD_eq_getElem?_getD, List.getElem?_eq_getElem hpl]
      exact hx _ (List.getElem_mem _)
    have hnext : cntL code inp σ (k + 1) = (cntL code inp σ k).set p.toNat (x + 1) := by
      simp only [cntL, if_pos hd, hp]
      rw [show (cntL code inp σ k).getD p.toNat 0 = x from hxe]
    have hw : IntKind.i64.wrap (x + 1) = x + 1 := i64_in (by omega) (by omega)
    simp only [cntO, List.cons_append, List.nil_append]
    simp only [go_sem,Nat.reduceEqDiff,Nat.reduceAdd,Nat.reduceMul,↓reduceIte,↓dreduceIte,reduceCtorEq,Nat.reduceLeDiff,Nat.reduceLT,Nat.reduceSub,Int.reduceToNat,Int.reduceLE,Int.reduceLT, List.zip_cons_cons, List.zip_nil_left, one_ref, cellT_I1, hs1, hs2, hp, hxe, hw, hcl2, set_map, eq_true (show 8 < T.length + 6 by omega)]
    refine ⟨h21, by omega, by omega, h21, by omega, by omega, ?_⟩
    simp only [cntO, hnext] at h4
    exact h4
  · simp only [cntO, cntL, hk, Bool.false_eq_true, if_false]
  · have hT : T[2]? = some R := h4 2 R rfl (.inl hz)
    refine ⟨(ogk (cntO code data inp σ fuel.toNat) _ T 2).trans hT, ?_⟩
    simp only [cntO, List.cons_append, List.nil_append]
    simp only [go_sem,Nat.reduceEqDiff,Nat.reduceAdd,Nat.reduceMul,↓reduceIte,↓dreduceIte,reduceCtorEq,Nat.reduceLeDiff,Nat.reduceLT,Nat.reduceSub,Int.reduceToNat,Int.reduceLE,Int.reduceLT, one_ref]
    exact ⟨_, frzN_ints rfl (cntL_len code inp σ _).symm, rfl⟩
theorem counts_c (code : List Int) (data : Int) (inp : ByteArray) (fuel : Int) (hcode : ∀ x ∈ code, In32 x) (hcl : code.length ≤ 1000000) (hi : inp.size ≤ 1000000000) (hfu : fuel ≤ 900000) :
    Contract Try.prog 13 [imgA code data, strv inp, I fuel] (fun r => r = ints (cntL code inp (startF data) fuel.toNat)) := (countsN_c code data inp fuel hcode hcl hi hfu).old

theorem bytes_beq (a b : ByteArray) : (a == b) = (a.toList == b.toList) := by
  rw [Go.ByteArray.toList_eq, Go.ByteArray.toList_eq]
  cases a with | mk a => cases b with | mk b =>
  show (a == b) = (a.toList == b.toList)
  by_cases h : a = b
  · subst h; simp
  · rw [beq_eq_false_iff_ne.2 h, beq_eq_false_iff_ne.2 (fun e => h (Array.toList_inj.1 e))]
def sameR (e1 : Int) (o1 : ByteArray) (s1 e2 : Int) (o2 : ByteArray) (s2 : Int) : Bool := (e1 == e2) && (o1.toList == o2.toList) && (s1 == s2)
theorem sameR_refl (e : Int) (o : ByteArray) (s : Int) : sameR e o s e o s = true := by simp [sameR]
theorem execsame_c (e1 : Int) (o1 : ByteArray) (s1 e2 : Int) (o2 : ByteArray) (s2 : Int) : Contract Try.prog 21 [resA e1 o1 s1, resA e2 o2 s2] (fun r => r = B (sameR e1 o1 s1 e2 o2 s2)) := by
  refine Contract.of_call (VCall.of_body hmix f_exec_Same (by simp) ?_)
  simp only [go_sem,Nat.reduceEqDiff,Nat.reduceAdd,Nat.reduceMul,↓reduceIte,↓dreduceIte,reduceCtorEq,Nat.reduceLeDiff,Nat.reduceLT,Nat.reduceSub,Int.reduceToNat,Int.reduceLE,Int.reduceLT, c_exec_Same, one_imm, wp_eqv]
  refine ⟨_, Frz.pure rfl, ?_⟩
  rw [bytes_beq, Bool.true_and]; rfl
theorem refsameR_c (e1 : Int) (o1 : ByteArray) (s1 e2 : Int) (o2 : ByteArray) (s2 : Int) : Contract Try.prog 14 [resA e1 o1 s1, resA e2 o2 s2] (fun r => r = B (sameR e1 o1 s1 e2 o2 s2)) := by
  refine Contract.of_call (VCall.of_body hmix f_scref10_Same (by simp) ?_)
  by_cases h1 : e1 = e2
  · by_cases h2 : o1.toList = o2.toList
    · simp only [go_sem,Nat.reduceEqDiff,Nat.reduceAdd,Nat.reduceMul,↓reduceIte,↓dreduceIte,reduceCtorEq,Nat.reduceLeDiff,Nat.reduceLT,Nat.reduceSub,Int.reduceToNat,Int.reduceLE,Int.reduceLT, c_scref10_Same, one_imm, eq_true h1, eq_true h2]
      exact ⟨_, Frz.pure rfl, by simp [sameR, h1, h2]⟩
    · simp only [go_sem,Nat.reduceEqDiff,Nat.reduceAdd,Nat.reduceMul,↓reduceIte,↓dreduceIte,reduceCtorEq,Nat.reduceLeDiff,Nat.reduceLT,Nat.reduceSub,Int.reduceToNat,Int.reduceLE,Int.reduceLT, c_scref10_Same, one_imm, eq_true h1, eq_false h2]
      exact ⟨_, Frz.pure rfl, by simp [sameR, h1, h2]⟩
  · simp only [go_sem,Nat.reduceEqDiff,Nat.reduceAdd,Nat.reduceMul,↓reduceIte,↓dreduceIte,reduceCtorEq,Nat.reduceLeDiff,Nat.reduceLT,Nat.reduceSub,Int.reduceToNat,Int.reduceLE,Int.reduceLT, c_scref10_Same, one_imm, eq_false h1]
    exact ⟨_, Frz.pure rfl, by simp [sameR, h1]⟩
def fewB (code : List Int) (data : Int) (inp : ByteArray) (fuel : Int) : Bool := decide (code.length ≤ 200) && decide (data ≤ 300) && decide (inp.size ≤ 100) && decide (fuel ≤ 500)
theorem fewB_iff {code : List Int} {data : Int} {inp : ByteArray} {fuel : Int} : fewB code data inp fuel = true ↔ code.length ≤ 200 ∧ data ≤ 300 ∧ inp.size ≤ 100 ∧ fuel ≤ 500 := by
  simp [fewB, and_assoc]
theorem few_c (code : List Int) (data : Int) (inp : ByteArray) (fuel : Int) : Contract Try.prog 11 [imgA code data, strv inp, I fuel] (fun r => r = B (fewB code data inp fuel)) := by
  refine Contract.of_call (VCall.of_body hmix f_scref10_Few (by simp) ?_)
  simp only [go_sem,Nat.reduceEqDiff,Nat.reduceAdd,Nat.reduceMul,↓reduceIte,↓dreduceIte,reduceCtorEq,Nat.reduceLeDiff,Nat.reduceLT,Nat.reduceSub,Int.reduceToNat,Int.reduceLE,Int.reduceLT, c_scref10_Few, one_imm]
  refine ⟨fun c1 => ⟨fun c2 => ⟨fun c3 => ⟨_, Frz.pure rfl, ?_⟩, fun c3 => ⟨_, Frz.pure rfl, ?_⟩⟩, fun c2 => ⟨_, Frz.pure rfl, ?_⟩⟩, fun c1 => ⟨_, Frz.pure rfl, ?_⟩⟩
  · have d1 : code.length ≤ 200 := by omega
    have d3 : inp.size ≤ 100 := by omega
    simp [fewB, d1, c2, d3]
  · have d3 : ¬ inp.size ≤ 100 := by omega
    simp [fewB, d3]
  · simp [fewB, c2]
  · have d1 : ¬ code.length ≤ 200 := by omega
    simp [fewB, d1]
end Go.Proofs.Ytjoldjcfabbekaa
