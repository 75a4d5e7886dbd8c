/-
  The document's run in place: an image's words as instructions. No condition.
-/
import Derived.Test.YtjoldjcfabbekaaER0
import Derived.Test.YtjoldjcfabbekaaER2
namespace Go.Proofs.Ytjoldjcfabbekaa
set_option linter.unusedSimpArgs false
set_option linter.unusedVariables false
set_option maxRecDepth 10000
open Go.V

/-- A word as an instruction's cells; is it one? -/
def insC (w : Int) : List AV := if okW w then [I (opW w), I (raW w), I (rbW w), I (kW w)] else [I 0, I 0, I 0, I 0]
abbrev insL (code : List Int) : AV := .imm 4 ((code.map insC).map .agg)
abbrev okL (code : List Int) : AV := .imm 1 (code.map fun w => B (okW w))
theorem insC_len (w : Int) : (insC w).length = 4 := by unfold insC; split <;> rfl
theorem insC_pure (w : Int) : (insC w).all AV.pure = true := by unfold insC; split <;> rfl
theorem insC_one (w : Int) : (insC w).all AV.one = true := by unfold insC; split <;> rfl
theorem flat4_len (ls : List (List AV)) (h : ∀ l ∈ ls, l.length = 4) : ls.flatten.length = ls.length * 4 := by
  induction ls with
  | nil => rfl
  | cons a ls ih => rw [List.flatten_cons, List.length_append, h a (by simp), ih (fun l hl => h l (by simp [hl])), List.length_cons]; omega
/-- The list of structs: the first k words', and zeros. -/
def insP (code : List Int) (k : Nat) : List (List AV) := (code.take k).map insC ++ List.replicate (code.length - k) [I 0, I 0, I 0, I 0]
theorem insP_len (code : List Int) {k : Nat} (h : k ≤ code.length) : (insP code k).length = code.length := by simp [insP]; omega
theorem insP_4 (code : List Int) (k : Nat) : ∀ l ∈ insP code k, l.length = 4 := fun l hl => by
  unfold insP at hl
  rcases List.mem_append.1 hl with hl | hl
  · obtain ⟨w, _, rfl⟩ := List.mem_map.1 hl; exact insC_len w
  · rw [List.mem_replicate] at hl; rw [hl.2]; rfl
theorem insP_next (code : List Int) {k : Nat} (h : k < code.length) : (insP code k).flatten.take (k * 4) ++ insC (code.getD k default) ++ (insP code k).flatten.drop (k * 4 + 4) = (insP code (k + 1)).flatten := by
  have e1 : ((code.take k).map insC).flatten.length = k * 4 := by
    rw [flat4_len _ (fun l hl => by obtain ⟨w, _, rfl⟩ := List.mem_map.1 hl; exact insC_len w)]; simp; omega
  have e2 : code.length - k = (code.length - (k + 1)) + 1 := by omega
  unfold insP
  rw [List.flatten_append, List.take_append_of_le_length (by omega), List.take_of_length_le (by omega), e2, List.replicate_succ, List.flatten_cons]
  rw [show k * 4 + 4 = ((code.take k).map insC).flatten.length + 4 by rw [e1], ← List.drop_drop, List.drop_left]
  rw [List.take_add_one, List.getElem?_eq_getElem h, List.getD_eq_getElem?_getD, List.getElem?_eq_getElem h]
  simp only [Option.getD_some, Option.toList_some, List.map_append, List.map_cons, List.map_nil, List.flatten_append, List.flatten_cons, List.flatten_nil, List.append_nil, List.append_assoc]
  rfl
def okP (code : List Int) (k : Nat) : List AV := (code.take k).map (fun w => B (okW w)) ++ List.replicate (code.length - k) (B false)
theorem okP_len (code : List Int) {k : Nat} (h : k ≤ code.length) : (okP code k).length = code.length := by simp [okP]; omega
theorem okP_next (code : List Int) {k : Nat} (h : k < code.length) : (okP code k).set k (B (okW (code.getD k default))) = okP code (k + 1) := by
  have e2 : code.length - k = (code.length - (k + 1)) + 1 := by omega
  have e1 : ((code.take k).map (fun w => B (okW w))).length = k := by simp; omega
  unfold okP
  rw [e2, List.replicate_succ, List.set_append_right _ _ (by omega), e1, Nat.sub_self, List.set_cons_zero, List.take_add_one, List.getElem?_eq_getElem h, List.getD_eq_getElem?_getD, List.getElem?_eq_getElem h]
  simp only [Option.getD_some, Option.toList_some, List.map_append, List.map_cons, List.map_nil, List.append_assoc, List.cons_append, List.nil_append]

theorem refcode_c (code : List Int) (data : Int) (hcode : ∀ x ∈ code, In32 x) (hcl : code.length ≤ 1000000) : Contract Try.prog 42 [imgA code data] (fun r => r = .tup [insL code, okL code]) := by
  refine Contract.of_call (VCall.of_body hmix f_scref10_Code (by simp) ?_)
  have hr1 : (List.replicate code.length [I 0, I 0, I 0, I 0]).flatten = (insP code 0).flatten := by simp [insP]
  have hr2 : (List.replicate code.length [B false]).flatten = okP code 0 := by
    unfold okP; simp
  have hi0 := flat4_len _ (insP_4 code 0)
  simp only [go_sem,Nat.reduceEqDiff,Nat.reduceAdd,Nat.reduceMul,↓reduceIte,↓dreduceIte,reduceCtorEq,Nat.reduceLeDiff,Nat.reduceLT,Nat.reduceSub,Int.reduceToNat,Int.reduceLE,Int.reduceLT, c_scref10_Code, one_imm, one_ref, hr1, hr2]
  repeat (refine And.intro (by omega) ?_)
  refine VW_loop (fun q : Nat × List VObj × Nat => ⟨[(1, .ptr 0 0 0), (4, .ref 1 1 0 code.length), (5, .ref 2 2 0 code.length), (6, I q.1)], ⟨0, 24, 1, [words code, I data]⟩ :: ⟨1, 47, 4, (insP code q.1).flatten⟩ :: ⟨2, 4, 1, okP code q.1⟩ :: q.2.1, q.2.2⟩)
    (fun q => q.1 ≤ code.length) (fun q => code.length - q.1) (0, [], 3) (Wk.mk (by simp [get_cons]) ⟨[], rfl⟩ (Nat.le_refl _)) (Nat.zero_le _) ?_
  rintro ⟨k, J, nx⟩ hk
  simp only at hk
  by_cases c1 : (k : Int) < code.length
  · have hlt : k < code.length := by omega
    obtain ⟨w, hw⟩ : ∃ w, code.getD k default = w := ⟨_, rfl⟩
    have hwi : In32 w := by
      rw [← hw, List.getD_eq_getElem?_getD, List.getElem?_eq_getElem hlt]
      exact hcode _ (List.getElem_mem _)
    have n1 := insP_next code hlt
    have n2 := okP_next code hlt
    rw [hw] at n1 n2
    have l1 := flat4_len _ (insP_4 code k)
    rw [insP_len code hk] at l1
    have l2 := okP_len code hk
    simp only [go_sem,Nat.reduceEqDiff,Nat.reduceAdd,Nat.reduceMul,↓reduceIte,↓dreduceIte,reduceCtorEq,Nat.reduceLeDiff,Nat.reduceLT,Nat.reduceSub,Int.reduceToNat,Int.reduceLE,Int.reduceLT, eq_true c1, cellT_U32, hw, one_imm, one_ref]
    repeat (refine And.intro (by omega) ?_)
    refine VCall.of_contract (refdecode_c w hwi) (SleL.pure rfl) fun x hx => ?_
    subst hx
    unfold decA
    cases hok : okW w
    · have e4 : insC w = [I 0, I 0, I 0, I 0] := by unfold insC; rw [hok]; rfl
      rw [e4] at n1
      rw [hok] at n2
      simp only [go_sem,Nat.reduceEqDiff,Nat.reduceAdd,Nat.reduceMul,↓reduceIte,↓dreduceIte,reduceCtorEq,Nat.reduceLeDiff,Nat.reduceLT,Nat.reduceSub,Int.reduceToNat,Int.reduceLE,Int.reduceLT, ogn, osn, one_imm, one_ref, l1, l2, n1, n2, Int.reduceEq, Int.reduceBEq]
      repeat (refine And.intro (by omega) ?_)
      rw [i64_in (by omega) (by omega)]
      exact ⟨(k + 1, _, _), by simp only; omega, by simp only; omega, Wk.mk (by simp [get_cons]) ⟨[], (List.append_nil _).symm⟩ (Nat.le_refl _)⟩
    · have e4 : insC w = [I (opW w), I (raW w), I (rbW w), I (kW w)] := by unfold insC; rw [hok]; rfl
      rw [e4] at n1
      rw [hok] at n2
      simp only [go_sem,Nat.reduceEqDiff,Nat.reduceAdd,Nat.reduceMul,↓reduceIte,↓dreduceIte,reduceCtorEq,Nat.reduceLeDiff,Nat.reduceLT,Nat.reduceSub,Int.reduceToNat,Int.reduceLE,Int.reduceLT, ogn, osn, one_imm, one_ref, l1, l2, n1, n2, Int.reduceEq, Int.reduceBEq]
      repeat (refine And.intro (by omega) ?_)
      rw [i64_in (by omega) (by omega)]
      exact ⟨(k + 1, _, _), by simp only; omega, by simp only; omega, Wk.mk (by simp [get_cons]) ⟨[], (List.append_nil _).symm⟩ (Nat.le_refl _)⟩
  · have e : k = code.length := by omega
    subst e
    have hi : insP code code.length = code.map insC := by simp [insP]
    have ho : okP code code.length = code.map fun w => B (okW w) := by simp [okP]
    simp only [go_sem,Nat.reduceEqDiff,Nat.reduceAdd,Nat.reduceMul,↓reduceIte,↓dreduceIte,reduceCtorEq,Nat.reduceLeDiff,Nat.reduceLT,Nat.reduceSub,Int.reduceToNat,Int.reduceLE,Int.reduceLT, eq_false c1, one_imm, one_ref, hi, ho]
    refine ⟨_, Frz.tup ⟨_, _, rfl, Frz.refS (Nat.zero_le _) rfl rfl rfl rfl (fun l hl => ?_) (by simp), _, _, rfl, Frz.ref (Nat.zero_le _) rfl rfl rfl ?_ (FrzL.pure ?_), rfl⟩, ?_⟩
    · obtain ⟨w, _, rfl⟩ := List.mem_map.1 hl
      exact ⟨insC_len w, insC_pure w⟩
    · rw [List.all_eq_true]; intro y hy; obtain ⟨x, _, rfl⟩ := List.mem_map.1 hy; rfl
    · rw [List.drop_zero, List.take_of_length_le (by simp), List.all_eq_true]; intro y hy; obtain ⟨x, _, rfl⟩ := List.mem_map.1 hy; rfl
    · rw [List.drop_zero, List.take_of_length_le (by simp)]
end Go.Proofs.Ytjoldjcfabbekaa
