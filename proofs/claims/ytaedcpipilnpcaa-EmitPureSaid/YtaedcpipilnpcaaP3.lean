/-
  The document's run in place: its small functions. No condition. The document's run in place: an image's words as instructions. No condition. The document's run in place, and its step, made small by the program. No condition. The document's run in place: a step. No condition. The document's run in place: run, Go, Run, Counts. No condition. The document's Go, Run, Counts. No condition. Images of stack code: the statements' small functions: contracts. No condition. EmitPure: the row. No condition.
-/
import Derived.Test.YtaedcpipilnpcaaP2
import Derived.Test.YtaedcpipilnpcaaUCode
set_option linter.unusedVariables false
set_option linter.unusedSimpArgs false
namespace Go.Proofs.Ytaedcpipilnpcaa
set_option linter.unusedSimpArgs false
set_option linter.unusedVariables false
set_option maxRecDepth 10000
open Go.V
abbrev wkO (s : Nat) (cs : List AV) : VObj := ⟨s, 140, 1, cs⟩
section
variable {pc : Int} {f : Nat → Int} {m : AV} {rd : Int} {so : ByteArray} {st fin : Int} {o cd ok wd : AV} {inp : ByteArray} {ct : AV} {H : List VObj} {nx w sw : Nat} {C : AV → List VObj → Nat → Prop}
theorem wset_v (a v : Int) (ha : 0 ≤ a ∧ a ≤ 15) (hw : H[w]? = some (wkO sw (wkc pc f m rd so st fin o cd ok wd inp ct))) (h1 : (wkc pc f m rd so st fin o cd ok wd inp ct).all AV.one = true)
    (hC : ∀ r, C r (H.set w (wkO sw (wkc (IntKind.i64.wrap (pc + 1)) (updR f a.toNat v) m rd so st fin o cd ok wd inp ct))) nx) :
    VCall Try.prog 88 [.ptr w sw 0, I a, U32 v] H nx C := by
  refine VCall.of_body hmix f_scref10_work_set (by simp) ?_
  have hlt := (List.getElem?_eq_some_iff.1 hw).1
  have gw : ∀ x, (H.set w x)[w]? = some x := fun x => by rw [List.getElem?_set, if_pos rfl, if_pos hlt]
  have hj : a.toNat < 16 := by omega
  simp only [go_sem,Nat.reduceEqDiff,Nat.reduceAdd,Nat.reduceMul,↓reduceIte,↓dreduceIte,reduceCtorEq,Nat.reduceLeDiff,Nat.reduceLT,Nat.reduceSub,Int.reduceToNat,Int.reduceLE,Int.reduceLT, c_scref10_work_set, hw, gw, List.set_set, wkc_length, k_pc, ks_reg hj, ks_pc]
  repeat (refine And.intro (by omega) ?_)
  exact hC _
theorem wjump_v (yes : Bool) (to : Int) (hw : H[w]? = some (wkO sw (wkc pc f m rd so st fin o cd ok wd inp ct)))
    (hC : ∀ r, C r (H.set w (wkO sw (wkc (if yes then to else IntKind.i64.wrap (pc + 1)) f m rd so st fin o cd ok wd inp ct))) nx) :
    VCall Try.prog 90 [.ptr w sw 0, B yes, I to] H nx C := by
  refine VCall.of_body hmix f_scref10_work_jump (by simp) ?_
  have hlt := (List.getElem?_eq_some_iff.1 hw).1
  have gw : ∀ x, (H.set w x)[w]? = some x := fun x => by rw [List.getElem?_set, if_pos rfl, if_pos hlt]
  cases yes
  · simp only [go_sem,Nat.reduceEqDiff,Nat.reduceAdd,Nat.reduceMul,↓reduceIte,↓dreduceIte,reduceCtorEq,Nat.reduceLeDiff,Nat.reduceLT,Nat.reduceSub,Int.reduceToNat,Int.reduceLE,Int.reduceLT, c_scref10_work_jump, hw, gw, List.set_set, wkc_length, k_pc, ks_pc]
    repeat (refine And.intro (by omega) ?_)
    exact hC _
  · simp only [go_sem,Nat.reduceEqDiff,Nat.reduceAdd,Nat.reduceMul,↓reduceIte,↓dreduceIte,reduceCtorEq,Nat.reduceLeDiff,Nat.reduceLT,Nat.reduceSub,Int.reduceToNat,Int.reduceLE,Int.reduceLT, c_scref10_work_jump, hw, gw, List.set_set, wkc_length, k_pc, ks_pc]
    repeat (refine And.intro (by omega) ?_)
    exact hC _
end
theorem fetchN_c (l : List Int) (b k : Int) (hb : In32 b) (hk : 0 ≤ k ∧ k ≤ 65535) (hl : l.length ≤ 1000000) : ContractN Try.prog 89 [words l, U32 b, I k]
    (fun r => r = (if w32 (b + k) < l.length then AV.tup [U32 (l.getD (w32 (b + k)).toNat default), B true] else AV.tup [U32 0, B false])) := by
  refine ContractN.of_call (VCall.of_body hmix f_scref10_fetch (by simp) ?_)
  have e1 : IntKind.u32.wrap k = k := w32_in ⟨by omega, by omega⟩
  obtain ⟨at_, hat⟩ : ∃ x, IntKind.u32.wrap (b + k) = x := ⟨_, rfl⟩
  have hin : In32 at_ := by rw [← hat, IntKind.wrap_u32]; exact ⟨by omega, by omega⟩
  obtain ⟨p1, p2⟩ := hin
  have e2 : IntKind.u64.wrap at_ = at_ := by rw [IntKind.wrap_u64]; omega
  have e3 : IntKind.u64.wrap (l.length : Int) = l.length := by rw [IntKind.wrap_u64]; omega
  have hat' : w32 (b + k) = at_ := hat
  simp only [hat']
  by_cases h : at_ < l.length
  · simp only [go_sem,Nat.reduceEqDiff,Nat.reduceAdd,Nat.reduceMul,↓reduceIte,↓dreduceIte,reduceCtorEq,Nat.reduceLeDiff,Nat.reduceLT,Nat.reduceSub,Int.reduceToNat,Int.reduceLE,Int.reduceLT, c_scref10_fetch, e1, hat, e2, e3, eq_false (show ¬ (l.length : Int) ≤ at_ by omega), if_pos h]
    repeat (refine And.intro (by omega) ?_)
    exact ⟨_, FrzN.tup ⟨_, _, rfl, FrzN.val, _, _, rfl, FrzN.val, rfl⟩, by simp [h]⟩
  · simp only [go_sem,Nat.reduceEqDiff,Nat.reduceAdd,Nat.reduceMul,↓reduceIte,↓dreduceIte,reduceCtorEq,Nat.reduceLeDiff,Nat.reduceLT,Nat.reduceSub,Int.reduceToNat,Int.reduceLE,Int.reduceLT, c_scref10_fetch, e1, hat, e2, e3, eq_true (show (l.length : Int) ≤ at_ by omega), if_neg h]
    exact ⟨_, FrzN.tup ⟨_, _, rfl, FrzN.val, _, _, rfl, FrzN.val, rfl⟩, by simp [h]⟩
end Go.Proofs.Ytaedcpipilnpcaa
namespace Go.Proofs.Ytaedcpipilnpcaa
set_option linter.unusedSimpArgs false
set_option linter.unusedVariables false
set_option maxRecDepth 10000
open Go.V
def insC (w : Int) : List AV := if okW w then [I (opW w), I (raW w), I (rbW w), I (kW w)] else [I 0, I 0, I 0, I 0]
abbrev insL (code : List Int) : AV := .imm 4 ((code.map insC).map .agg)
abbrev okL (code : List Int) : AV := .imm 1 (code.map fun w => B (okW w))
theorem insC_len (w : Int) : (insC w).length = 4 := by unfold insC; split <;> rfl
theorem insC_pure (w : Int) : (insC w).all AV.pure = true := by unfold insC; split <;> rfl
theorem insC_one (w : Int) : (insC w).all AV.one = true := by unfold insC; split <;> rfl
theorem flat4_len (ls : List (List AV)) (h : ∀ l ∈ ls, l.length = 4) : ls.flatten.length = ls.length * 4 := by
  induction ls with
  | nil => rfl
  | cons a ls ih => rw [List.flatten_cons, List.length_append, h a (by simp), ih (fun l hl => h l (by simp [hl])), List.length_cons]; omega
def insP (code : List Int) (k : Nat) : List (List AV) := (code.take k).map insC ++ List.replicate (code.length - k) [I 0, I 0, I 0, I 0]
theorem insP_len (code : List Int) {k : Nat} (h : k ≤ code.length) : (insP code k).length = code.length := by simp [insP]; omega
theorem insP_4 (code : List Int) (k : Nat) : ∀ l ∈ insP code k, l.length = 4 := fun l hl => by
  unfold insP at hl
  rcases List.mem_append.1 hl with hl | hl
  · obtain ⟨w, _, rfl⟩ := List.mem_map.1 hl; exact insC_len w
  · rw [List.mem_replicate] at hl; rw [hl.2]; rfl
theorem insP_next (code : List Int) {k : Nat} (h : k < code.length) : (insP code k).flatten.take (k * 4) ++ insC (code.getD k default) ++ (insP code k).flatten.drop (k * 4 + 4) = (insP code (k + 1)).flatten := by
  have e1 : ((code.take k).map insC).flatten.length = k * 4 := by
    rw [flat4_len _ (fun l hl => by obtain ⟨w, _, rfl⟩ := List.mem_map.1 hl; exact insC_len w)]; simp; omega
  have e2 : code.length - k = (code.length - (k + 1)) + 1 := by omega
  unfold insP
  rw [List.flatten_append, List.take_append_of_le_length (by omega), List.take_of_length_le (by omega), e2, List.replicate_succ, List.flatten_cons]
  rw [show k * 4 + 4 = ((code.take k).map insC).flatten.length + 4 by rw [e1], ← List.drop_drop, List.drop_left]
  rw [List.take_add_one, List.getElem?_eq_getElem h, List.getD_eq_getElem?_getD, List.getElem?_eq_getElem h]
  simp only [Option.getD_some, Option.toList_some, List.map_append, List.map_cons, List.map_nil, List.flatten_append, List.flatten_cons, List.flatten_nil, List.append_nil, List.append_assoc]
  rfl
def okPR (code : List Int) (k : Nat) : List AV := (code.take k).map (fun w => B (okW w)) ++ List.replicate (code.length - k) (B false)
theorem okP_len (code : List Int) {k : Nat} (h : k ≤ code.length) : (okPR code k).length = code.length := by simp [okPR]; omega
theorem okP_next (code : List Int) {k : Nat} (h : k < code.length) : (okPR code k).set k (B (okW (code.getD k default))) = okPR code (k + 1) := by
  have e2 : code.length - k = (code.length - (k + 1)) + 1 := by omega
  have e1 : ((code.take k).map (fun w => B (okW w))).length = k := by simp; omega
  unfold okPR
  rw [e2, List.replicate_succ, List.set_append_right _ _ (by omega), e1, Nat.sub_self, List.set_cons_zero, List.take_add_one, List.getElem?_eq_getElem h, List.getD_eq_getElem?_getD, List.getElem?_eq_getElem h]
  simp only [Option.getD_some, Option.toList_some, List.map_append, List.map_cons, List.map_nil, List.append_assoc, List.cons_append, List.nil_append]
theorem refcode_c (code : List Int) (data : Int) (hcode : ∀ x ∈ code, In32 x) (hcl : code.length ≤ 1000000) : Contract Try.prog 79 [imgA code data] (fun r => r = .tup [insL code, okL code]) := by
  refine Contract.of_call (VCall.of_body hmix f_scref10_Code (by simp) ?_)
  have hr1 : (List.replicate code.length [I 0, I 0, I 0, I 0]).flatten = (insP code 0).flatten := by simp [insP]
  have hr2 : (List.replicate code.length [B false]).flatten = okPR code 0 := by
    unfold okPR; simp
  have hi0 := flat4_len _ (insP_4 code 0)
  simp only [go_sem,Nat.reduceEqDiff,Nat.reduceAdd,Nat.reduceMul,↓reduceIte,↓dreduceIte,reduceCtorEq,Nat.reduceLeDiff,Nat.reduceLT,Nat.reduceSub,Int.reduceToNat,Int.reduceLE,Int.reduceLT, c_scref10_Code, one_imm, one_ref, hr1, hr2]
  repeat (refine And.intro (by omega) ?_)
  refine VW_loop (fun q : Nat × List VObj × Nat => ⟨[(1, .ptr 0 0 0), (4, .ref 1 1 0 code.length), (5, .ref 2 2 0 code.length), (6, I q.1)], ⟨0, 38, 1, [words code, I data]⟩ :: ⟨1, 86, 4, (insP code q.1).flatten⟩ :: ⟨2, 4, 1, okPR code q.1⟩ :: q.2.1, q.2.2⟩)
    (fun q => q.1 ≤ code.length) (fun q => code.length - q.1) (0, [], 3) (Wk.mk (by simp [get_cons]) ⟨[], rfl⟩ (Nat.le_refl _)) (Nat.zero_le _) ?_
  rintro ⟨k, J, nx⟩ hk
  simp only at hk
  by_cases c1 : (k : Int) < code.length
  · have hlt : k < code.length := by omega
    obtain ⟨w, hw⟩ : ∃ w, code.getD k default = w := ⟨_, rfl⟩
    have hwi : In32 w := by
      rw [← hw, List.getD_eq_getElem?_getD, List.getElem?_eq_getElem hlt]
      exact hcode _ (List.getElem_mem _)
    have n1 := insP_next code hlt
    have n2 := okP_next code hlt
    rw [hw] at n1 n2
    have l1 := flat4_len _ (insP_4 code k)
    rw [insP_len code hk] at l1
    have l2 := okP_len code hk
    simp only [go_sem,Nat.reduceEqDiff,Nat.reduceAdd,Nat.reduceMul,↓reduceIte,↓dreduceIte,reduceCtorEq,Nat.reduceLeDiff,Nat.reduceLT,Nat.reduceSub,Int.reduceToNat,Int.reduceLE,Int.reduceLT, eq_true c1, cellT_U32, hw, one_imm, one_ref]
    repeat (refine And.intro (by omega) ?_)
    refine VCall.of_contract (refdecode_c w hwi) (SleL.pure rfl) fun x hx => ?_
    subst hx
    unfold decA
    cases hok : okW w
    · have e4 : insC w = [I 0, I 0, I 0, I 0] := by unfold insC; rw [hok]; rfl
      rw [e4] at n1
      rw [hok] at n2
      simp only [go_sem,Nat.reduceEqDiff,Nat.reduceAdd,Nat.reduceMul,↓reduceIte,↓dreduceIte,reduceCtorEq,Nat.reduceLeDiff,Nat.reduceLT,Nat.reduceSub,Int.reduceToNat,Int.reduceLE,Int.reduceLT, ogn, osn, one_imm, one_ref, l1, l2, n1, n2, Int.reduceEq, Int.reduceBEq]
      repeat (refine And.intro (by omega) ?_)
      rw [i64_in (by omega) (by omega)]
      exact ⟨(k + 1, _, _), by simp only; omega, by simp only; omega, Wk.mk (by simp [get_cons]) ⟨[], (List.append_nil _).symm⟩ (Nat.le_refl _)⟩
    · have e4 : insC w = [I (opW w), I (raW w), I (rbW w), I (kW w)] := by unfold insC; rw [hok]; rfl
      rw [e4] at n1
      rw [hok] at n2
      simp only [go_sem,Nat.reduceEqDiff,Nat.reduceAdd,Nat.reduceMul,↓reduceIte,↓dreduceIte,reduceCtorEq,Nat.reduceLeDiff,Nat.reduceLT,Nat.reduceSub,Int.reduceToNat,Int.reduceLE,Int.reduceLT, ogn, osn, one_imm, one_ref, l1, l2, n1, n2, Int.reduceEq, Int.reduceBEq]
      repeat (refine And.intro (by omega) ?_)
      rw [i64_in (by omega) (by omega)]
      exact ⟨(k + 1, _, _), by simp only; omega, by simp only; omega, Wk.mk (by simp [get_cons]) ⟨[], (List.append_nil _).symm⟩ (Nat.le_refl _)⟩
  · have e : k = code.length := by omega
    subst e
    have hi : insP code code.length = code.map insC := by simp [insP]
    have ho : okPR code code.length = code.map fun w => B (okW w) := by simp [okPR]
    simp only [go_sem,Nat.reduceEqDiff,Nat.reduceAdd,Nat.reduceMul,↓reduceIte,↓dreduceIte,reduceCtorEq,Nat.reduceLeDiff,Nat.reduceLT,Nat.reduceSub,Int.reduceToNat,Int.reduceLE,Int.reduceLT, eq_false c1, one_imm, one_ref, hi, ho]
    refine ⟨_, Frz.tup ⟨_, _, rfl, Frz.refS (Nat.zero_le _) rfl rfl rfl rfl (fun l hl => ?_) (by simp), _, _, rfl, Frz.ref (Nat.zero_le _) rfl rfl rfl ?_ (FrzL.pure ?_), rfl⟩, ?_⟩
    · obtain ⟨w, _, rfl⟩ := List.mem_map.1 hl
      exact ⟨insC_len w, insC_pure w⟩
    · rw [List.all_eq_true]; intro y hy; obtain ⟨x, _, rfl⟩ := List.mem_map.1 hy; rfl
    · rw [List.drop_zero, List.take_of_length_le (by simp), List.all_eq_true]; intro y hy; obtain ⟨x, _, rfl⟩ := List.mem_map.1 hy; rfl
    · rw [List.drop_zero, List.take_of_length_le (by simp)]
end Go.Proofs.Ytaedcpipilnpcaa
namespace Go.Proofs.Ytaedcpipilnpcaa
open Go.V
def r_scref10_work_step : VC :=
 (.seq
 (.seq
 (.ops [
 ⟨(some 11), none, (.mv (.tmp 0))⟩,
 ⟨(some 12), none, (.nck (.tmp 11))⟩,
 ⟨(some 13), none, (.fad 0 true 22 (.tmp 12))⟩,
 ⟨(some 14), none, (.fad 0 false 1 (.tmp 13))⟩,
 ⟨(some 15), none, (.ld false 1 (.tmp 14))⟩,
 ⟨(some 16), none, (.bin .lss (.tmp 15) (.const (.int .i64 0)))⟩,
 ⟨(some 17), none, (.mv (.tmp 16))⟩,
 ⟨(some 18), (some (17, false)), (.mv (.tmp 0))⟩,
 ⟨(some 19), (some (17, false)), (.nck (.tmp 18))⟩,
 ⟨(some 20), (some (17, false)), (.fad 0 true 22 (.tmp 19))⟩,
 ⟨(some 21), (some (17, false)), (.fad 0 false 1 (.tmp 20))⟩,
 ⟨(some 22), (some (17, false)), (.ld false 1 (.tmp 21))⟩,
 ⟨(some 23), (some (17, false)), (.mv (.tmp 0))⟩,
 ⟨(some 24), (some (17, false)), (.nck (.tmp 23))⟩,
 ⟨(some 25), (some (17, false)), (.fad 23 false 1 (.tmp 24))⟩,
 ⟨(some 26), (some (17, false)), (.ld false 1 (.tmp 25))⟩,
 ⟨(some 27), (some (17, false)), (.len (.tmp 26))⟩,
 ⟨(some 28), (some (17, false)), (.bin .geq (.tmp 22) (.tmp 27))⟩,
 ⟨(some 29), none, (.pick (.tmp 17) (.const (.bool true)) (.tmp 28))⟩])
 (.cond (.tmp 29)
 (.seq
 (.ops [
 ⟨(some 30), none, (.mv (.tmp 0))⟩,
 ⟨(some 31), none, (.nck (.tmp 30))⟩,
 ⟨(some 32), none, (.fad 0 true 22 (.tmp 31))⟩,
 ⟨(some 33), none, (.fad 21 false 1 (.tmp 32))⟩,
 ⟨none, none, (.sto false 1 (.tmp 33) (.const (.int .i64 7)))⟩])
 .ret)
 .skip))
 (.seq
 (.ops [
 ⟨(some 34), none, (.mv (.tmp 0))⟩,
 ⟨(some 35), none, (.nck (.tmp 34))⟩,
 ⟨(some 36), none, (.fad 0 true 22 (.tmp 35))⟩,
 ⟨(some 37), none, (.fad 20 false 1 (.tmp 36))⟩,
 ⟨(some 38), none, (.ld false 1 (.tmp 37))⟩,
 ⟨(some 39), none, (.bin .add (.tmp 38) (.const (.int .i64 1)))⟩,
 ⟨(some 40), none, (.nck (.tmp 34))⟩,
 ⟨(some 41), none, (.fad 0 true 22 (.tmp 40))⟩,
 ⟨(some 42), none, (.fad 20 false 1 (.tmp 41))⟩,
 ⟨none, none, (.sto false 1 (.tmp 42) (.tmp 39))⟩])
 (.seq
 (.ops [
 ⟨(some 43), none, (.mv (.tmp 0))⟩,
 ⟨(some 44), none, (.nck (.tmp 43))⟩,
 ⟨(some 45), none, (.fad 27 false 1 (.tmp 44))⟩,
 ⟨(some 46), none, (.ld false 1 (.tmp 45))⟩,
 ⟨(some 47), none, (.mv (.tmp 0))⟩,
 ⟨(some 48), none, (.nck (.tmp 47))⟩,
 ⟨(some 49), none, (.fad 0 true 22 (.tmp 48))⟩,
 ⟨(some 50), none, (.fad 0 false 1 (.tmp 49))⟩,
 ⟨(some 51), none, (.ld false 1 (.tmp 50))⟩,
 ⟨(some 52), none, (.idx 1 (.tmp 46) (.tmp 51))⟩,
 ⟨(some 53), none, (.ld false 1 (.tmp 52))⟩,
 ⟨(some 54), none, (.bin .add (.tmp 53) (.const (.int .i64 1)))⟩,
 ⟨(some 55), none, (.idx 1 (.tmp 46) (.tmp 51))⟩,
 ⟨none, none, (.sto false 1 (.tmp 55) (.tmp 54))⟩])
 (.seq
 (.par true (.one ⟨(some 56), none, (.mv (.tmp 0))⟩ (.one ⟨(some 57), none, (.nck (.tmp 56))⟩ (.one ⟨(some 58), none, (.fad 23 false 1 (.tmp 57))⟩ (.one ⟨(some 59), none, (.ld false 1 (.tmp 58))⟩ (.one ⟨(some 60), none, (.mv (.tmp 0))⟩ (.one ⟨(some 61), none, (.nck (.tmp 60))⟩ (.one ⟨(some 62), none, (.fad 0 true 22 (.tmp 61))⟩ (.one ⟨(some 63), none, (.fad 0 false 1 (.tmp 62))⟩ (.one ⟨(some 64), none, (.ld false 1 (.tmp 63))⟩ (.one ⟨(some 65), none, (.idx 4 (.tmp 59) (.tmp 64))⟩ (.one ⟨(some 66), none, (.ld true 4 (.tmp 65))⟩ (.one ⟨(some 2), none, (.alc 86 [(.int .i64 0), (.int .i64 0), (.int .i64 0), (.int .i64 0)])⟩ (.one ⟨none, none, (.sto true 4 (.tmp 2) (.tmp 66))⟩ .done))))))))))))))
 (.seq
 (.seq
 (.ops [
 ⟨(some 67), none, (.mv (.tmp 0))⟩,
 ⟨(some 68), none, (.nck (.tmp 67))⟩,
 ⟨(some 69), none, (.fad 24 false 1 (.tmp 68))⟩,
 ⟨(some 70), none, (.ld false 1 (.tmp 69))⟩,
 ⟨(some 71), none, (.mv (.tmp 0))⟩,
 ⟨(some 72), none, (.nck (.tmp 71))⟩,
 ⟨(some 73), none, (.fad 0 true 22 (.tmp 72))⟩,
 ⟨(some 74), none, (.fad 0 false 1 (.tmp 73))⟩,
 ⟨(some 75), none, (.ld false 1 (.tmp 74))⟩,
 ⟨(some 76), none, (.idx 1 (.tmp 70) (.tmp 75))⟩,
 ⟨(some 77), none, (.ld false 1 (.tmp 76))⟩,
 ⟨(some 78), none, (.un .not (.tmp 77))⟩])
 (.cond (.tmp 78)
 (.seq
 (.ops [
 ⟨(some 79), none, (.mv (.tmp 0))⟩,
 ⟨(some 80), none, (.nck (.tmp 79))⟩,
 ⟨(some 81), none, (.fad 0 true 22 (.tmp 80))⟩,
 ⟨(some 82), none, (.fad 21 false 1 (.tmp 81))⟩,
 ⟨none, none, (.sto false 1 (.tmp 82) (.const (.int .i64 6)))⟩])
 .ret)
 .skip))
 (.seq
 (.ops [
 ⟨(some 83), none, (.mv (.tmp 0))⟩,
 ⟨(some 84), none, (.fad 1 false 1 (.tmp 2))⟩,
 ⟨(some 85), none, (.ld false 1 (.tmp 84))⟩,
 ⟨(some 86), none, (.nck (.tmp 83))⟩,
 ⟨(some 87), none, (.fad 0 true 22 (.tmp 86))⟩,
 ⟨(some 88), none, (.fad 1 true 16 (.tmp 87))⟩,
 ⟨(some 89), none, (.aidx 16 false 1 (.tmp 88) (.tmp 85))⟩,
 ⟨(some 90), none, (.ld false 1 (.tmp 89))⟩,
 ⟨(some 3), none, (.mv (.tmp 90))⟩])
 (.seq
 (.ops [
 ⟨(some 91), none, (.fad 0 false 1 (.tmp 2))⟩,
 ⟨(some 92), none, (.ld false 1 (.tmp 91))⟩])
 (.block 0
 (.seq
 (.ops [
 ⟨(some 127), none, (.bin .eql (.tmp 92) (.const (.int .i64 1)))⟩,
 ⟨(some 126), none, (.mv (.tmp 127))⟩])
 (.cond (.tmp 126)
 (.ops [
 ⟨(some 128), none, (.mv (.tmp 0))⟩,
 ⟨(some 129), none, (.fad 1 false 1 (.tmp 2))⟩,
 ⟨(some 130), none, (.ld false 1 (.tmp 129))⟩,
 ⟨(some 131), none, (.fad 3 false 1 (.tmp 2))⟩,
 ⟨(some 132), none, (.ld false 1 (.tmp 131))⟩,
 ⟨(some 133), none, (.conv .u32 (.tmp 132))⟩,
 ⟨(some 134), none, (.call (.func 88) [(.tmp 128), (.tmp 130), (.tmp 133)])⟩])
 (.seq
 (.ops [
 ⟨(some 136), none, (.bin .eql (.tmp 92) (.const (.int .i64 2)))⟩,
 ⟨(some 135), none, (.mv (.tmp 136))⟩])
 (.cond (.tmp 135)
 (.ops [
 ⟨(some 137), none, (.mv (.tmp 0))⟩,
 ⟨(some 138), none, (.fad 1 false 1 (.tmp 2))⟩,
 ⟨(some 139), none, (.ld false 1 (.tmp 138))⟩,
 ⟨(some 140), none, (.mv (.tmp 3))⟩,
 ⟨(some 141), none, (.bin .rem (.tmp 140) (.const (.int .u32 65536)))⟩,
 ⟨(some 142), none, (.fad 3 false 1 (.tmp 2))⟩,
 ⟨(some 143), none, (.ld false 1 (.tmp 142))⟩,
 ⟨(some 144), none, (.conv .u32 (.tmp 143))⟩,
 ⟨(some 145), none, (.bin .mul (.tmp 144) (.const (.int .u32 65536)))⟩,
 ⟨(some 146), none, (.bin .add (.tmp 141) (.tmp 145))⟩,
 ⟨(some 147), none, (.call (.func 88) [(.tmp 137), (.tmp 139), (.tmp 146)])⟩])
 (.seq
 (.ops [
 ⟨(some 149), none, (.bin .eql (.tmp 92) (.const (.int .i64 3)))⟩,
 ⟨(some 148), none, (.mv (.tmp 149))⟩])
 (.cond (.tmp 148)
 (.ops [
 ⟨(some 150), none, (.mv (.tmp 0))⟩,
 ⟨(some 151), none, (.fad 1 false 1 (.tmp 2))⟩,
 ⟨(some 152), none, (.ld false 1 (.tmp 151))⟩,
 ⟨(some 153), none, (.mv (.tmp 0))⟩,
 ⟨(some 154), none, (.fad 2 false 1 (.tmp 2))⟩,
 ⟨(some 155), none, (.ld false 1 (.tmp 154))⟩,
 ⟨(some 156), none, (.nck (.tmp 153))⟩,
 ⟨(some 157), none, (.fad 0 true 22 (.tmp 156))⟩,
 ⟨(some 158), none, (.fad 1 true 16 (.tmp 157))⟩,
 ⟨(some 159), none, (.aidx 16 false 1 (.tmp 158) (.tmp 155))⟩,
 ⟨(some 160), none, (.ld false 1 (.tmp 159))⟩,
 ⟨(some 161), none, (.call (.func 88) [(.tmp 150), (.tmp 152), (.tmp 160)])⟩])
 (.seq
 (.seq
 (.ops [
 ⟨(some 163), none, (.bin .eql (.tmp 92) (.const (.int .i64 16)))⟩,
 ⟨(some 162), none, (.mv (.tmp 163))⟩])
 (.cond (.tmp 162)
 .skip
 (.ops [
 ⟨(some 164), none, (.bin .eql (.tmp 92) (.const (.int .i64 27)))⟩,
 ⟨(some 162), none, (.mv (.tmp 164))⟩])))
 (.cond (.tmp 162)
 (.seq
 (.ops [
 ⟨(some 165), none, (.mv (.tmp 0))⟩,
 ⟨(some 166), none, (.nck (.tmp 165))⟩,
 ⟨(some 167), none, (.fad 0 true 22 (.tmp 166))⟩,
 ⟨(some 168), none, (.fad 17 false 1 (.tmp 167))⟩,
 ⟨(some 169), none, (.ld false 1 (.tmp 168))⟩,
 ⟨(some 4), none, (.mv (.tmp 169))⟩])
 (.seq
 (.seq
 (.ops [
 ⟨(some 170), none, (.fad 0 false 1 (.tmp 2))⟩,
 ⟨(some 171), none, (.ld false 1 (.tmp 170))⟩,
 ⟨(some 172), none, (.bin .eql (.tmp 171) (.const (.int .i64 27)))⟩])
 (.cond (.tmp 172)
 (.ops [
 ⟨(some 173), none, (.mv (.tmp 0))⟩,
 ⟨(some 174), none, (.nck (.tmp 173))⟩,
 ⟨(some 175), none, (.fad 25 false 1 (.tmp 174))⟩,
 ⟨(some 176), none, (.ld false 1 (.tmp 175))⟩,
 ⟨(some 4), none, (.mv (.tmp 176))⟩])
 .skip))
 (.seq
 (.par true (.one ⟨(some 178), none, (.mv (.tmp 4))⟩ (.one ⟨(some 179), none, (.mv (.tmp 0))⟩ (.one ⟨(some 180), none, (.fad 2 false 1 (.tmp 2))⟩ (.one ⟨(some 181), none, (.ld false 1 (.tmp 180))⟩ (.one ⟨(some 182), none, (.nck (.tmp 179))⟩ (.one ⟨(some 183), none, (.fad 0 true 22 (.tmp 182))⟩ (.one ⟨(some 184), none, (.fad 1 true 16 (.tmp 183))⟩ (.one ⟨(some 185), none, (.aidx 16 false 1 (.tmp 184) (.tmp 181))⟩ (.one ⟨(some 186), none, (.ld false 1 (.tmp 185))⟩ (.one ⟨(some 187), none, (.fad 3 false 1 (.tmp 2))⟩ (.one ⟨(some 188), none, (.ld false 1 (.tmp 187))⟩ (.one ⟨(some 189), none, (.call (.func 89) [(.tmp 178), (.tmp 186), (.tmp 188)])⟩ (.one ⟨(some 177), none, (.mv (.tmp 189))⟩ (.one ⟨(some 190), none, (.ext (.tmp 177) 0)⟩ (.one ⟨(some 191), none, (.ext (.tmp 177) 1)⟩ (.one ⟨(some 5), none, (.mv (.tmp 190))⟩ (.one ⟨(some 6), none, (.mv (.tmp 191))⟩ .done))))))))))))))))))
 (.seq
 (.seq
 (.ops [
 ⟨(some 192), none, (.mv (.tmp 6))⟩,
 ⟨(some 193), none, (.un .not (.tmp 192))⟩])
 (.cond (.tmp 193)
 (.seq
 (.ops [
 ⟨(some 194), none, (.mv (.tmp 0))⟩,
 ⟨(some 195), none, (.nck (.tmp 194))⟩,
 ⟨(some 196), none, (.fad 0 true 22 (.tmp 195))⟩,
 ⟨(some 197), none, (.fad 21 false 1 (.tmp 196))⟩,
 ⟨none, none, (.sto false 1 (.tmp 197) (.const (.int .i64 8)))⟩])
 .ret)
 .skip))
 (.ops [
 ⟨(some 198), none, (.mv (.tmp 0))⟩,
 ⟨(some 199), none, (.fad 1 false 1 (.tmp 2))⟩,
 ⟨(some 200), none, (.ld false 1 (.tmp 199))⟩,
 ⟨(some 201), none, (.mv (.tmp 5))⟩,
 ⟨(some 202), none, (.call (.func 88) [(.tmp 198), (.tmp 200), (.tmp 201)])⟩])))))
 (.seq
 (.ops [
 ⟨(some 204), none, (.bin .eql (.tmp 92) (.const (.int .i64 17)))⟩,
 ⟨(some 203), none, (.mv (.tmp 204))⟩])
 (.cond (.tmp 203)
 (.seq
 (.ops [
 ⟨(some 205), none, (.mv (.tmp 0))⟩,
 ⟨(some 206), none, (.fad 2 false 1 (.tmp 2))⟩,
 ⟨(some 207), none, (.ld false 1 (.tmp 206))⟩,
 ⟨(some 208), none, (.nck (.tmp 205))⟩,
 ⟨(some 209), none, (.fad 0 true 22 (.tmp 208))⟩,
 ⟨(some 210), none, (.fad 1 true 16 (.tmp 209))⟩,
 ⟨(some 211), none, (.aidx 16 false 1 (.tmp 210) (.tmp 207))⟩,
 ⟨(some 212), none, (.ld false 1 (.tmp 211))⟩,
 ⟨(some 213), none, (.fad 3 false 1 (.tmp 2))⟩,
 ⟨(some 214), none, (.ld false 1 (.tmp 213))⟩,
 ⟨(some 215), none, (.conv .u32 (.tmp 214))⟩,
 ⟨(some 216), none, (.bin .add (.tmp 212) (.tmp 215))⟩,
 ⟨(some 7), none, (.mv (.tmp 216))⟩])
 (.seq
 (.seq
 (.ops [
 ⟨(some 217), none, (.mv (.tmp 7))⟩,
 ⟨(some 218), none, (.conv .u64 (.tmp 217))⟩,
 ⟨(some 219), none, (.mv (.tmp 0))⟩,
 ⟨(some 220), none, (.nck (.tmp 219))⟩,
 ⟨(some 221), none, (.fad 0 true 22 (.tmp 220))⟩,
 ⟨(some 222), none, (.fad 17 false 1 (.tmp 221))⟩,
 ⟨(some 223), none, (.ld false 1 (.tmp 222))⟩,
 ⟨(some 224), none, (.len (.tmp 223))⟩,
 ⟨(some 225), none, (.conv .u64 (.tmp 224))⟩,
 ⟨(some 226), none, (.bin .geq (.tmp 218) (.tmp 225))⟩])
 (.cond (.tmp 226)
 (.seq
 (.ops [
 ⟨(some 227), none, (.mv (.tmp 0))⟩,
 ⟨(some 228), none, (.nck (.tmp 227))⟩,
 ⟨(some 229), none, (.fad 0 true 22 (.tmp 228))⟩,
 ⟨(some 230), none, (.fad 21 false 1 (.tmp 229))⟩,
 ⟨none, none, (.sto false 1 (.tmp 230) (.const (.int .i64 8)))⟩])
 .ret)
 .skip))
 (.seq
 (.ops [
 ⟨(some 231), none, (.mv (.tmp 0))⟩,
 ⟨(some 232), none, (.nck (.tmp 231))⟩,
 ⟨(some 233), none, (.fad 0 true 22 (.tmp 232))⟩,
 ⟨(some 234), none, (.fad 17 false 1 (.tmp 233))⟩,
 ⟨(some 235), none, (.ld false 1 (.tmp 234))⟩,
 ⟨(some 236), none, (.mv (.tmp 7))⟩,
 ⟨(some 237), none, (.mv (.tmp 3))⟩,
 ⟨(some 238), none, (.idx 1 (.tmp 235) (.tmp 236))⟩,
 ⟨none, none, (.sto false 1 (.tmp 238) (.tmp 237))⟩])
 (.ops [
 ⟨(some 239), none, (.mv (.tmp 0))⟩,
 ⟨(some 240), none, (.nck (.tmp 239))⟩,
 ⟨(some 241), none, (.fad 0 true 22 (.tmp 240))⟩,
 ⟨(some 242), none, (.fad 0 false 1 (.tmp 241))⟩,
 ⟨(some 243), none, (.ld false 1 (.tmp 242))⟩,
 ⟨(some 244), none, (.bin .add (.tmp 243) (.const (.int .i64 1)))⟩,
 ⟨(some 245), none, (.nck (.tmp 239))⟩,
 ⟨(some 246), none, (.fad 0 true 22 (.tmp 245))⟩,
 ⟨(some 247), none, (.fad 0 false 1 (.tmp 246))⟩,
 ⟨none, none, (.sto false 1 (.tmp 247) (.tmp 244))⟩]))))
 (.seq
 (.ops [
 ⟨(some 249), none, (.bin .eql (.tmp 92) (.const (.int .i64 18)))⟩,
 ⟨(some 248), none, (.mv (.tmp 249))⟩])
 (.cond (.tmp 248)
 (.ops [
 ⟨(some 250), none, (.mv (.tmp 0))⟩,
 ⟨(some 251), none, (.fad 3 false 1 (.tmp 2))⟩,
 ⟨(some 252), none, (.ld false 1 (.tmp 251))⟩,
 ⟨(some 253), none, (.nck (.tmp 250))⟩,
 ⟨(some 254), none, (.fad 0 true 22 (.tmp 253))⟩,
 ⟨(some 255), none, (.fad 0 false 1 (.tmp 254))⟩,
 ⟨none, none, (.sto false 1 (.tmp 255) (.tmp 252))⟩])
 (.seq
 (.ops [
 ⟨(some 257), none, (.bin .eql (.tmp 92) (.const (.int .i64 19)))⟩,
 ⟨(some 256), none, (.mv (.tmp 257))⟩])
 (.cond (.tmp 256)
 (.ops [
 ⟨(some 258), none, (.mv (.tmp 0))⟩,
 ⟨(some 259), none, (.mv (.tmp 3))⟩,
 ⟨(some 260), none, (.bin .eql (.tmp 259) (.const (.int .u32 0)))⟩,
 ⟨(some 261), none, (.fad 3 false 1 (.tmp 2))⟩,
 ⟨(some 262), none, (.ld false 1 (.tmp 261))⟩,
 ⟨(some 263), none, (.call (.func 90) [(.tmp 258), (.tmp 260), (.tmp 262)])⟩])
 (.seq
 (.ops [
 ⟨(some 265), none, (.bin .eql (.tmp 92) (.const (.int .i64 20)))⟩,
 ⟨(some 264), none, (.mv (.tmp 265))⟩])
 (.cond (.tmp 264)
 (.ops [
 ⟨(some 266), none, (.mv (.tmp 0))⟩,
 ⟨(some 267), none, (.mv (.tmp 3))⟩,
 ⟨(some 268), none, (.bin .neq (.tmp 267) (.const (.int .u32 0)))⟩,
 ⟨(some 269), none, (.fad 3 false 1 (.tmp 2))⟩,
 ⟨(some 270), none, (.ld false 1 (.tmp 269))⟩,
 ⟨(some 271), none, (.call (.func 90) [(.tmp 266), (.tmp 268), (.tmp 270)])⟩])
 (.seq
 (.ops [
 ⟨(some 273), none, (.bin .eql (.tmp 92) (.const (.int .i64 21)))⟩,
 ⟨(some 272), none, (.mv (.tmp 273))⟩])
 (.cond (.tmp 272)
 (.seq
 (.ops [
 ⟨(some 274), none, (.mv (.tmp 0))⟩,
 ⟨(some 275), none, (.fad 1 false 1 (.tmp 2))⟩,
 ⟨(some 276), none, (.ld false 1 (.tmp 275))⟩,
 ⟨(some 277), none, (.mv (.tmp 0))⟩,
 ⟨(some 278), none, (.nck (.tmp 277))⟩,
 ⟨(some 279), none, (.fad 0 true 22 (.tmp 278))⟩,
 ⟨(some 280), none, (.fad 0 false 1 (.tmp 279))⟩,
 ⟨(some 281), none, (.ld false 1 (.tmp 280))⟩,
 ⟨(some 282), none, (.conv .u32 (.tmp 281))⟩,
 ⟨(some 283), none, (.bin .add (.tmp 282) (.const (.int .u32 1)))⟩,
 ⟨(some 284), none, (.nck (.tmp 274))⟩,
 ⟨(some 285), none, (.fad 0 true 22 (.tmp 284))⟩,
 ⟨(some 286), none, (.fad 1 true 16 (.tmp 285))⟩,
 ⟨(some 287), none, (.aidx 16 false 1 (.tmp 286) (.tmp 276))⟩,
 ⟨none, none, (.sto false 1 (.tmp 287) (.tmp 283))⟩])
 (.ops [
 ⟨(some 288), none, (.mv (.tmp 0))⟩,
 ⟨(some 289), none, (.fad 3 false 1 (.tmp 2))⟩,
 ⟨(some 290), none, (.ld false 1 (.tmp 289))⟩,
 ⟨(some 291), none, (.nck (.tmp 288))⟩,
 ⟨(some 292), none, (.fad 0 true 22 (.tmp 291))⟩,
 ⟨(some 293), none, (.fad 0 false 1 (.tmp 292))⟩,
 ⟨none, none, (.sto false 1 (.tmp 293) (.tmp 290))⟩]))
 (.seq
 (.ops [
 ⟨(some 295), none, (.bin .eql (.tmp 92) (.const (.int .i64 22)))⟩,
 ⟨(some 294), none, (.mv (.tmp 295))⟩])
 (.cond (.tmp 294)
 (.ops [
 ⟨(some 296), none, (.mv (.tmp 0))⟩,
 ⟨(some 297), none, (.mv (.tmp 3))⟩,
 ⟨(some 298), none, (.conv .i64 (.tmp 297))⟩,
 ⟨(some 299), none, (.nck (.tmp 296))⟩,
 ⟨(some 300), none, (.fad 0 true 22 (.tmp 299))⟩,
 ⟨(some 301), none, (.fad 0 false 1 (.tmp 300))⟩,
 ⟨none, none, (.sto false 1 (.tmp 301) (.tmp 298))⟩])
 (.seq
 (.ops [
 ⟨(some 303), none, (.bin .eql (.tmp 92) (.const (.int .i64 23)))⟩,
 ⟨(some 302), none, (.mv (.tmp 303))⟩])
 (.cond (.tmp 302)
 (.seq
 (.seq
 (.ops [
 ⟨(some 304), none, (.mv (.tmp 0))⟩,
 ⟨(some 305), none, (.nck (.tmp 304))⟩,
 ⟨(some 306), none, (.fad 0 true 22 (.tmp 305))⟩,
 ⟨(some 307), none, (.fad 18 false 1 (.tmp 306))⟩,
 ⟨(some 308), none, (.ld false 1 (.tmp 307))⟩,
 ⟨(some 309), none, (.bin .lss (.tmp 308) (.const (.int .i64 0)))⟩,
 ⟨(some 310), none, (.mv (.tmp 309))⟩,
 ⟨(some 311), (some (310, false)), (.mv (.tmp 0))⟩,
 ⟨(some 312), (some (310, false)), (.nck (.tmp 311))⟩,
 ⟨(some 313), (some (310, false)), (.fad 0 true 22 (.tmp 312))⟩,
 ⟨(some 314), (some (310, false)), (.fad 18 false 1 (.tmp 313))⟩,
 ⟨(some 315), (some (310, false)), (.ld false 1 (.tmp 314))⟩,
 ⟨(some 316), (some (310, false)), (.mv (.tmp 0))⟩,
 ⟨(some 317), (some (310, false)), (.nck (.tmp 316))⟩,
 ⟨(some 318), (some (310, false)), (.fad 26 false 1 (.tmp 317))⟩,
 ⟨(some 319), (some (310, false)), (.ld false 1 (.tmp 318))⟩,
 ⟨(some 320), (some (310, false)), (.lens (.tmp 319))⟩,
 ⟨(some 321), (some (310, false)), (.bin .geq (.tmp 315) (.tmp 320))⟩,
 ⟨(some 322), none, (.pick (.tmp 310) (.const (.bool true)) (.tmp 321))⟩])
 (.cond (.tmp 322)
 (.seq
 (.ops [
 ⟨(some 323), none, (.mv (.tmp 0))⟩,
 ⟨(some 324), none, (.fad 1 false 1 (.tmp 2))⟩,
 ⟨(some 325), none, (.ld false 1 (.tmp 324))⟩,
 ⟨(some 326), none, (.call (.func 88) [(.tmp 323), (.tmp 325), (.const (.int .u32 256))])⟩])
 .ret)
 .skip))
 (.seq
 (.ops [
 ⟨(some 327), none, (.mv (.tmp 0))⟩,
 ⟨(some 328), none, (.nck (.tmp 327))⟩,
 ⟨(some 329), none, (.fad 26 false 1 (.tmp 328))⟩,
 ⟨(some 330), none, (.ld false 1 (.tmp 329))⟩,
 ⟨(some 331), none, (.mv (.tmp 0))⟩,
 ⟨(some 332), none, (.nck (.tmp 331))⟩,
 ⟨(some 333), none, (.fad 0 true 22 (.tmp 332))⟩,
 ⟨(some 334), none, (.fad 18 false 1 (.tmp 333))⟩,
 ⟨(some 335), none, (.ld false 1 (.tmp 334))⟩,
 ⟨(some 336), none, (.pur .six [(.tmp 330), (.tmp 335)])⟩,
 ⟨(some 337), none, (.conv .u32 (.tmp 336))⟩,
 ⟨(some 8), none, (.mv (.tmp 337))⟩])
 (.seq
 (.ops [
 ⟨(some 338), none, (.mv (.tmp 0))⟩,
 ⟨(some 339), none, (.nck (.tmp 338))⟩,
 ⟨(some 340), none, (.fad 0 true 22 (.tmp 339))⟩,
 ⟨(some 341), none, (.fad 18 false 1 (.tmp 340))⟩,
 ⟨(some 342), none, (.ld false 1 (.tmp 341))⟩,
 ⟨(some 343), none, (.bin .add (.tmp 342) (.const (.int .i64 1)))⟩,
 ⟨(some 344), none, (.nck (.tmp 338))⟩,
 ⟨(some 345), none, (.fad 0 true 22 (.tmp 344))⟩,
 ⟨(some 346), none, (.fad 18 false 1 (.tmp 345))⟩,
 ⟨none, none, (.sto false 1 (.tmp 346) (.tmp 343))⟩])
 (.ops [
 ⟨(some 347), none, (.mv (.tmp 0))⟩,
 ⟨(some 348), none, (.fad 1 false 1 (.tmp 2))⟩,
 ⟨(some 349), none, (.ld false 1 (.tmp 348))⟩,
 ⟨(some 350), none, (.mv (.tmp 8))⟩,
 ⟨(some 351), none, (.call (.func 88) [(.tmp 347), (.tmp 349), (.tmp 350)])⟩]))))
 (.seq
 (.ops [
 ⟨(some 353), none, (.bin .eql (.tmp 92) (.const (.int .i64 24)))⟩,
 ⟨(some 352), none, (.mv (.tmp 353))⟩])
 (.cond (.tmp 352)
 (.seq
 (.seq
 (.ops [
 ⟨(some 354), none, (.mv (.tmp 0))⟩,
 ⟨(some 355), none, (.nck (.tmp 354))⟩,
 ⟨(some 356), none, (.fad 22 false 1 (.tmp 355))⟩,
 ⟨(some 357), none, (.ld false 1 (.tmp 356))⟩,
 ⟨(some 358), none, (.len (.tmp 357))⟩,
 ⟨(some 359), none, (.bin .geq (.tmp 358) (.const (.int .i64 65536)))⟩])
 (.cond (.tmp 359)
 (.seq
 (.ops [
 ⟨(some 360), none, (.mv (.tmp 0))⟩,
 ⟨(some 361), none, (.nck (.tmp 360))⟩,
 ⟨(some 362), none, (.fad 0 true 22 (.tmp 361))⟩,
 ⟨(some 363), none, (.fad 21 false 1 (.tmp 362))⟩,
 ⟨none, none, (.sto false 1 (.tmp 363) (.const (.int .i64 4)))⟩])
 .ret)
 .skip))
 (.seq
 (.ops [
 ⟨(some 364), none, (.mv (.tmp 0))⟩,
 ⟨(some 365), none, (.mv (.tmp 0))⟩,
 ⟨(some 366), none, (.nck (.tmp 365))⟩,
 ⟨(some 367), none, (.fad 22 false 1 (.tmp 366))⟩,
 ⟨(some 368), none, (.ld false 1 (.tmp 367))⟩,
 ⟨(some 369), none, (.mv (.tmp 3))⟩,
 ⟨(some 370), none, (.bin .rem (.tmp 369) (.const (.int .u32 256)))⟩,
 ⟨(some 371), none, (.conv .u8 (.tmp 370))⟩,
 ⟨(some 372), none, (.bsl 5 1 1 [(.int .u8 0)] [(0, (1, (.tmp 371)))])⟩,
 ⟨(some 373), none, (.app 5 1 1 (.tmp 368) (.tmp 372))⟩,
 ⟨(some 374), none, (.nck (.tmp 364))⟩,
 ⟨(some 375), none, (.fad 22 false 1 (.tmp 374))⟩,
 ⟨none, none, (.sto false 1 (.tmp 375) (.tmp 373))⟩])
 (.ops [
 ⟨(some 376), none, (.mv (.tmp 0))⟩,
 ⟨(some 377), none, (.nck (.tmp 376))⟩,
 ⟨(some 378), none, (.fad 0 true 22 (.tmp 377))⟩,
 ⟨(some 379), none, (.fad 0 false 1 (.tmp 378))⟩,
 ⟨(some 380), none, (.ld false 1 (.tmp 379))⟩,
 ⟨(some 381), none, (.bin .add (.tmp 380) (.const (.int .i64 1)))⟩,
 ⟨(some 382), none, (.nck (.tmp 376))⟩,
 ⟨(some 383), none, (.fad 0 true 22 (.tmp 382))⟩,
 ⟨(some 384), none, (.fad 0 false 1 (.tmp 383))⟩,
 ⟨none, none, (.sto false 1 (.tmp 384) (.tmp 381))⟩])))
 (.seq
 (.ops [
 ⟨(some 386), none, (.bin .eql (.tmp 92) (.const (.int .i64 25)))⟩,
 ⟨(some 385), none, (.mv (.tmp 386))⟩])
 (.cond (.tmp 385)
 (.seq
 (.seq
 (.ops [
 ⟨(some 387), none, (.mv (.tmp 3))⟩,
 ⟨(some 388), none, (.fad 3 false 1 (.tmp 2))⟩,
 ⟨(some 389), none, (.ld false 1 (.tmp 388))⟩,
 ⟨(some 390), none, (.conv .u32 (.tmp 389))⟩,
 ⟨(some 391), none, (.bin .geq (.tmp 387) (.tmp 390))⟩])
 (.cond (.tmp 391)
 (.seq
 (.ops [
 ⟨(some 392), none, (.mv (.tmp 0))⟩,
 ⟨(some 393), none, (.nck (.tmp 392))⟩,
 ⟨(some 394), none, (.fad 0 true 22 (.tmp 393))⟩,
 ⟨(some 395), none, (.fad 21 false 1 (.tmp 394))⟩,
 ⟨none, none, (.sto false 1 (.tmp 395) (.const (.int .i64 3)))⟩])
 .ret)
 .skip))
 (.ops [
 ⟨(some 396), none, (.mv (.tmp 0))⟩,
 ⟨(some 397), none, (.nck (.tmp 396))⟩,
 ⟨(some 398), none, (.fad 0 true 22 (.tmp 397))⟩,
 ⟨(some 399), none, (.fad 0 false 1 (.tmp 398))⟩,
 ⟨(some 400), none, (.ld false 1 (.tmp 399))⟩,
 ⟨(some 401), none, (.bin .add (.tmp 400) (.const (.int .i64 1)))⟩,
 ⟨(some 402), none, (.nck (.tmp 396))⟩,
 ⟨(some 403), none, (.fad 0 true 22 (.tmp 402))⟩,
 ⟨(some 404), none, (.fad 0 false 1 (.tmp 403))⟩,
 ⟨none, none, (.sto false 1 (.tmp 404) (.tmp 401))⟩]))
 (.seq
 (.ops [
 ⟨(some 406), none, (.bin .eql (.tmp 92) (.const (.int .i64 26)))⟩,
 ⟨(some 405), none, (.mv (.tmp 406))⟩])
 (.cond (.tmp 405)
 (.ops [
 ⟨(some 407), none, (.mv (.tmp 0))⟩,
 ⟨(some 408), none, (.nck (.tmp 407))⟩,
 ⟨(some 409), none, (.fad 0 true 22 (.tmp 408))⟩,
 ⟨(some 410), none, (.fad 21 false 1 (.tmp 409))⟩,
 ⟨none, none, (.sto false 1 (.tmp 410) (.const (.int .i64 1)))⟩])
 (.seq
 (.par true (.one ⟨(some 94), none, (.fad 0 false 1 (.tmp 2))⟩ (.one ⟨(some 95), none, (.ld false 1 (.tmp 94))⟩ (.one ⟨(some 96), none, (.mv (.tmp 0))⟩ (.one ⟨(some 97), none, (.fad 2 false 1 (.tmp 2))⟩ (.one ⟨(some 98), none, (.ld false 1 (.tmp 97))⟩ (.one ⟨(some 99), none, (.nck (.tmp 96))⟩ (.one ⟨(some 100), none, (.fad 0 true 22 (.tmp 99))⟩ (.one ⟨(some 101), none, (.fad 1 true 16 (.tmp 100))⟩ (.one ⟨(some 102), none, (.aidx 16 false 1 (.tmp 101) (.tmp 98))⟩ (.one ⟨(some 103), none, (.ld false 1 (.tmp 102))⟩ (.one ⟨(some 104), none, (.mv (.tmp 0))⟩ (.one ⟨(some 105), none, (.fad 3 false 1 (.tmp 2))⟩ (.one ⟨(some 106), none, (.ld false 1 (.tmp 105))⟩ (.one ⟨(some 107), none, (.nck (.tmp 104))⟩ (.one ⟨(some 108), none, (.fad 0 true 22 (.tmp 107))⟩ (.one ⟨(some 109), none, (.fad 1 true 16 (.tmp 108))⟩ (.one ⟨(some 110), none, (.aidx 16 false 1 (.tmp 109) (.tmp 106))⟩ (.one ⟨(some 111), none, (.ld false 1 (.tmp 110))⟩ (.one ⟨(some 112), none, (.call (.func 36) [(.tmp 95), (.tmp 103), (.tmp 111)])⟩ (.one ⟨(some 93), none, (.mv (.tmp 112))⟩ (.one ⟨(some 113), none, (.ext (.tmp 93) 0)⟩ (.one ⟨(some 114), none, (.ext (.tmp 93) 1)⟩ (.one ⟨(some 9), none, (.mv (.tmp 113))⟩ (.one ⟨(some 10), none, (.mv (.tmp 114))⟩ .done)))))))))))))))))))))))))
 (.seq
 (.seq
 (.ops [
 ⟨(some 115), none, (.mv (.tmp 10))⟩,
 ⟨(some 116), none, (.bin .neq (.tmp 115) (.const (.int .i64 0)))⟩])
 (.cond (.tmp 116)
 (.seq
 (.ops [
 ⟨(some 117), none, (.mv (.tmp 0))⟩,
 ⟨(some 118), none, (.nck (.tmp 117))⟩,
 ⟨(some 119), none, (.fad 0 true 22 (.tmp 118))⟩,
 ⟨(some 120), none, (.fad 21 false 1 (.tmp 119))⟩,
 ⟨none, none, (.sto false 1 (.tmp 120) (.const (.int .i64 2)))⟩])
 .ret)
 .skip))
 (.ops [
 ⟨(some 121), none, (.mv (.tmp 0))⟩,
 ⟨(some 122), none, (.fad 1 false 1 (.tmp 2))⟩,
 ⟨(some 123), none, (.ld false 1 (.tmp 122))⟩,
 ⟨(some 124), none, (.mv (.tmp 9))⟩,
 ⟨(some 125), none, (.call (.func 88) [(.tmp 121), (.tmp 123), (.tmp 124)])⟩])))))))))))))))))))))))))))))))))))))))
theorem s_scref10_work_step : compFq Try.prog false true 80 = some (411, r_scref10_work_step, []) := by kernel_rfl
def t_scref10_run : VC :=
 (.seq
 (.seq
 (.ops [
 ⟨(some 14), none, (.mv (.const (.int .i64 0)))⟩])
 (.block 0
 (.loop
 (.seq
 (.seq
 (.ops [
 ⟨(some 49), none, (.mv (.tmp 14))⟩,
 ⟨(some 50), none, (.mv (.tmp 3))⟩,
 ⟨(some 51), none, (.bin .lss (.tmp 49) (.tmp 50))⟩,
 ⟨(some 52), none, (.mv (.tmp 51))⟩,
 ⟨(some 53), (some (52, true)), (.fad 0 true 22 (.tmp 13))⟩,
 ⟨(some 54), (some (52, true)), (.fad 21 false 1 (.tmp 53))⟩,
 ⟨(some 55), (some (52, true)), (.ld false 1 (.tmp 54))⟩,
 ⟨(some 56), (some (52, true)), (.bin .eql (.tmp 55) (.const (.int .i64 0)))⟩,
 ⟨(some 57), none, (.pick (.tmp 52) (.tmp 56) (.const (.bool false)))⟩])
 (.cond (.tmp 57)
 .skip
 (.exit 0)))
 (.seq
 (.block 1
 (.ops [
 ⟨(some 60), none, (.call (.func 80) [(.tmp 13)])⟩]))
 (.ops [
 ⟨(some 58), none, (.mv (.tmp 14))⟩,
 ⟨(some 59), none, (.bin .add (.tmp 58) (.const (.int .i64 1)))⟩,
 ⟨(some 14), none, (.mv (.tmp 59))⟩]))))))
 (.seq
 (.ops [
 ⟨(some 61), none, (.fad 22 false 1 (.tmp 13))⟩,
 ⟨(some 62), none, (.ld false 1 (.tmp 61))⟩,
 ⟨(some 63), none, (.see .b2s [(.tmp 62)])⟩,
 ⟨(some 64), none, (.fad 0 true 22 (.tmp 13))⟩,
 ⟨(some 65), none, (.fad 19 false 1 (.tmp 64))⟩,
 ⟨none, none, (.sto false 1 (.tmp 65) (.tmp 63))⟩])
 (.seq
 (.par false (.one ⟨(some 66), none, (.fad 0 true 22 (.tmp 13))⟩ (.one ⟨(some 67), none, (.ld true 22 (.tmp 66))⟩ (.one ⟨(some 68), none, (.fad 27 false 1 (.tmp 13))⟩ (.both (.one ⟨(some 69), none, (.ld false 1 (.tmp 68))⟩ (.one ⟨none, none, (.sto true 22 (.tmp 8) (.tmp 67))⟩ (.one ⟨(some 9), none, (.mv (.tmp 69))⟩ .done))) (.one ⟨none, none, (.sto true 22 (.tmp 8) (.tmp 67))⟩ (.one ⟨(some 69), none, (.ld false 1 (.tmp 68))⟩ (.one ⟨(some 9), none, (.mv (.tmp 69))⟩ .done))))))))
 .ret)))
def g_scref10_run : VC :=
 (.seq
 (.ops [
 ⟨(some 4), none, (.box 38 (.tmp 0))⟩,
 ⟨(some 6), none, (.box 91 (.tmp 2))⟩,
 ⟨(some 8), none, (.alc 91 [(.int .i64 0), (.int .u32 0), (.int .u32 0), (.int .u32 0), (.int .u32 0), (.int .u32 0), (.int .u32 0), (.int .u32 0), (.int .u32 0), (.int .u32 0), (.int .u32 0), (.int .u32 0), (.int .u32 0), (.int .u32 0), (.int .u32 0), (.int .u32 0), (.int .u32 0), (.slice none 0 0), (.int .i64 0), (.string ⟨#[]⟩), (.int .i64 0), (.int .i64 0)])⟩,
 ⟨(some 9), none, (.mv (.const (.slice none 0 0)))⟩])
 (.seq
 (.ops [
 ⟨(some 16), none, (.ld true 2 (.tmp 4))⟩,
 ⟨(some 17), none, (.call (.func 79) [(.tmp 16)])⟩,
 ⟨(some 15), none, (.mv (.tmp 17))⟩,
 ⟨(some 18), none, (.ext (.tmp 15) 0)⟩,
 ⟨(some 19), none, (.ext (.tmp 15) 1)⟩,
 ⟨(some 10), none, (.mv (.tmp 18))⟩,
 ⟨(some 11), none, (.mv (.tmp 19))⟩])
 (.seq
 (.par true (.one ⟨(some 20), none, (.fad 0 false 1 (.tmp 6))⟩ (.one ⟨(some 21), none, (.ld false 1 (.tmp 20))⟩ (.one ⟨(some 22), none, (.fad 1 true 16 (.tmp 6))⟩ (.one ⟨(some 23), none, (.ld true 16 (.tmp 22))⟩ (.one ⟨(some 25), none, (.fad 17 false 1 (.tmp 6))⟩ (.one ⟨(some 26), none, (.ld false 1 (.tmp 25))⟩ (.one ⟨(some 28), none, (.fad 18 false 1 (.tmp 6))⟩ (.one ⟨(some 29), none, (.ld false 1 (.tmp 28))⟩ (.one ⟨(some 30), none, (.fad 20 false 1 (.tmp 6))⟩ (.one ⟨(some 31), none, (.ld false 1 (.tmp 30))⟩ (.one ⟨(some 32), none, (.fad 21 false 1 (.tmp 6))⟩ (.one ⟨(some 33), none, (.ld false 1 (.tmp 32))⟩ (.both (.one ⟨(some 24), none, (.bsl 30 1 0 [] [])⟩ (.both (.one ⟨(some 27), none, (.app 30 1 4 (.tmp 24) (.tmp 26))⟩ (.one ⟨(some 34), none, (.bld [(.int .i64 0), (.int .u32 0), (.int .u32 0), (.int .u32 0), (.int .u32 0), (.int .u32 0), (.int .u32 0), (.int .u32 0), (.int .u32 0), (.int .u32 0), (.int .u32 0), (.int .u32 0), (.int .u32 0), (.int .u32 0), (.int .u32 0), (.int .u32 0), (.int .u32 0), (.slice none 0 0), (.int .i64 0), (.string ⟨#[]⟩), (.int .i64 0), (.int .i64 0)] [(0, (1, (.tmp 21))), (1, (16, (.tmp 23))), (17, (1, (.tmp 27))), (18, (1, (.tmp 29))), (20, (1, (.tmp 31))), (21, (1, (.tmp 33)))])⟩ (.one ⟨(some 12), none, (.alc 91 [(.int .i64 0), (.int .u32 0), (.int .u32 0), (.int .u32 0), (.int .u32 0), (.int .u32 0), (.int .u32 0), (.int .u32 0), (.int .u32 0), (.int .u32 0), (.int .u32 0), (.int .u32 0), (.int .u32 0), (.int .u32 0), (.int .u32 0), (.int .u32 0), (.int .u32 0), (.slice none 0 0), (.int .i64 0), (.string ⟨#[]⟩), (.int .i64 0), (.int .i64 0)])⟩ (.one ⟨none, none, (.sto true 22 (.tmp 12) (.tmp 34))⟩ .done)))) (.one ⟨(some 12), none, (.alc 91 [(.int .i64 0), (.int .u32 0), (.int .u32 0), (.int .u32 0), (.int .u32 0), (.int .u32 0), (.int .u32 0), (.int .u32 0), (.int .u32 0), (.int .u32 0), (.int .u32 0), (.int .u32 0), (.int .u32 0), (.int .u32 0), (.int .u32 0), (.int .u32 0), (.int .u32 0), (.slice none 0 0), (.int .i64 0), (.string ⟨#[]⟩), (.int .i64 0), (.int .i64 0)])⟩ (.one ⟨(some 27), none, (.app 30 1 4 (.tmp 24) (.tmp 26))⟩ (.one ⟨(some 34), none, (.bld [(.int .i64 0), (.int .u32 0), (.int .u32 0), (.int .u32 0), (.int .u32 0), (.int .u32 0), (.int .u32 0), (.int .u32 0), (.int .u32 0), (.int .u32 0), (.int .u32 0), (.int .u32 0), (.int .u32 0), (.int .u32 0), (.int .u32 0), (.int .u32 0), (.int .u32 0), (.slice none 0 0), (.int .i64 0), (.string ⟨#[]⟩), (.int .i64 0), (.int .i64 0)] [(0, (1, (.tmp 21))), (1, (16, (.tmp 23))), (17, (1, (.tmp 27))), (18, (1, (.tmp 29))), (20, (1, (.tmp 31))), (21, (1, (.tmp 33)))])⟩ (.one ⟨none, none, (.sto true 22 (.tmp 12) (.tmp 34))⟩ .done)))))) (.one ⟨(some 12), none, (.alc 91 [(.int .i64 0), (.int .u32 0), (.int .u32 0), (.int .u32 0), (.int .u32 0), (.int .u32 0), (.int .u32 0), (.int .u32 0), (.int .u32 0), (.int .u32 0), (.int .u32 0), (.int .u32 0), (.int .u32 0), (.int .u32 0), (.int .u32 0), (.int .u32 0), (.int .u32 0), (.slice none 0 0), (.int .i64 0), (.string ⟨#[]⟩), (.int .i64 0), (.int .i64 0)])⟩ (.one ⟨(some 24), none, (.bsl 30 1 0 [] [])⟩ (.one ⟨(some 27), none, (.app 30 1 4 (.tmp 24) (.tmp 26))⟩ (.one ⟨(some 34), none, (.bld [(.int .i64 0), (.int .u32 0), (.int .u32 0), (.int .u32 0), (.int .u32 0), (.int .u32 0), (.int .u32 0), (.int .u32 0), (.int .u32 0), (.int .u32 0), (.int .u32 0), (.int .u32 0), (.int .u32 0), (.int .u32 0), (.int .u32 0), (.int .u32 0), (.int .u32 0), (.slice none 0 0), (.int .i64 0), (.string ⟨#[]⟩), (.int .i64 0), (.int .i64 0)] [(0, (1, (.tmp 21))), (1, (16, (.tmp 23))), (17, (1, (.tmp 27))), (18, (1, (.tmp 29))), (20, (1, (.tmp 31))), (21, (1, (.tmp 33)))])⟩ (.one ⟨none, none, (.sto true 22 (.tmp 12) (.tmp 34))⟩ .done)))))))))))))))))))
 (.seq
 (.par false (.one ⟨(some 35), none, (.ld true 22 (.tmp 12))⟩ (.one ⟨(some 36), none, (.fad 19 false 1 (.tmp 6))⟩ (.one ⟨(some 37), none, (.ld false 1 (.tmp 36))⟩ (.one ⟨(some 39), none, (.mv (.tmp 10))⟩ (.one ⟨(some 40), none, (.mv (.tmp 11))⟩ (.one ⟨(some 41), none, (.fad 0 false 1 (.tmp 4))⟩ (.one ⟨(some 42), none, (.ld false 1 (.tmp 41))⟩ (.one ⟨(some 43), none, (.mv (.tmp 1))⟩ (.one ⟨(some 44), none, (.fad 0 false 1 (.tmp 4))⟩ (.one ⟨(some 45), none, (.ld false 1 (.tmp 44))⟩ (.one ⟨(some 46), none, (.len (.tmp 45))⟩ (.both (.one ⟨(some 38), none, (.eff (.s2b 5) [(.tmp 37)])⟩ (.both (.one ⟨(some 47), none, (.mk 3 1 8 [(.int .i64 0)] (.tmp 46) (.tmp 46))⟩ (.one ⟨(some 48), none, (.bld [(.int .i64 0), (.int .u32 0), (.int .u32 0), (.int .u32 0), (.int .u32 0), (.int .u32 0), (.int .u32 0), (.int .u32 0), (.int .u32 0), (.int .u32 0), (.int .u32 0), (.int .u32 0), (.int .u32 0), (.int .u32 0), (.int .u32 0), (.int .u32 0), (.int .u32 0), (.slice none 0 0), (.int .i64 0), (.string ⟨#[]⟩), (.int .i64 0), (.int .i64 0), (.slice none 0 0), (.slice none 0 0), (.slice none 0 0), (.slice none 0 0), (.string ⟨#[]⟩), (.slice none 0 0)] [(0, (22, (.tmp 35))), (22, (1, (.tmp 38))), (23, (1, (.tmp 39))), (24, (1, (.tmp 40))), (25, (1, (.tmp 42))), (26, (1, (.tmp 43))), (27, (1, (.tmp 47)))])⟩ (.one ⟨(some 13), none, (.alc 140 [(.int .i64 0), (.int .u32 0), (.int .u32 0), (.int .u32 0), (.int .u32 0), (.int .u32 0), (.int .u32 0), (.int .u32 0), (.int .u32 0), (.int .u32 0), (.int .u32 0), (.int .u32 0), (.int .u32 0), (.int .u32 0), (.int .u32 0), (.int .u32 0), (.int .u32 0), (.slice none 0 0), (.int .i64 0), (.string ⟨#[]⟩), (.int .i64 0), (.int .i64 0), (.slice none 0 0), (.slice none 0 0), (.slice none 0 0), (.slice none 0 0), (.string ⟨#[]⟩), (.slice none 0 0)])⟩ (.one ⟨none, none, (.sto true 28 (.tmp 13) (.tmp 48))⟩ .done)))) (.one ⟨(some 13), none, (.alc 140 [(.int .i64 0), (.int .u32 0), (.int .u32 0), (.int .u32 0), (.int .u32 0), (.int .u32 0), (.int .u32 0), (.int .u32 0), (.int .u32 0), (.int .u32 0), (.int .u32 0), (.int .u32 0), (.int .u32 0), (.int .u32 0), (.int .u32 0), (.int .u32 0), (.int .u32 0), (.slice none 0 0), (.int .i64 0), (.string ⟨#[]⟩), (.int .i64 0), (.int .i64 0), (.slice none 0 0), (.slice none 0 0), (.slice none 0 0), (.slice none 0 0), (.string ⟨#[]⟩), (.slice none 0 0)])⟩ (.one ⟨(some 47), none, (.mk 3 1 8 [(.int .i64 0)] (.tmp 46) (.tmp 46))⟩ (.one ⟨(some 48), none, (.bld [(.int .i64 0), (.int .u32 0), (.int .u32 0), (.int .u32 0), (.int .u32 0), (.int .u32 0), (.int .u32 0), (.int .u32 0), (.int .u32 0), (.int .u32 0), (.int .u32 0), (.int .u32 0), (.int .u32 0), (.int .u32 0), (.int .u32 0), (.int .u32 0), (.int .u32 0), (.slice none 0 0), (.int .i64 0), (.string ⟨#[]⟩), (.int .i64 0), (.int .i64 0), (.slice none 0 0), (.slice none 0 0), (.slice none 0 0), (.slice none 0 0), (.string ⟨#[]⟩), (.slice none 0 0)] [(0, (22, (.tmp 35))), (22, (1, (.tmp 38))), (23, (1, (.tmp 39))), (24, (1, (.tmp 40))), (25, (1, (.tmp 42))), (26, (1, (.tmp 43))), (27, (1, (.tmp 47)))])⟩ (.one ⟨none, none, (.sto true 28 (.tmp 13) (.tmp 48))⟩ .done)))))) (.both (.one ⟨(some 47), none, (.mk 3 1 8 [(.int .i64 0)] (.tmp 46) (.tmp 46))⟩ (.both (.one ⟨(some 38), none, (.eff (.s2b 5) [(.tmp 37)])⟩ (.one ⟨(some 48), none, (.bld [(.int .i64 0), (.int .u32 0), (.int .u32 0), (.int .u32 0), (.int .u32 0), (.int .u32 0), (.int .u32 0), (.int .u32 0), (.int .u32 0), (.int .u32 0), (.int .u32 0), (.int .u32 0), (.int .u32 0), (.int .u32 0), (.int .u32 0), (.int .u32 0), (.int .u32 0), (.slice none 0 0), (.int .i64 0), (.string ⟨#[]⟩), (.int .i64 0), (.int .i64 0), (.slice none 0 0), (.slice none 0 0), (.slice none 0 0), (.slice none 0 0), (.string ⟨#[]⟩), (.slice none 0 0)] [(0, (22, (.tmp 35))), (22, (1, (.tmp 38))), (23, (1, (.tmp 39))), (24, (1, (.tmp 40))), (25, (1, (.tmp 42))), (26, (1, (.tmp 43))), (27, (1, (.tmp 47)))])⟩ (.one ⟨(some 13), none, (.alc 140 [(.int .i64 0), (.int .u32 0), (.int .u32 0), (.int .u32 0), (.int .u32 0), (.int .u32 0), (.int .u32 0), (.int .u32 0), (.int .u32 0), (.int .u32 0), (.int .u32 0), (.int .u32 0), (.int .u32 0), (.int .u32 0), (.int .u32 0), (.int .u32 0), (.int .u32 0), (.slice none 0 0), (.int .i64 0), (.string ⟨#[]⟩), (.int .i64 0), (.int .i64 0), (.slice none 0 0), (.slice none 0 0), (.slice none 0 0), (.slice none 0 0), (.string ⟨#[]⟩), (.slice none 0 0)])⟩ (.one ⟨none, none, (.sto true 28 (.tmp 13) (.tmp 48))⟩ .done)))) (.one ⟨(some 13), none, (.alc 140 [(.int .i64 0), (.int .u32 0), (.int .u32 0), (.int .u32 0), (.int .u32 0), (.int .u32 0), (.int .u32 0), (.int .u32 0), (.int .u32 0), (.int .u32 0), (.int .u32 0), (.int .u32 0), (.int .u32 0), (.int .u32 0), (.int .u32 0), (.int .u32 0), (.int .u32 0), (.slice none 0 0), (.int .i64 0), (.string ⟨#[]⟩), (.int .i64 0), (.int .i64 0), (.slice none 0 0), (.slice none 0 0), (.slice none 0 0), (.slice none 0 0), (.string ⟨#[]⟩), (.slice none 0 0)])⟩ (.one ⟨(some 38), none, (.eff (.s2b 5) [(.tmp 37)])⟩ (.one ⟨(some 48), none, (.bld [(.int .i64 0), (.int .u32 0), (.int .u32 0), (.int .u32 0), (.int .u32 0), (.int .u32 0), (.int .u32 0), (.int .u32 0), (.int .u32 0), (.int .u32 0), (.int .u32 0), (.int .u32 0), (.int .u32 0), (.int .u32 0), (.int .u32 0), (.int .u32 0), (.int .u32 0), (.slice none 0 0), (.int .i64 0), (.string ⟨#[]⟩), (.int .i64 0), (.int .i64 0), (.slice none 0 0), (.slice none 0 0), (.slice none 0 0), (.slice none 0 0), (.string ⟨#[]⟩), (.slice none 0 0)] [(0, (22, (.tmp 35))), (22, (1, (.tmp 38))), (23, (1, (.tmp 39))), (24, (1, (.tmp 40))), (25, (1, (.tmp 42))), (26, (1, (.tmp 43))), (27, (1, (.tmp 47)))])⟩ (.one ⟨none, none, (.sto true 28 (.tmp 13) (.tmp 48))⟩ .done)))))) (.one ⟨(some 13), none, (.alc 140 [(.int .i64 0), (.int .u32 0), (.int .u32 0), (.int .u32 0), (.int .u32 0), (.int .u32 0), (.int .u32 0), (.int .u32 0), (.int .u32 0), (.int .u32 0), (.int .u32 0), (.int .u32 0), (.int .u32 0), (.int .u32 0), (.int .u32 0), (.int .u32 0), (.int .u32 0), (.slice none 0 0), (.int .i64 0), (.string ⟨#[]⟩), (.int .i64 0), (.int .i64 0), (.slice none 0 0), (.slice none 0 0), (.slice none 0 0), (.slice none 0 0), (.string ⟨#[]⟩), (.slice none 0 0)])⟩ (.both (.one ⟨(some 38), none, (.eff (.s2b 5) [(.tmp 37)])⟩ (.one ⟨(some 47), none, (.mk 3 1 8 [(.int .i64 0)] (.tmp 46) (.tmp 46))⟩ (.one ⟨(some 48), none, (.bld [(.int .i64 0), (.int .u32 0), (.int .u32 0), (.int .u32 0), (.int .u32 0), (.int .u32 0), (.int .u32 0), (.int .u32 0), (.int .u32 0), (.int .u32 0), (.int .u32 0), (.int .u32 0), (.int .u32 0), (.int .u32 0), (.int .u32 0), (.int .u32 0), (.int .u32 0), (.slice none 0 0), (.int .i64 0), (.string ⟨#[]⟩), (.int .i64 0), (.int .i64 0), (.slice none 0 0), (.slice none 0 0), (.slice none 0 0), (.slice none 0 0), (.string ⟨#[]⟩), (.slice none 0 0)] [(0, (22, (.tmp 35))), (22, (1, (.tmp 38))), (23, (1, (.tmp 39))), (24, (1, (.tmp 40))), (25, (1, (.tmp 42))), (26, (1, (.tmp 43))), (27, (1, (.tmp 47)))])⟩ (.one ⟨none, none, (.sto true 28 (.tmp 13) (.tmp 48))⟩ .done)))) (.one ⟨(some 47), none, (.mk 3 1 8 [(.int .i64 0)] (.tmp 46) (.tmp 46))⟩ (.one ⟨(some 38), none, (.eff (.s2b 5) [(.tmp 37)])⟩ (.one ⟨(some 48), none, (.bld [(.int .i64 0), (.int .u32 0), (.int .u32 0), (.int .u32 0), (.int .u32 0), (.int .u32 0), (.int .u32 0), (.int .u32 0), (.int .u32 0), (.int .u32 0), (.int .u32 0), (.int .u32 0), (.int .u32 0), (.int .u32 0), (.int .u32 0), (.int .u32 0), (.int .u32 0), (.slice none 0 0), (.int .i64 0), (.string ⟨#[]⟩), (.int .i64 0), (.int .i64 0), (.slice none 0 0), (.slice none 0 0), (.slice none 0 0), (.slice none 0 0), (.string ⟨#[]⟩), (.slice none 0 0)] [(0, (22, (.tmp 35))), (22, (1, (.tmp 38))), (23, (1, (.tmp 39))), (24, (1, (.tmp 40))), (25, (1, (.tmp 42))), (26, (1, (.tmp 43))), (27, (1, (.tmp 47)))])⟩ (.one ⟨none, none, (.sto true 28 (.tmp 13) (.tmp 48))⟩ .done))))))))))))))))))))
 t_scref10_run))))
theorem e_scref10_run : compF Try.prog 44 = some (70, g_scref10_run, [(.cell 8 true 22), (.tmp 9)]) := by kernel_rfl
end Go.Proofs.Ytaedcpipilnpcaa
namespace Go.Proofs.Ytaedcpipilnpcaa
set_option linter.unusedSimpArgs false
set_option linter.unusedVariables false
set_option maxRecDepth 10000
open Go.V
def WAt (code : List Int) (inp : ByteArray) (H : List VObj) (w sw : Nat) (ρ : S) (so : ByteArray) (cnt : List Int) : Prop :=
  ∃ m sm o s1 c sc, H[w]? = some (wkO sw (wkc ρ.pc ρ.reg (.ref m sm 0 ρ.mem.length) ρ.rd so ρ.st ρ.fin (.ref o s1 0 ρ.out.size) (insL code) (okL code) (words code) inp (.ref c sc 0 code.length))) ∧
    H[m]? = some ⟨sm, 30, 1, ρ.mem.map U32⟩ ∧ H[o]? = some ⟨s1, 5, 1, ρ.out.data.toList.map U8⟩ ∧ H[c]? = some ⟨sc, 3, 1, cnt.map I⟩ ∧ cnt.length = code.length
theorem wput {code : List Int} {inp : ByteArray} {H : List VObj} {w sw m sm o s1 c sc : Nat} {mem : List Int} {out so : ByteArray} {cnt : List Int} {pc : Int} {f : Nat → Int} {rd st fin : Int} (hlt : w < H.length) (hm : H[m]? = some ⟨sm, 30, 1, mem.map U32⟩)
    (ho : H[o]? = some ⟨s1, 5, 1, out.data.toList.map U8⟩) (hc : H[c]? = some ⟨sc, 3, 1, cnt.map I⟩) (nm : w ≠ m) (no : w ≠ o) (nc : w ≠ c) (hl : cnt.length = code.length) :
    WAt code inp (H.set w (wkO sw (wkc pc f (.ref m sm 0 mem.length) rd so st fin (.ref o s1 0 out.size) (insL code) (okL code) (words code) inp (.ref c sc 0 code.length)))) w sw ⟨pc, f, mem, rd, out, st, fin⟩ so cnt :=
  ⟨m, sm, o, s1, c, sc, by rw [List.getElem?_set, if_pos rfl, if_pos hlt], by rw [List.getElem?_set, if_neg nm]; exact hm, by rw [List.getElem?_set, if_neg no]; exact ho, by rw [List.getElem?_set, if_neg nc]; exact hc, hl⟩
def KeepS (H H' : List VObj) : Prop := ∀ (id : Nat) (ob : VObj), H[id]? = some ob → ob.ty = 91 → H'[id]? = some ob
def cntS (code : List Int) (ρ : S) (cnt : List Int) : List Int := if doneF code ρ = true then cnt.set ρ.pc.toNat (cnt.getD ρ.pc.toNat default + 1) else cnt
set_option maxHeartbeats 2000000 in
theorem wstep_v (code : List Int) (inp : ByteArray) (ρ : S) (so : ByteArray) (cnt : List Int) (H : List VObj) (nx w sw : Nat) (C : AV → List VObj → Nat → Prop)
    (hcode : ∀ x ∈ code, In32 x) (hcl : code.length ≤ 1000000) (hi : inp.size ≤ 1000000000) (hws : Wf ρ) (hl : ρ.mem.length ≤ 1000000) (hol : ρ.out.size ≤ 1000000) (hf0 : ρ.fin = 0) (hcb : ∀ x ∈ cnt, 0 ≤ x ∧ x ≤ 4000000000000000000)
    (hA : WAt code inp H w sw ρ so cnt) (hC : ∀ r H' nx', KeepS H H' → WAt code inp H' w sw (stepF code inp ρ) so (cntS code ρ cnt) → C r H' nx') :
    VCall Try.prog 80 [.ptr w sw 0] H nx C := by
  refine VCall.of_bodyQ hmix s_scref10_work_step (by simp) ?_
  obtain ⟨pc, f, mem, rd, out, st, fin⟩ := ρ
  simp only at hf0 hl hol
  subst hf0
  have hf : ∀ k, In32 (f k) := hws.reg
  obtain ⟨m, sm, o, s1, c, sc, hw, hm, ho, hc, hcc⟩ := hA
  simp only at hw hm ho
  have hlt := (List.getElem?_eq_some_iff.1 hw).1
  have nm : w ≠ m := fun e => by rw [← e, hw] at hm; simp at hm
  have no : w ≠ o := fun e => by rw [← e, hw] at ho; simp at ho
  have nc : w ≠ c := fun e => by rw [← e, hw] at hc; simp at hc
  have ncm : c ≠ m := fun e => by rw [← e, hc] at hm; simp at hm
  have nco : c ≠ o := fun e => by rw [← e, hc] at ho; simp at ho
  have nmo : m ≠ o := fun e => by rw [← e, hm] at ho; simp at ho
  have hclt := (List.getElem?_eq_some_iff.1 hc).1
  have kA : ∀ (id : Nat) (ob : VObj), H[id]? = some ob → ob.ty = 91 → id ≠ w ∧ id ≠ m ∧ id ≠ o ∧ id ≠ c ∧ id < H.length := fun id ob h1 h2 => by
    refine ⟨fun e => ?_, fun e => ?_, fun e => ?_, fun e => ?_, (List.getElem?_eq_some_iff.1 h1).1⟩
    · rw [e, hw] at h1; cases h1; simp at h2
    · rw [e, hm] at h1; cases h1; simp at h2
    · rw [e, ho] at h1; cases h1; simp at h2
    · rw [e, hc] at h1; cases h1; simp at h2
  have kp0 : ∀ y, KeepS H (H.set w y) := fun y id ob h1 h2 => by
    rw [List.getElem?_set, if_neg (fun e => (kA id ob h1 h2).1 e.symm)]; exact h1
  have gA : ∀ a, (H.set w a)[w]? = some a := fun a => by rw [List.getElem?_set, if_pos rfl, if_pos hlt]
  have hcdl : ((code.map insC).map AV.agg).length = code.length := by simp
  by_cases h2 : pc < 0
  · have e1 : stepF code inp ⟨pc, f, mem, rd, out, st, 0⟩ = ⟨pc, f, mem, rd, out, st, 7⟩ := by unfold stepF; rw [if_pos rfl, if_pos (.inl h2)]
    have e2 : doneF code ⟨pc, f, mem, rd, out, st, 0⟩ = false := by simp [doneF]; omega
    simp only [go_sem,Nat.reduceEqDiff,Nat.reduceAdd,Nat.reduceMul,↓reduceIte,↓dreduceIte,reduceCtorEq,Nat.reduceLeDiff,Nat.reduceLT,Nat.reduceSub,Int.reduceToNat,Int.reduceLE,Int.reduceLT, r_scref10_work_step, hw, gA, wkc_length, k_pc, k_cd, k_fin, ks_fin, one_ref, one_imm, eq_true h2]
    repeat (refine And.intro (by omega) ?_)
    refine hC _ _ _ (kp0 _) ?_
    rw [e1, cntS, if_neg (by rw [e2]; simp)]
    exact wput hlt hm ho hc nm no nc hcc
  by_cases h3 : (code.length : Int) ≤ pc
  · have e1 : stepF code inp ⟨pc, f, mem, rd, out, st, 0⟩ = ⟨pc, f, mem, rd, out, st, 7⟩ := by unfold stepF; rw [if_pos rfl, if_pos (.inr h3)]
    have e2 : doneF code ⟨pc, f, mem, rd, out, st, 0⟩ = false := by simp [doneF]; omega
    simp only [go_sem,Nat.reduceEqDiff,Nat.reduceAdd,Nat.reduceMul,↓reduceIte,↓dreduceIte,reduceCtorEq,Nat.reduceLeDiff,Nat.reduceLT,Nat.reduceSub,Int.reduceToNat,Int.reduceLE,Int.reduceLT, r_scref10_work_step, hw, gA, wkc_length, k_pc, k_cd, k_fin, ks_fin, one_ref, one_imm, hcdl, eq_false h2, eq_true h3]
    repeat (refine And.intro (by omega) ?_)
    refine hC _ _ _ (kp0 _) ?_
    rw [e1, cntS, if_neg (by rw [e2]; simp)]
    exact wput hlt hm ho hc nm no nc hcc
  have e2 : doneF code ⟨pc, f, mem, rd, out, st, 0⟩ = true := by simp [doneF]; omega
  obtain ⟨W, hW⟩ : ∃ W, code.getD pc.toNat default = W := ⟨_, rfl⟩
  have hpl : pc.toNat < code.length := by omega
  have hW32 : In32 W := by
    rw [← hW]; exact hcode _ (mem_getD (by omega))
  obtain ⟨t, ht⟩ : ∃ t, IntKind.i64.wrap (st + 1) = t := ⟨_, rfl⟩
  have e1 : stepF code inp ⟨pc, f, mem, rd, out, st, 0⟩ = wordF code inp ⟨pc, f, mem, rd, out, t, 0⟩ W := by unfold stepF; rw [if_pos rfl, if_neg (fun q => q.elim h2 h3), hW, ← ht]
  obtain ⟨x, hx⟩ : ∃ x, cnt.getD pc.toNat default = x := ⟨_, rfl⟩
  have hxb : 0 ≤ x ∧ x ≤ 4000000000000000000 := by
    rw [← hx, List.getD_eq_getElem?_getD, List.getElem?_eq_getElem (by omega)]
    exact hcb _ (List.getElem_mem _)
  have hxw : IntKind.i64.wrap (x + 1) = x + 1 := i64_in (by omega) (by omega)
  have e5 : cntS code ⟨pc, f, mem, rd, out, st, 0⟩ cnt = cnt.set pc.toNat (x + 1) := by rw [cntS, if_pos e2, hx]
  have hgi : (code.map insC).getD pc.toNat default = insC W := by
    rw [List.getD_eq_getElem?_getD, List.getElem?_map, List.getElem?_eq_getElem hpl, ← hW, List.getD_eq_getElem?_getD, List.getElem?_eq_getElem hpl]; rfl
  have hgo : (code.map fun w => B (okW w)).getD pc.toNat default = B (okW W) := by
    rw [List.getD_eq_getElem?_getD, List.getElem?_map, List.getElem?_eq_getElem hpl, ← hW, List.getD_eq_getElem?_getD, List.getElem?_eq_getElem hpl]; rfl
  have gB : ∀ a, (H.set w a)[c]? = some ⟨sc, 3, 1, cnt.map I⟩ := fun a => by rw [List.getElem?_set, if_neg nc]; exact hc
  have gC : ∀ a b, ((H.set w a).set c b)[w]? = some a := fun a b => by rw [List.getElem?_set, if_neg (fun e => nc e.symm)]; exact gA a
  have gD : ∀ a b z, ((H.set w a).set c b ++ [z])[w]? = some a := fun a b z => by rw [List.getElem?_append_left (by simp; omega)]; exact gC a b
  have gE : ∀ a b (z : VObj), ((H.set w a).set c b ++ [z])[H.length]? = some z := fun a b z => by
    rw [List.getElem?_append_right (by simp)]; simp
  have sE : ∀ a b (z x : VObj), ((H.set w a).set c b ++ [z]).set H.length x = (H.set w a).set c b ++ [x] := fun a b z x => by
    rw [List.set_append_right _ _ (by simp)]; simp
  simp only [go_sem,Nat.reduceEqDiff,Nat.reduceAdd,Nat.reduceMul,↓reduceIte,↓dreduceIte,reduceCtorEq,Nat.reduceLeDiff,Nat.reduceLT,Nat.reduceSub,Int.reduceToNat,Int.reduceLE,Int.reduceLT, r_scref10_work_step, hw, gA, gB, gC, gD, gE, sE, List.length_set, wkc_length, k_pc, k_st, k_cd, k_ct, ks_st, one_ref, one_imm, hcdl, cellT_I1, set_map, hcc, hx, hxw, ht, eq_false h2, eq_false h3, hgi, insC_len, eq_true hlt]
  repeat (refine And.intro (by omega) ?_)
  refine ⟨insC_one W, ?_⟩
  rw [k_ok]
  refine ⟨rfl, ?_⟩
  have hdr : insC W ++ List.drop (insC W).length [I 0, I 0, I 0, I 0] = insC W := by
    rw [insC_len]; exact List.append_nil _
  simp only [List.length_set, sE, set_map, ht, hxw, List.take_zero, List.nil_append, Nat.zero_add, hdr]
  have hw3 := gD (wkO sw (wkc pc f (.ref m sm 0 mem.length) rd so t 0 (.ref o s1 0 out.size) (insL code) (okL code) (words code) inp (.ref c sc 0 code.length))) ⟨sc, 3, 1, (cnt.set pc.toNat (x + 1)).map I⟩ ⟨nx, 86, 1, insC W⟩
  have hi3 := gE (wkO sw (wkc pc f (.ref m sm 0 mem.length) rd so t 0 (.ref o s1 0 out.size) (insL code) (okL code) (words code) inp (.ref c sc 0 code.length))) ⟨sc, 3, 1, (cnt.set pc.toNat (x + 1)).map I⟩ ⟨nx, 86, 1, insC W⟩
  have hm3 : ((H.set w (wkO sw (wkc pc f (.ref m sm 0 mem.length) rd so t 0 (.ref o s1 0 out.size) (insL code) (okL code) (words code) inp (.ref c sc 0 code.length)))).set c ⟨sc, 3, 1, (cnt.set pc.toNat (x + 1)).map I⟩ ++ [⟨nx, 86, 1, insC W⟩])[m]? = some ⟨sm, 30, 1, mem.map U32⟩ := by
    rw [List.getElem?_append_left (by simp; exact (List.getElem?_eq_some_iff.1 hm).1), List.getElem?_set, if_neg ncm, List.getElem?_set, if_neg nm]; exact hm
  have ho3 : ((H.set w (wkO sw (wkc pc f (.ref m sm 0 mem.length) rd so t 0 (.ref o s1 0 out.size) (insL code) (okL code) (words code) inp (.ref c sc 0 code.length)))).set c ⟨sc, 3, 1, (cnt.set pc.toNat (x + 1)).map I⟩ ++ [⟨nx, 86, 1, insC W⟩])[o]? = some ⟨s1, 5, 1, out.data.toList.map U8⟩ := by
    rw [List.getElem?_append_left (by simp; exact (List.getElem?_eq_some_iff.1 ho).1), List.getElem?_set, if_neg nco, List.getElem?_set, if_neg no]; exact ho
  have hc3 : ((H.set w (wkO sw (wkc pc f (.ref m sm 0 mem.length) rd so t 0 (.ref o s1 0 out.size) (insL code) (okL code) (words code) inp (.ref c sc 0 code.length)))).set c ⟨sc, 3, 1, (cnt.set pc.toNat (x + 1)).map I⟩ ++ [⟨nx, 86, 1, insC W⟩])[c]? = some ⟨sc, 3, 1, (cnt.set pc.toNat (x + 1)).map I⟩ := by
    rw [List.getElem?_append_left (by simp; exact hclt), List.getElem?_set, if_pos rfl, if_pos (by simp; exact hclt)]
  have kB : KeepS H ((H.set w (wkO sw (wkc pc f (.ref m sm 0 mem.length) rd so t 0 (.ref o s1 0 out.size) (insL code) (okL code) (words code) inp (.ref c sc 0 code.length)))).set c ⟨sc, 3, 1, (cnt.set pc.toNat (x + 1)).map I⟩ ++ [⟨nx, 86, 1, insC W⟩]) := fun id ob h1 h2 => by
    obtain ⟨i1, i2, i3, i4, i5⟩ := kA id ob h1 h2
    rw [List.getElem?_append_left (by simp; exact i5), List.getElem?_set, if_neg (fun e => i4 e.symm), List.getElem?_set, if_neg (fun e => i1 e.symm)]; exact h1
  clear gA gB gC gD gE sE hdr
  generalize (H.set w (wkO sw (wkc pc f (.ref m sm 0 mem.length) rd so t 0 (.ref o s1 0 out.size) (insL code) (okL code) (words code) inp (.ref c sc 0 code.length)))).set c ⟨sc, 3, 1, (cnt.set pc.toNat (x + 1)).map I⟩ ++ [⟨nx, 86, 1, insC W⟩] = H3 at *
  have nwi : w ≠ H.length := by omega
  have nmi : m ≠ H.length := by have := (List.getElem?_eq_some_iff.1 hm).1; omega
  have noi : o ≠ H.length := by have := (List.getElem?_eq_some_iff.1 ho).1; omega
  generalize H.length = i at *
  clear hw hm ho hc hlt hclt
  have hlt3 := (List.getElem?_eq_some_iff.1 hw3).1
  have hilt := (List.getElem?_eq_some_iff.1 hi3).1
  have hmlt := (List.getElem?_eq_some_iff.1 hm3).1
  have kp : ∀ y, KeepS H (H3.set w y) := fun y id ob h1 h2 => by
    rw [List.getElem?_set, if_neg (fun e => (kA id ob h1 h2).1 e.symm)]; exact kB id ob h1 h2
  have kp2 : ∀ y z, KeepS H ((H3.set m y).set w z) := fun y z id ob h1 h2 => by
    rw [List.getElem?_set, if_neg (fun e => (kA id ob h1 h2).1 e.symm), List.getElem?_set, if_neg (fun e => (kA id ob h1 h2).2.1 e.symm)]; exact kB id ob h1 h2
  have kp3 : ∀ y z u, KeepS H (((H3 ++ [y]).set o z).set w u) := fun y z u id ob h1 h2 => by
    have h3 := kB id ob h1 h2
    rw [List.getElem?_set, if_neg (fun e => (kA id ob h1 h2).1 e.symm), List.getElem?_set, if_neg (fun e => (kA id ob h1 h2).2.2.1 e.symm), List.getElem?_append_left (List.getElem?_eq_some_iff.1 h3).1]; exact h3
  have gw : ∀ y, (H3.set w y)[w]? = some y := fun y => by rw [List.getElem?_set, if_pos rfl, if_pos hlt3]
  have hc5 : (cnt.set pc.toNat (x + 1)).length = code.length := by rw [List.length_set]; exact hcc
  have hone : (wkc pc f (.ref m sm 0 mem.length) rd so t 0 (.ref o s1 0 out.size) (insL code) (okL code) (words code) inp (.ref c sc 0 code.length)).all AV.one = true := by rw [wkc_all]; rfl
  rw [e1, e5] at hC
  cases hok : okW W
  · have e3 : wordF code inp ⟨pc, f, mem, rd, out, t, 0⟩ W = ⟨pc, f, mem, rd, out, t, 6⟩ := by unfold wordF; rw [hok]; rfl
    rw [e3] at hC
    simp only [go_sem,Nat.reduceEqDiff,Nat.reduceAdd,Nat.reduceMul,↓reduceIte,↓dreduceIte,reduceCtorEq,Nat.reduceLeDiff,Nat.reduceLT,Nat.reduceSub,Int.reduceToNat,Int.reduceLE,Int.reduceLT, hw3, gw, wkc_length, k_pc, k_ok, k_fin, ks_fin, one_ref, one_imm, hW, hok]
    repeat (refine And.intro (by omega) ?_)
    exact hC _ _ _ (kp _) (wput hlt3 hm3 ho3 hc3 nm no nc hc5)
  have e3 : wordF code inp ⟨pc, f, mem, rd, out, t, 0⟩ W = (if (insM code inp ⟨pc, f, mem, rd, out, t, 0⟩ (opW W) (raW W) (rbW W) (kW W)).1 = 0 then (insM code inp ⟨pc, f, mem, rd, out, t, 0⟩ (opW W) (raW W) (rbW W) (kW W)).2
      else { (insM code inp ⟨pc, f, mem, rd, out, t, 0⟩ (opW W) (raW W) (rbW W) (kW W)).2 with fin := (insM code inp ⟨pc, f, mem, rd, out, t, 0⟩ (opW W) (raW W) (rbW W) (kW W)).1 }) := by
    unfold wordF; rw [hok, if_pos rfl]
  rw [e3] at hC
  have e4 : insC W = [I (opW W), I (raW W), I (rbW W), I (kW W)] := by unfold insC; rw [hok]; rfl
  rw [e4] at hi3
  have hok' := okI_in hok

  clear e3 e1 hws hcode hcb
  generalize opW W = op at *
  generalize raW W = a at *
  generalize rbW W = b at *
  generalize kW W = k at *
  obtain ⟨g1, g2, ga1, ga2, gb1, gb2, gc1, gc2, gc⟩ := hok'
  have ja : a.toNat < 16 := by omega
  have jb : b.toNat < 16 := by omega
  have ec : IntKind.u32.wrap k = k := w32_in ⟨by omega, by omega⟩
  have gi : ∀ y, (H3.set w y)[i]? = some ⟨nx, 86, 1, [I op, I a, I b, I k]⟩ := fun y => by rw [List.getElem?_set, if_neg nwi]; exact hi3
  have hsl : (H3.set w (wkO sw (wkc pc f (.ref m sm 0 mem.length) rd so t 0 (.ref o s1 0 out.size) (insL code) (okL code) (words code) inp (.ref c sc 0 code.length)))) = H3 := set_of_getR hw3
  have hfm : ∀ (H' : List VObj) (nx' : Nat), (∀ id ob, CallA true H3.length id → H3[id]? = some ob → H'[id]? = some ob) → FrzL 0 H' nx' [.ref m sm 0 mem.length, U32 (f b.toNat), I k] [words mem, U32 (f b.toNat), I k] := fun H' nx' hH => by
    refine ⟨_, _, rfl, Frz.ref (Nat.zero_le _) (hH m _ ⟨rfl, hmlt⟩ hm3) rfl rfl ?_ ?_, _, _, rfl, Frz.pure rfl, _, _, rfl, Frz.pure rfl, rfl⟩
    · rw [List.all_eq_true]; intro y hy; obtain ⟨x, _, rfl⟩ := List.mem_map.1 hy; rfl
    · rw [List.drop_zero, List.take_of_length_le (by simp)]
      exact FrzL.pure (by rw [List.all_eq_true]; intro y hy; obtain ⟨x, _, rfl⟩ := List.mem_map.1 hy; rfl)
  by_cases hap : 4 ≤ op ∧ op ≤ 15
  · have hc15 : k ≤ 15 := gc (by unfold cK; rw [if_pos hap])
    have jc : k.toNat < 16 := by omega
    have hins : insM code inp ⟨pc, f, mem, rd, out, t, 0⟩ op a b k = (if (applyW op (f b.toNat) (f k.toNat)).2 = 0 then (0, setR ⟨pc, f, mem, rd, out, t, 0⟩ a (applyW op (f b.toNat) (f k.toNat)).1) else (2, ⟨pc, f, mem, rd, out, t, 0⟩)) := by
      unfold insM
      iterate 15 rw [if_neg (by omega)]
    rw [hins] at hC
    simp only [go_sem,Nat.reduceEqDiff,Nat.reduceAdd,Nat.reduceMul,↓reduceIte,↓dreduceIte,reduceCtorEq,Nat.reduceLeDiff,Nat.reduceLT,Nat.reduceSub,Int.reduceToNat,Int.reduceLE,Int.reduceLT, hw3, hi3, gw, gi, List.set_set, List.length_set, set_map, wkc_length, k_pc, k_mem, k_rd, k_st, k_fin, k_o, k_cd, k_ok, k_wd, k_in, k_ct, k_reg ja, k_reg jb, ks_pc, ks_reg ja, ks_mem, ks_rd, ks_st, ks_fin, ks_o, one_ref, one_imm, cellT_U32, ec, hW, hok, Int.reduceEq, Int.reduceBEq, k_reg jc, eq_true hlt3, eq_true hilt, eq_false (show ¬ op = 1 by omega), eq_false (show ¬ op = 2 by omega), eq_false (show ¬ op = 3 by omega), eq_false (show ¬ op = 16 by omega), eq_false (show ¬ op = 17 by omega), eq_false (show ¬ op = 18 by omega), eq_false (show ¬ op = 19 by omega), eq_false (show ¬ op = 20 by omega), eq_false (show ¬ op = 21 by omega), eq_false (show ¬ op = 22 by omega), eq_false (show ¬ op = 23 by omega), eq_false (show ¬ op = 24 by omega), eq_false (show ¬ op = 25 by omega), eq_false (show ¬ op = 26 by omega), eq_false (show ¬ op = 27 by omega)]
    repeat (refine And.intro (by omega) ?_)
    refine ECall.of (refapply_c op (f b.toNat) (f k.toNat) (hf _) (hf _)) (SleL.pure rfl) ⟨_, fun _ => Iff.rfl⟩ fun x hx => ?_
    subst hx
    generalize applyW op (f b.toNat) (f k.toNat) = q at *
    by_cases hp : q.2 = 0
    · rw [if_pos hp] at hC
      simp only [go_sem,Nat.reduceEqDiff,Nat.reduceAdd,Nat.reduceMul,↓reduceIte,↓dreduceIte,reduceCtorEq,Nat.reduceLeDiff,Nat.reduceLT,Nat.reduceSub,Int.reduceToNat,Int.reduceLE,Int.reduceLT, hw3, hi3, gw, gi, List.set_set, List.length_set, set_map, wkc_length, k_pc, k_mem, k_rd, k_st, k_fin, k_o, k_cd, k_ok, k_wd, k_in, k_ct, k_reg ja, k_reg jb, ks_pc, ks_reg ja, ks_mem, ks_rd, ks_st, ks_fin, ks_o, one_ref, one_imm, cellT_U32, ec, hW, hok, Int.reduceEq, Int.reduceBEq, eq_true hp]
      repeat (refine And.intro (by omega) ?_)
      refine wset_v a q.1 ⟨ga1, ga2⟩ hw3 hone fun r => ?_
      simp only [go_sem,Nat.reduceEqDiff,Nat.reduceAdd,Nat.reduceMul,↓reduceIte,↓dreduceIte,reduceCtorEq,Nat.reduceLeDiff,Nat.reduceLT,Nat.reduceSub,Int.reduceToNat,Int.reduceLE,Int.reduceLT]
      exact hC _ _ _ (kp _) (wput hlt3 hm3 ho3 hc3 nm no nc hc5)
    · rw [if_neg hp] at hC
      simp only [go_sem,Nat.reduceEqDiff,Nat.reduceAdd,Nat.reduceMul,↓reduceIte,↓dreduceIte,reduceCtorEq,Nat.reduceLeDiff,Nat.reduceLT,Nat.reduceSub,Int.reduceToNat,Int.reduceLE,Int.reduceLT, hw3, hi3, gw, gi, List.set_set, List.length_set, set_map, wkc_length, k_pc, k_mem, k_rd, k_st, k_fin, k_o, k_cd, k_ok, k_wd, k_in, k_ct, k_reg ja, k_reg jb, ks_pc, ks_reg ja, ks_mem, ks_rd, ks_st, ks_fin, ks_o, one_ref, one_imm, cellT_U32, ec, hW, hok, Int.reduceEq, Int.reduceBEq, eq_false hp]
      repeat (refine And.intro (by omega) ?_)
      exact hC _ _ _ (kp _) (wput hlt3 hm3 ho3 hc3 nm no nc hc5)
  have hcases : op = 1 ∨ op = 2 ∨ op = 3 ∨ op = 16 ∨ op = 27 ∨ op = 17 ∨ op = 18 ∨ op = 19 ∨ op = 20 ∨ op = 21 ∨ op = 22 ∨ op = 23 ∨ op = 24 ∨ op = 25 ∨ op = 26 := by omega
  rcases hcases with rfl | rfl | rfl | rfl | rfl | rfl | rfl | rfl | rfl | rfl | rfl | rfl | rfl | rfl | rfl
  · -- 1
    simp only [go_sem,Nat.reduceEqDiff,Nat.reduceAdd,Nat.reduceMul,↓reduceIte,↓dreduceIte,reduceCtorEq,Nat.reduceLeDiff,Nat.reduceLT,Nat.reduceSub,Int.reduceToNat,Int.reduceLE,Int.reduceLT, hw3, hi3, gw, gi, List.set_set, List.length_set, set_map, wkc_length, k_pc, k_mem, k_rd, k_st, k_fin, k_o, k_cd, k_ok, k_wd, k_in, k_ct, k_reg ja, k_reg jb, ks_pc, ks_reg ja, ks_mem, ks_rd, ks_st, ks_fin, ks_o, one_ref, one_imm, cellT_U32, ec, hW, hok, Int.reduceEq, Int.reduceBEq]
    repeat (refine And.intro (by omega) ?_)
    refine wset_v a k ⟨ga1, ga2⟩ hw3 hone fun r => ?_
    simp only [go_sem,Nat.reduceEqDiff,Nat.reduceAdd,Nat.reduceMul,↓reduceIte,↓dreduceIte,reduceCtorEq,Nat.reduceLeDiff,Nat.reduceLT,Nat.reduceSub,Int.reduceToNat,Int.reduceLE,Int.reduceLT]
    exact hC _ _ _ (kp _) (wput hlt3 hm3 ho3 hc3 nm no nc hc5)
  · -- 2
    have hq : IntKind.u32.wrap ((f a.toNat).tmod 65536 + IntKind.u32.wrap (k * 65536)) = f a.toNat % 65536 + k * 65536 := by
      have h0 := (hf a.toNat).1
      have h1 := (hf a.toNat).2
      rw [Int.tmod_eq_emod_of_nonneg h0, IntKind.wrap_u32, IntKind.wrap_u32]; omega
    simp only [go_sem,Nat.reduceEqDiff,Nat.reduceAdd,Nat.reduceMul,↓reduceIte,↓dreduceIte,reduceCtorEq,Nat.reduceLeDiff,Nat.reduceLT,Nat.reduceSub,Int.reduceToNat,Int.reduceLE,Int.reduceLT, hw3, hi3, gw, gi, List.set_set, List.length_set, set_map, wkc_length, k_pc, k_mem, k_rd, k_st, k_fin, k_o, k_cd, k_ok, k_wd, k_in, k_ct, k_reg ja, k_reg jb, ks_pc, ks_reg ja, ks_mem, ks_rd, ks_st, ks_fin, ks_o, one_ref, one_imm, cellT_U32, ec, hW, hok, Int.reduceEq, Int.reduceBEq, hq]
    repeat (refine And.intro (by omega) ?_)
    refine wset_v a (f a.toNat % 65536 + k * 65536) ⟨ga1, ga2⟩ hw3 hone fun r => ?_
    simp only [go_sem,Nat.reduceEqDiff,Nat.reduceAdd,Nat.reduceMul,↓reduceIte,↓dreduceIte,reduceCtorEq,Nat.reduceLeDiff,Nat.reduceLT,Nat.reduceSub,Int.reduceToNat,Int.reduceLE,Int.reduceLT]
    exact hC _ _ _ (kp _) (wput hlt3 hm3 ho3 hc3 nm no nc hc5)
  · -- 3
    simp only [go_sem,Nat.reduceEqDiff,Nat.reduceAdd,Nat.reduceMul,↓reduceIte,↓dreduceIte,reduceCtorEq,Nat.reduceLeDiff,Nat.reduceLT,Nat.reduceSub,Int.reduceToNat,Int.reduceLE,Int.reduceLT, hw3, hi3, gw, gi, List.set_set, List.length_set, set_map, wkc_length, k_pc, k_mem, k_rd, k_st, k_fin, k_o, k_cd, k_ok, k_wd, k_in, k_ct, k_reg ja, k_reg jb, ks_pc, ks_reg ja, ks_mem, ks_rd, ks_st, ks_fin, ks_o, one_ref, one_imm, cellT_U32, ec, hW, hok, Int.reduceEq, Int.reduceBEq]
    repeat (refine And.intro (by omega) ?_)
    refine wset_v a (f b.toNat) ⟨ga1, ga2⟩ hw3 hone fun r => ?_
    simp only [go_sem,Nat.reduceEqDiff,Nat.reduceAdd,Nat.reduceMul,↓reduceIte,↓dreduceIte,reduceCtorEq,Nat.reduceLeDiff,Nat.reduceLT,Nat.reduceSub,Int.reduceToNat,Int.reduceLE,Int.reduceLT]
    exact hC _ _ _ (kp _) (wput hlt3 hm3 ho3 hc3 nm no nc hc5)
  · -- 16
    simp only [go_sem,Nat.reduceEqDiff,Nat.reduceAdd,Nat.reduceMul,↓reduceIte,↓dreduceIte,reduceCtorEq,Nat.reduceLeDiff,Nat.reduceLT,Nat.reduceSub,Int.reduceToNat,Int.reduceLE,Int.reduceLT, hw3, hi3, gw, gi, List.set_set, List.length_set, set_map, wkc_length, k_pc, k_mem, k_rd, k_st, k_fin, k_o, k_cd, k_ok, k_wd, k_in, k_ct, k_reg ja, k_reg jb, ks_pc, ks_reg ja, ks_mem, ks_rd, ks_st, ks_fin, ks_o, one_ref, one_imm, cellT_U32, ec, hW, hok, Int.reduceEq, Int.reduceBEq, eq_true hlt3, eq_true hilt]
    repeat (refine And.intro (by omega) ?_)
    by_cases h : w32 (f b.toNat + k) < (mem.length : Int)
    · have hins : insM code inp ⟨pc, f, mem, rd, out, t, 0⟩ 16 a b k = (0, setR ⟨pc, f, mem, rd, out, t, 0⟩ a (mem.getD (w32 (f b.toNat + k)).toNat default)) := if_pos h
      rw [hins] at hC
      have hfe := fetchN_c mem (f b.toNat) k (hf _) ⟨gc1, gc2⟩ hl
      rw [if_pos h] at hfe
      refine ECall.ofN hfe hfm ⟨_, fun _ => Iff.rfl⟩ fun x hx => ?_
      subst hx
      simp only [go_sem,Nat.reduceEqDiff,Nat.reduceAdd,Nat.reduceMul,↓reduceIte,↓dreduceIte,reduceCtorEq,Nat.reduceLeDiff,Nat.reduceLT,Nat.reduceSub,Int.reduceToNat,Int.reduceLE,Int.reduceLT, hw3, hi3, gw, gi, List.set_set, List.length_set, set_map, wkc_length, k_pc, k_mem, k_rd, k_st, k_fin, k_o, k_cd, k_ok, k_wd, k_in, k_ct, k_reg ja, k_reg jb, ks_pc, ks_reg ja, ks_mem, ks_rd, ks_st, ks_fin, ks_o, one_ref, one_imm, cellT_U32, ec, hW, hok, Int.reduceEq, Int.reduceBEq]
      repeat (refine And.intro (by omega) ?_)
      refine wset_v a (mem.getD (w32 (f b.toNat + k)).toNat default) ⟨ga1, ga2⟩ hw3 hone fun r => ?_
      simp only [go_sem,Nat.reduceEqDiff,Nat.reduceAdd,Nat.reduceMul,↓reduceIte,↓dreduceIte,reduceCtorEq,Nat.reduceLeDiff,Nat.reduceLT,Nat.reduceSub,Int.reduceToNat,Int.reduceLE,Int.reduceLT]
      exact hC _ _ _ (kp _) (wput hlt3 hm3 ho3 hc3 nm no nc hc5)
    · have hins : insM code inp ⟨pc, f, mem, rd, out, t, 0⟩ 16 a b k = (8, ⟨pc, f, mem, rd, out, t, 0⟩) := if_neg h
      rw [hins] at hC
      have hfe := fetchN_c mem (f b.toNat) k (hf _) ⟨gc1, gc2⟩ hl
      rw [if_neg h] at hfe
      refine ECall.ofN hfe hfm ⟨_, fun _ => Iff.rfl⟩ fun x hx => ?_
      subst hx
      simp only [go_sem,Nat.reduceEqDiff,Nat.reduceAdd,Nat.reduceMul,↓reduceIte,↓dreduceIte,reduceCtorEq,Nat.reduceLeDiff,Nat.reduceLT,Nat.reduceSub,Int.reduceToNat,Int.reduceLE,Int.reduceLT, hw3, hi3, gw, gi, List.set_set, List.length_set, set_map, wkc_length, k_pc, k_mem, k_rd, k_st, k_fin, k_o, k_cd, k_ok, k_wd, k_in, k_ct, k_reg ja, k_reg jb, ks_pc, ks_reg ja, ks_mem, ks_rd, ks_st, ks_fin, ks_o, one_ref, one_imm, cellT_U32, ec, hW, hok, Int.reduceEq, Int.reduceBEq]
      repeat (refine And.intro (by omega) ?_)
      exact hC _ _ _ (kp _) (wput hlt3 hm3 ho3 hc3 nm no nc hc5)
  · -- 27
    simp only [go_sem,Nat.reduceEqDiff,Nat.reduceAdd,Nat.reduceMul,↓reduceIte,↓dreduceIte,reduceCtorEq,Nat.reduceLeDiff,Nat.reduceLT,Nat.reduceSub,Int.reduceToNat,Int.reduceLE,Int.reduceLT, hw3, hi3, gw, gi, List.set_set, List.length_set, set_map, wkc_length, k_pc, k_mem, k_rd, k_st, k_fin, k_o, k_cd, k_ok, k_wd, k_in, k_ct, k_reg ja, k_reg jb, ks_pc, ks_reg ja, ks_mem, ks_rd, ks_st, ks_fin, ks_o, one_ref, one_imm, cellT_U32, ec, hW, hok, Int.reduceEq, Int.reduceBEq, eq_true hlt3, eq_true hilt]
    repeat (refine And.intro (by omega) ?_)
    by_cases h : w32 (f b.toNat + k) < (code.length : Int)
    · have hins : insM code inp ⟨pc, f, mem, rd, out, t, 0⟩ 27 a b k = (0, setR ⟨pc, f, mem, rd, out, t, 0⟩ a (code.getD (w32 (f b.toNat + k)).toNat default)) := if_pos h
      rw [hins] at hC
      have hfe := fetchN_c code (f b.toNat) k (hf _) ⟨gc1, gc2⟩ hcl
      rw [if_pos h] at hfe
      refine ECall.ofN hfe (fun H' nx' _ => ⟨_, _, rfl, Frz.pure rfl, _, _, rfl, Frz.pure rfl, _, _, rfl, Frz.pure rfl, rfl⟩) ⟨_, fun _ => Iff.rfl⟩ fun x hx => ?_
      subst hx
      simp only [go_sem,Nat.reduceEqDiff,Nat.reduceAdd,Nat.reduceMul,↓reduceIte,↓dreduceIte,reduceCtorEq,Nat.reduceLeDiff,Nat.reduceLT,Nat.reduceSub,Int.reduceToNat,Int.reduceLE,Int.reduceLT, hw3, hi3, gw, gi, List.set_set, List.length_set, set_map, wkc_length, k_pc, k_mem, k_rd, k_st, k_fin, k_o, k_cd, k_ok, k_wd, k_in, k_ct, k_reg ja, k_reg jb, ks_pc, ks_reg ja, ks_mem, ks_rd, ks_st, ks_fin, ks_o, one_ref, one_imm, cellT_U32, ec, hW, hok, Int.reduceEq, Int.reduceBEq]
      repeat (refine And.intro (by omega) ?_)
      refine wset_v a (code.getD (w32 (f b.toNat + k)).toNat default) ⟨ga1, ga2⟩ hw3 hone fun r => ?_
      simp only [go_sem,Nat.reduceEqDiff,Nat.reduceAdd,Nat.reduceMul,↓reduceIte,↓dreduceIte,reduceCtorEq,Nat.reduceLeDiff,Nat.reduceLT,Nat.reduceSub,Int.reduceToNat,Int.reduceLE,Int.reduceLT]
      exact hC _ _ _ (kp _) (wput hlt3 hm3 ho3 hc3 nm no nc hc5)
    · have hins : insM code inp ⟨pc, f, mem, rd, out, t, 0⟩ 27 a b k = (8, ⟨pc, f, mem, rd, out, t, 0⟩) := if_neg h
      rw [hins] at hC
      have hfe := fetchN_c code (f b.toNat) k (hf _) ⟨gc1, gc2⟩ hcl
      rw [if_neg h] at hfe
      refine ECall.ofN hfe (fun H' nx' _ => ⟨_, _, rfl, Frz.pure rfl, _, _, rfl, Frz.pure rfl, _, _, rfl, Frz.pure rfl, rfl⟩) ⟨_, fun _ => Iff.rfl⟩ fun x hx => ?_
      subst hx
      simp only [go_sem,Nat.reduceEqDiff,Nat.reduceAdd,Nat.reduceMul,↓reduceIte,↓dreduceIte,reduceCtorEq,Nat.reduceLeDiff,Nat.reduceLT,Nat.reduceSub,Int.reduceToNat,Int.reduceLE,Int.reduceLT, hw3, hi3, gw, gi, List.set_set, List.length_set, set_map, wkc_length, k_pc, k_mem, k_rd, k_st, k_fin, k_o, k_cd, k_ok, k_wd, k_in, k_ct, k_reg ja, k_reg jb, ks_pc, ks_reg ja, ks_mem, ks_rd, ks_st, ks_fin, ks_o, one_ref, one_imm, cellT_U32, ec, hW, hok, Int.reduceEq, Int.reduceBEq]
      repeat (refine And.intro (by omega) ?_)
      exact hC _ _ _ (kp _) (wput hlt3 hm3 ho3 hc3 nm no nc hc5)
  · -- 17
    obtain ⟨at_, hat⟩ : ∃ y, IntKind.u32.wrap (f b.toNat + k) = y := ⟨_, rfl⟩
    have hin : In32 at_ := by rw [← hat, IntKind.wrap_u32]; exact ⟨by omega, by omega⟩
    obtain ⟨p1, p2⟩ := hin
    have hat' : w32 (f b.toNat + k) = at_ := hat
    have q2 : IntKind.u64.wrap at_ = at_ := by rw [IntKind.wrap_u64]; omega
    have q3 : IntKind.u64.wrap (mem.length : Int) = mem.length := by rw [IntKind.wrap_u64]; omega
    have gm : ∀ y, (H3.set m y)[w]? = some (wkO sw (wkc pc f (.ref m sm 0 mem.length) rd so t 0 (.ref o s1 0 out.size) (insL code) (okL code) (words code) inp (.ref c sc 0 code.length))) := fun y => by rw [List.getElem?_set, if_neg (fun e => nm e.symm)]; exact hw3
    have gm2 : ∀ y z, ((H3.set m y).set w z)[w]? = some z := fun y z => by rw [List.getElem?_set, if_pos rfl, if_pos (by rw [List.length_set]; exact hlt3)]
    by_cases h : at_ < (mem.length : Int)
    · have hins : insM code inp ⟨pc, f, mem, rd, out, t, 0⟩ 17 a b k = (0, ⟨nxtM ⟨pc, f, mem, rd, out, t, 0⟩, f, mem.set at_.toNat (f a.toNat), rd, out, t, 0⟩) := by
        have h' : w32 (f b.toNat + k) < (mem.length : Int) := by rw [hat']; exact h
        rw [← hat']; exact if_pos h'
      rw [hins] at hC
      simp only [go_sem,Nat.reduceEqDiff,Nat.reduceAdd,Nat.reduceMul,↓reduceIte,↓dreduceIte,reduceCtorEq,Nat.reduceLeDiff,Nat.reduceLT,Nat.reduceSub,Int.reduceToNat,Int.reduceLE,Int.reduceLT, hw3, hi3, gw, gi, List.set_set, List.length_set, set_map, wkc_length, k_pc, k_mem, k_rd, k_st, k_fin, k_o, k_cd, k_ok, k_wd, k_in, k_ct, k_reg ja, k_reg jb, ks_pc, ks_reg ja, ks_mem, ks_rd, ks_st, ks_fin, ks_o, one_ref, one_imm, cellT_U32, ec, hW, hok, Int.reduceEq, Int.reduceBEq, hat, q2, q3, hm3, gm, gm2, eq_false (show ¬ (mem.length : Int) ≤ at_ by omega)]
      repeat (refine And.intro (by first | omega | simp) ?_)
      refine hC _ _ _ (kp2 _ _) ?_
      have := wput (code := code) (inp := inp) (H := H3.set m ⟨sm, 30, 1, (mem.set at_.toNat (f a.toNat)).map U32⟩) (w := w) (sw := sw) (m := m) (sm := sm) (o := o) (s1 := s1) (c := c) (sc := sc) (mem := mem.set at_.toNat (f a.toNat)) (out := out) (so := so) (cnt := cnt.set pc.toNat (x + 1)) (pc := IntKind.i64.wrap (pc + 1)) (f := f) (rd := rd) (st := t) (fin := 0)
        (by rw [List.length_set]; exact hlt3) (by rw [List.getElem?_set, if_pos rfl, if_pos hmlt]) (by rw [List.getElem?_set, if_neg nmo]; exact ho3) (by rw [List.getElem?_set, if_neg (fun e => ncm e.symm)]; exact hc3) nm no nc hc5
      rw [List.length_set] at this
      exact this
    · have hins : insM code inp ⟨pc, f, mem, rd, out, t, 0⟩ 17 a b k = (8, ⟨pc, f, mem, rd, out, t, 0⟩) := by
        have h' : ¬ w32 (f b.toNat + k) < (mem.length : Int) := by rw [hat']; exact h
        exact if_neg h'
      rw [hins] at hC
      simp only [go_sem,Nat.reduceEqDiff,Nat.reduceAdd,Nat.reduceMul,↓reduceIte,↓dreduceIte,reduceCtorEq,Nat.reduceLeDiff,Nat.reduceLT,Nat.reduceSub,Int.reduceToNat,Int.reduceLE,Int.reduceLT, hw3, hi3, gw, gi, List.set_set, List.length_set, set_map, wkc_length, k_pc, k_mem, k_rd, k_st, k_fin, k_o, k_cd, k_ok, k_wd, k_in, k_ct, k_reg ja, k_reg jb, ks_pc, ks_reg ja, ks_mem, ks_rd, ks_st, ks_fin, ks_o, one_ref, one_imm, cellT_U32, ec, hW, hok, Int.reduceEq, Int.reduceBEq, hm3, hat, q2, q3, eq_true (show (mem.length : Int) ≤ at_ by omega)]
      repeat (refine And.intro (by omega) ?_)
      exact hC _ _ _ (kp _) (wput hlt3 hm3 ho3 hc3 nm no nc hc5)
  · -- 18
    simp only [go_sem,Nat.reduceEqDiff,Nat.reduceAdd,Nat.reduceMul,↓reduceIte,↓dreduceIte,reduceCtorEq,Nat.reduceLeDiff,Nat.reduceLT,Nat.reduceSub,Int.reduceToNat,Int.reduceLE,Int.reduceLT, hw3, hi3, gw, gi, List.set_set, List.length_set, set_map, wkc_length, k_pc, k_mem, k_rd, k_st, k_fin, k_o, k_cd, k_ok, k_wd, k_in, k_ct, k_reg ja, k_reg jb, ks_pc, ks_reg ja, ks_mem, ks_rd, ks_st, ks_fin, ks_o, one_ref, one_imm, cellT_U32, ec, hW, hok, Int.reduceEq, Int.reduceBEq]
    repeat (refine And.intro (by omega) ?_)
    exact hC _ _ _ (kp _) (wput hlt3 hm3 ho3 hc3 nm no nc hc5)
  · -- 19
    simp only [go_sem,Nat.reduceEqDiff,Nat.reduceAdd,Nat.reduceMul,↓reduceIte,↓dreduceIte,reduceCtorEq,Nat.reduceLeDiff,Nat.reduceLT,Nat.reduceSub,Int.reduceToNat,Int.reduceLE,Int.reduceLT, hw3, hi3, gw, gi, List.set_set, List.length_set, set_map, wkc_length, k_pc, k_mem, k_rd, k_st, k_fin, k_o, k_cd, k_ok, k_wd, k_in, k_ct, k_reg ja, k_reg jb, ks_pc, ks_reg ja, ks_mem, ks_rd, ks_st, ks_fin, ks_o, one_ref, one_imm, cellT_U32, ec, hW, hok, Int.reduceEq, Int.reduceBEq]
    repeat (refine And.intro (by omega) ?_)
    refine wjump_v _ k hw3 fun r => ?_
    simp only [go_sem,Nat.reduceEqDiff,Nat.reduceAdd,Nat.reduceMul,↓reduceIte,↓dreduceIte,reduceCtorEq,Nat.reduceLeDiff,Nat.reduceLT,Nat.reduceSub,Int.reduceToNat,Int.reduceLE,Int.reduceLT]
    refine hC _ _ _ (kp _) ?_
    by_cases hz : f a.toNat = 0
    · have hins : insM code inp ⟨pc, f, mem, rd, out, t, 0⟩ 19 a b k = (0, ⟨k, f, mem, rd, out, t, 0⟩) := by show (0, S.mk (if f a.toNat = 0 then _ else _) f mem rd out t 0) = _; rw [if_pos hz] <;> rfl
      rw [hins]
      simp only [hz, beq_self_eq_true, if_true]
      exact wput hlt3 hm3 ho3 hc3 nm no nc hc5
    · have hins : insM code inp ⟨pc, f, mem, rd, out, t, 0⟩ 19 a b k = (0, ⟨(IntKind.i64.wrap (pc + 1)), f, mem, rd, out, t, 0⟩) := by show (0, S.mk (if f a.toNat = 0 then _ else _) f mem rd out t 0) = _; rw [if_neg hz] <;> rfl
      rw [hins]
      simp only [eq_false hz, if_false, if_true, not_false_eq_true]
      exact wput hlt3 hm3 ho3 hc3 nm no nc hc5
  · -- 20
    simp only [go_sem,Nat.reduceEqDiff,Nat.reduceAdd,Nat.reduceMul,↓reduceIte,↓dreduceIte,reduceCtorEq,Nat.reduceLeDiff,Nat.reduceLT,Nat.reduceSub,Int.reduceToNat,Int.reduceLE,Int.reduceLT, hw3, hi3, gw, gi, List.set_set, List.length_set, set_map, wkc_length, k_pc, k_mem, k_rd, k_st, k_fin, k_o, k_cd, k_ok, k_wd, k_in, k_ct, k_reg ja, k_reg jb, ks_pc, ks_reg ja, ks_mem, ks_rd, ks_st, ks_fin, ks_o, one_ref, one_imm, cellT_U32, ec, hW, hok, Int.reduceEq, Int.reduceBEq]
    repeat (refine And.intro (by omega) ?_)
    refine wjump_v _ k hw3 fun r => ?_
    simp only [go_sem,Nat.reduceEqDiff,Nat.reduceAdd,Nat.reduceMul,↓reduceIte,↓dreduceIte,reduceCtorEq,Nat.reduceLeDiff,Nat.reduceLT,Nat.reduceSub,Int.reduceToNat,Int.reduceLE,Int.reduceLT]
    refine hC _ _ _ (kp _) ?_
    by_cases hz : f a.toNat = 0
    · have hins : insM code inp ⟨pc, f, mem, rd, out, t, 0⟩ 20 a b k = (0, ⟨(IntKind.i64.wrap (pc + 1)), f, mem, rd, out, t, 0⟩) := by show (0, S.mk (if f a.toNat = 0 then _ else _) f mem rd out t 0) = _; rw [if_pos hz] <;> rfl
      rw [hins]
      simp only [hz, bne_self_eq_false, Bool.false_eq_true, if_false]
      exact wput hlt3 hm3 ho3 hc3 nm no nc hc5
    · have hins : insM code inp ⟨pc, f, mem, rd, out, t, 0⟩ 20 a b k = (0, ⟨k, f, mem, rd, out, t, 0⟩) := by show (0, S.mk (if f a.toNat = 0 then _ else _) f mem rd out t 0) = _; rw [if_neg hz] <;> rfl
      rw [hins]
      simp only [eq_false hz, if_false, if_true, not_false_eq_true]
      exact wput hlt3 hm3 ho3 hc3 nm no nc hc5
  · -- 21
    have hq : IntKind.u32.wrap (IntKind.u32.wrap pc + 1) = w32 (nxtM ⟨pc, f, mem, rd, out, t, 0⟩) := by
      simp only [w32, nxtM]; rw [IntKind.wrap_u32, IntKind.wrap_u32, IntKind.wrap_u32, IntKind.wrap_i64]; omega
    simp only [go_sem,Nat.reduceEqDiff,Nat.reduceAdd,Nat.reduceMul,↓reduceIte,↓dreduceIte,reduceCtorEq,Nat.reduceLeDiff,Nat.reduceLT,Nat.reduceSub,Int.reduceToNat,Int.reduceLE,Int.reduceLT, hw3, hi3, gw, gi, List.set_set, List.length_set, set_map, wkc_length, k_pc, k_mem, k_rd, k_st, k_fin, k_o, k_cd, k_ok, k_wd, k_in, k_ct, k_reg ja, k_reg jb, ks_pc, ks_reg ja, ks_mem, ks_rd, ks_st, ks_fin, ks_o, one_ref, one_imm, cellT_U32, ec, hW, hok, Int.reduceEq, Int.reduceBEq, hq]
    repeat (refine And.intro (by omega) ?_)
    exact hC _ _ _ (kp _) (wput hlt3 hm3 ho3 hc3 nm no nc hc5)
  · -- 22
    have hq : IntKind.i64.wrap (f a.toNat) = f a.toNat := by
      have := hf a.toNat
      exact i64_in (by have := this.1; omega) (by have := this.2; omega)
    simp only [go_sem,Nat.reduceEqDiff,Nat.reduceAdd,Nat.reduceMul,↓reduceIte,↓dreduceIte,reduceCtorEq,Nat.reduceLeDiff,Nat.reduceLT,Nat.reduceSub,Int.reduceToNat,Int.reduceLE,Int.reduceLT, hw3, hi3, gw, gi, List.set_set, List.length_set, set_map, wkc_length, k_pc, k_mem, k_rd, k_st, k_fin, k_o, k_cd, k_ok, k_wd, k_in, k_ct, k_reg ja, k_reg jb, ks_pc, ks_reg ja, ks_mem, ks_rd, ks_st, ks_fin, ks_o, one_ref, one_imm, cellT_U32, ec, hW, hok, Int.reduceEq, Int.reduceBEq, hq]
    repeat (refine And.intro (by omega) ?_)
    exact hC _ _ _ (kp _) (wput hlt3 hm3 ho3 hc3 nm no nc hc5)
  · -- 23
    by_cases r1 : rd < 0
    · have hins : insM code inp ⟨pc, f, mem, rd, out, t, 0⟩ 23 a b k = (0, setR ⟨pc, f, mem, rd, out, t, 0⟩ a 256) := by
        show (0, if rd < 0 ∨ (inp.size : Int) ≤ rd then _ else _) = _; rw [if_pos (.inl r1)]
      rw [hins] at hC
      simp only [go_sem,Nat.reduceEqDiff,Nat.reduceAdd,Nat.reduceMul,↓reduceIte,↓dreduceIte,reduceCtorEq,Nat.reduceLeDiff,Nat.reduceLT,Nat.reduceSub,Int.reduceToNat,Int.reduceLE,Int.reduceLT, hw3, hi3, gw, gi, List.set_set, List.length_set, set_map, wkc_length, k_pc, k_mem, k_rd, k_st, k_fin, k_o, k_cd, k_ok, k_wd, k_in, k_ct, k_reg ja, k_reg jb, ks_pc, ks_reg ja, ks_mem, ks_rd, ks_st, ks_fin, ks_o, one_ref, one_imm, cellT_U32, ec, hW, hok, Int.reduceEq, Int.reduceBEq, eq_true r1]
      repeat (refine And.intro (by omega) ?_)
      refine wset_v a 256 ⟨ga1, ga2⟩ hw3 hone fun r => ?_
      simp only [go_sem,Nat.reduceEqDiff,Nat.reduceAdd,Nat.reduceMul,↓reduceIte,↓dreduceIte,reduceCtorEq,Nat.reduceLeDiff,Nat.reduceLT,Nat.reduceSub,Int.reduceToNat,Int.reduceLE,Int.reduceLT]
      exact hC _ _ _ (kp _) (wput hlt3 hm3 ho3 hc3 nm no nc hc5)
    by_cases r2 : (inp.size : Int) ≤ rd
    · have hins : insM code inp ⟨pc, f, mem, rd, out, t, 0⟩ 23 a b k = (0, setR ⟨pc, f, mem, rd, out, t, 0⟩ a 256) := by
        show (0, if rd < 0 ∨ (inp.size : Int) ≤ rd then _ else _) = _; rw [if_pos (.inr r2)]
      rw [hins] at hC
      simp only [go_sem,Nat.reduceEqDiff,Nat.reduceAdd,Nat.reduceMul,↓reduceIte,↓dreduceIte,reduceCtorEq,Nat.reduceLeDiff,Nat.reduceLT,Nat.reduceSub,Int.reduceToNat,Int.reduceLE,Int.reduceLT, hw3, hi3, gw, gi, List.set_set, List.length_set, set_map, wkc_length, k_pc, k_mem, k_rd, k_st, k_fin, k_o, k_cd, k_ok, k_wd, k_in, k_ct, k_reg ja, k_reg jb, ks_pc, ks_reg ja, ks_mem, ks_rd, ks_st, ks_fin, ks_o, one_ref, one_imm, cellT_U32, ec, hW, hok, Int.reduceEq, Int.reduceBEq, eq_false r1, eq_true r2]
      repeat (refine And.intro (by omega) ?_)
      refine wset_v a 256 ⟨ga1, ga2⟩ hw3 hone fun r => ?_
      simp only [go_sem,Nat.reduceEqDiff,Nat.reduceAdd,Nat.reduceMul,↓reduceIte,↓dreduceIte,reduceCtorEq,Nat.reduceLeDiff,Nat.reduceLT,Nat.reduceSub,Int.reduceToNat,Int.reduceLE,Int.reduceLT]
      exact hC _ _ _ (kp _) (wput hlt3 hm3 ho3 hc3 nm no nc hc5)
    · have hins : insM code inp ⟨pc, f, mem, rd, out, t, 0⟩ 23 a b k = (0, setR ⟨pc, f, mem, IntKind.i64.wrap (rd + 1), out, t, 0⟩ a (byteAt inp rd.toNat)) := by
        show (0, if rd < 0 ∨ (inp.size : Int) ≤ rd then _ else _) = _; rw [if_neg (by omega)]
      rw [hins] at hC
      have hb : IntKind.u32.wrap (byteAt inp rd.toNat) = byteAt inp rd.toNat := by
        refine w32_in ⟨?_, ?_⟩ <;> unfold byteAt
        · omega
        · have := (inp.data.toList.getD rd.toNat 0).toNat_lt; omega
      simp only [go_sem,Nat.reduceEqDiff,Nat.reduceAdd,Nat.reduceMul,↓reduceIte,↓dreduceIte,reduceCtorEq,Nat.reduceLeDiff,Nat.reduceLT,Nat.reduceSub,Int.reduceToNat,Int.reduceLE,Int.reduceLT, hw3, hi3, gw, gi, List.set_set, List.length_set, set_map, wkc_length, k_pc, k_mem, k_rd, k_st, k_fin, k_o, k_cd, k_ok, k_wd, k_in, k_ct, k_reg ja, k_reg jb, ks_pc, ks_reg ja, ks_mem, ks_rd, ks_st, ks_fin, ks_o, one_ref, one_imm, cellT_U32, ec, hW, hok, Int.reduceEq, Int.reduceBEq, eq_false r1, eq_false r2, hb]
      repeat (refine And.intro (by omega) ?_)
      refine wset_v a (byteAt inp rd.toNat) ⟨ga1, ga2⟩ (gw _) (by rw [wkc_all]; rfl) fun r => ?_
      rw [List.set_set]
      simp only [go_sem,Nat.reduceEqDiff,Nat.reduceAdd,Nat.reduceMul,↓reduceIte,↓dreduceIte,reduceCtorEq,Nat.reduceLeDiff,Nat.reduceLT,Nat.reduceSub,Int.reduceToNat,Int.reduceLE,Int.reduceLT]
      exact hC _ _ _ (kp _) (wput hlt3 hm3 ho3 hc3 nm no nc hc5)
  · -- 24
    by_cases h : 65536 ≤ out.size
    · have hins : insM code inp ⟨pc, f, mem, rd, out, t, 0⟩ 24 a b k = (4, ⟨pc, f, mem, rd, out, t, 0⟩) := if_pos h
      rw [hins] at hC
      simp only [go_sem,Nat.reduceEqDiff,Nat.reduceAdd,Nat.reduceMul,↓reduceIte,↓dreduceIte,reduceCtorEq,Nat.reduceLeDiff,Nat.reduceLT,Nat.reduceSub,Int.reduceToNat,Int.reduceLE,Int.reduceLT, hw3, hi3, gw, gi, List.set_set, List.length_set, set_map, wkc_length, k_pc, k_mem, k_rd, k_st, k_fin, k_o, k_cd, k_ok, k_wd, k_in, k_ct, k_reg ja, k_reg jb, ks_pc, ks_reg ja, ks_mem, ks_rd, ks_st, ks_fin, ks_o, one_ref, one_imm, cellT_U32, ec, hW, hok, Int.reduceEq, Int.reduceBEq, ho3, eq_true (show (65536 : Int) ≤ (out.size : Int) by omega)]
      repeat (refine And.intro (by omega) ?_)
      exact hC _ _ _ (kp _) (wput hlt3 hm3 ho3 hc3 nm no nc hc5)
    · have hins : insM code inp ⟨pc, f, mem, rd, out, t, 0⟩ 24 a b k = (0, ⟨nxtM ⟨pc, f, mem, rd, out, t, 0⟩, f, mem, rd, out.push (byteOf (f a.toNat)), t, 0⟩) := if_neg h
      rw [hins] at hC
      have hby : (AV.val (.int .u8 (IntKind.u8.wrap ((f a.toNat).tmod 256)))) = U8 (byteOf (f a.toNat)) := by
        have h0 := (hf a.toNat).1
        have e := byteOf_eq (f a.toNat)
        show AV.val (.int .u8 (IntKind.u8.wrap ((f a.toNat).tmod 256))) = AV.val (.int .u8 (((byteOf (f a.toNat)).toNat : Nat) : Int))
        rw [e, Int.tmod_eq_emod_of_nonneg h0, IntKind.wrap_u8, IntKind.wrap_u8, Int.emod_emod]
      have holt := (List.getElem?_eq_some_iff.1 ho3).1
      have X1 : ∀ y, (H3 ++ [y])[o]? = some ⟨s1, 5, 1, out.data.toList.map U8⟩ := fun y => by rw [List.getElem?_append_left holt]; exact ho3
      have X2 : ∀ y z, ((H3 ++ [y]).set o z)[w]? = some (wkO sw (wkc pc f (.ref m sm 0 mem.length) rd so t 0 (.ref o s1 0 out.size) (insL code) (okL code) (words code) inp (.ref c sc 0 code.length))) := fun y z => by
        rw [List.getElem?_set, if_neg (fun e => no e.symm), List.getElem?_append_left hlt3]; exact hw3
      have X3 : ∀ y z u, (((H3 ++ [y]).set o z).set w u)[w]? = some u := fun y z u => by rw [List.getElem?_set, if_pos rfl, if_pos (by simp; omega)]
      have X4 : ∀ y : VObj, (H3 ++ [y])[w]? = some (wkO sw (wkc pc f (.ref m sm 0 mem.length) rd so t 0 (.ref o s1 0 out.size) (insL code) (okL code) (words code) inp (.ref c sc 0 code.length))) := fun y => by
        rw [List.getElem?_append_left hlt3]; exact hw3
      have X5 : ∀ y : VObj, (H3 ++ [y])[H3.length]? = some y := fun y => by rw [List.getElem?_append_right (Nat.le_refl _), Nat.sub_self]; rfl
      have hall1 : ∀ v, allCells [U8 v] = [U8 v] := fun v => rfl
      have hmx : (2000000 : Nat) ≤ maxLen := by decide
      have hol2 : out.data.toList.length = out.size := rfl
      have htk : (out.data.toList.map U8).take out.size = out.data.toList.map U8 := List.take_of_length_le (by rw [List.length_map]; exact Nat.le_refl _)
      simp only [go_sem,Nat.reduceEqDiff,Nat.reduceAdd,Nat.reduceMul,↓reduceIte,↓dreduceIte,reduceCtorEq,Nat.reduceLeDiff,Nat.reduceLT,Nat.reduceSub,Int.reduceToNat,Int.reduceLE,Int.reduceLT, hw3, hi3, gw, gi, List.set_set, List.length_set, set_map, wkc_length, k_pc, k_mem, k_rd, k_st, k_fin, k_o, k_cd, k_ok, k_wd, k_in, k_ct, k_reg ja, k_reg jb, ks_pc, ks_reg ja, ks_mem, ks_rd, ks_st, ks_fin, ks_o, one_ref, one_imm, cellT_U32, ec, hW, hok, Int.reduceEq, Int.reduceBEq, eq_false (show ¬ (65536 : Int) ≤ (out.size : Int) by omega), hby, ho3, X1, X2, X3, X4, X5, hall1, htk]
      repeat (refine And.intro (by first | omega | simp) ?_)
      have hp1 : (out.push (byteOf (f a.toNat))).size = out.size + 1 := ByteArray.size_push ..
      have hp2 : (out.push (byteOf (f a.toNat))).data.toList.map U8 = out.data.toList.map U8 ++ [U8 (byteOf (f a.toNat))] := by
        show (out.data.push (byteOf (f a.toNat))).toList.map U8 = _
        rw [Array.toList_push, List.map_append]; rfl
      have hc3l := (List.getElem?_eq_some_iff.1 hc3).1
      refine hC _ _ _ (kp3 _ _ _) ?_
      have := wput (code := code) (inp := inp) (H := (H3 ++ [(⟨nx + 1, 5, 1, [U8 (byteOf (f a.toNat))]⟩ : VObj)]).set o ⟨nx + 1 + 1, 5, 1, out.data.toList.map U8 ++ [U8 (byteOf (f a.toNat))]⟩) (w := w) (sw := sw) (m := m) (sm := sm) (o := o) (s1 := nx + 1 + 1) (c := c) (sc := sc) (mem := mem) (out := out.push (byteOf (f a.toNat))) (so := so) (cnt := cnt.set pc.toNat (x + 1)) (pc := IntKind.i64.wrap (pc + 1)) (f := f) (rd := rd) (st := t) (fin := 0)
        (by simp; omega) (by rw [List.getElem?_set, if_neg (fun e => nmo e.symm), List.getElem?_append_left hmlt]; exact hm3) (by rw [hp2, List.getElem?_set, if_pos rfl, if_pos (by simp; omega)]) (by rw [List.getElem?_set, if_neg (fun e => nco e.symm), List.getElem?_append_left hc3l]; exact hc3) nm no nc hc5
      rw [hp1] at this
      exact this
  · -- 25
    by_cases h : f a.toNat < k
    · have hins : insM code inp ⟨pc, f, mem, rd, out, t, 0⟩ 25 a b k = (0, ⟨nxtM ⟨pc, f, mem, rd, out, t, 0⟩, f, mem, rd, out, t, 0⟩) := if_pos h
      rw [hins] at hC
      simp only [go_sem,Nat.reduceEqDiff,Nat.reduceAdd,Nat.reduceMul,↓reduceIte,↓dreduceIte,reduceCtorEq,Nat.reduceLeDiff,Nat.reduceLT,Nat.reduceSub,Int.reduceToNat,Int.reduceLE,Int.reduceLT, hw3, hi3, gw, gi, List.set_set, List.length_set, set_map, wkc_length, k_pc, k_mem, k_rd, k_st, k_fin, k_o, k_cd, k_ok, k_wd, k_in, k_ct, k_reg ja, k_reg jb, ks_pc, ks_reg ja, ks_mem, ks_rd, ks_st, ks_fin, ks_o, one_ref, one_imm, cellT_U32, ec, hW, hok, Int.reduceEq, Int.reduceBEq, eq_false (show ¬ k ≤ f a.toNat by omega)]
      repeat (refine And.intro (by omega) ?_)
      exact hC _ _ _ (kp _) (wput hlt3 hm3 ho3 hc3 nm no nc hc5)
    · have hins : insM code inp ⟨pc, f, mem, rd, out, t, 0⟩ 25 a b k = (3, ⟨pc, f, mem, rd, out, t, 0⟩) := if_neg h
      rw [hins] at hC
      simp only [go_sem,Nat.reduceEqDiff,Nat.reduceAdd,Nat.reduceMul,↓reduceIte,↓dreduceIte,reduceCtorEq,Nat.reduceLeDiff,Nat.reduceLT,Nat.reduceSub,Int.reduceToNat,Int.reduceLE,Int.reduceLT, hw3, hi3, gw, gi, List.set_set, List.length_set, set_map, wkc_length, k_pc, k_mem, k_rd, k_st, k_fin, k_o, k_cd, k_ok, k_wd, k_in, k_ct, k_reg ja, k_reg jb, ks_pc, ks_reg ja, ks_mem, ks_rd, ks_st, ks_fin, ks_o, one_ref, one_imm, cellT_U32, ec, hW, hok, Int.reduceEq, Int.reduceBEq, eq_true (show k ≤ f a.toNat by omega)]
      repeat (refine And.intro (by omega) ?_)
      exact hC _ _ _ (kp _) (wput hlt3 hm3 ho3 hc3 nm no nc hc5)
  · -- 26
    simp only [go_sem,Nat.reduceEqDiff,Nat.reduceAdd,Nat.reduceMul,↓reduceIte,↓dreduceIte,reduceCtorEq,Nat.reduceLeDiff,Nat.reduceLT,Nat.reduceSub,Int.reduceToNat,Int.reduceLE,Int.reduceLT, hw3, hi3, gw, gi, List.set_set, List.length_set, set_map, wkc_length, k_pc, k_mem, k_rd, k_st, k_fin, k_o, k_cd, k_ok, k_wd, k_in, k_ct, k_reg ja, k_reg jb, ks_pc, ks_reg ja, ks_mem, ks_rd, ks_st, ks_fin, ks_o, one_ref, one_imm, cellT_U32, ec, hW, hok, Int.reduceEq, Int.reduceBEq]
    repeat (refine And.intro (by omega) ?_)
    exact hC _ _ _ (kp _) (wput hlt3 hm3 ho3 hc3 nm no nc hc5)
end Go.Proofs.Ytaedcpipilnpcaa
namespace Go.Proofs.Ytaedcpipilnpcaa
set_option linter.unusedSimpArgs false
set_option linter.unusedVariables false
set_option maxRecDepth 10000
open Go.V
theorem fold_stc {pc : Int} {f : Nat → Int} {m : AV} {rd : Int} {so : ByteArray} {st fin : Int} : I pc :: (regs f ++ [m, I rd, strv so, I st, I fin]) = stc pc f m rd so st fin := rfl
theorem fold_wkc {pc : Int} {f : Nat → Int} {m : AV} {rd : Int} {so : ByteArray} {st fin : Int} {o cd ok wd ct : AV} {inp : ByteArray} : stc pc f m rd so st fin ++ [o, cd, ok, wd, strv inp, ct] = wkc pc f m rd so st fin o cd ok wd inp ct := by
  simp [stc, wkc]
theorem stw17 {pc : Int} {f : Nat → Int} {m : AV} {rd : Int} {so : ByteArray} {st fin : Int} (x : AV) : List.take 17 (stc pc f m rd so st fin) ++ x :: List.drop 18 (stc pc f m rd so st fin) = stc pc f x rd so st fin := rfl
theorem stw18 {pc : Int} {f : Nat → Int} {m : AV} {rd : Int} {so : ByteArray} {st fin : Int} (x : Int) : List.take 18 (stc pc f m rd so st fin) ++ I x :: List.drop 19 (stc pc f m rd so st fin) = stc pc f m x so st fin := rfl
theorem stw20 {pc : Int} {f : Nat → Int} {m : AV} {rd : Int} {so : ByteArray} {st fin : Int} (x : Int) : List.take 20 (stc pc f m rd so st fin) ++ I x :: List.drop 21 (stc pc f m rd so st fin) = stc pc f m rd so x fin := rfl
theorem stw21 {pc : Int} {f : Nat → Int} {m : AV} {rd : Int} {so : ByteArray} {st fin : Int} (x : Int) : List.take 21 (stc pc f m rd so st fin) ++ I x :: List.drop 22 (stc pc f m rd so st fin) = stc pc f m rd so st x := rfl
theorem wkw22 {pc : Int} {f : Nat → Int} {m : AV} {rd : Int} {so : ByteArray} {st fin : Int} {o cd ok wd ct : AV} {inp : ByteArray} (x : AV) : List.take 22 (wkc pc f m rd so st fin o cd ok wd inp ct) ++ x :: List.drop 23 (wkc pc f m rd so st fin o cd ok wd inp ct) = wkc pc f m rd so st fin x cd ok wd inp ct := rfl
theorem wkw23 {pc : Int} {f : Nat → Int} {m : AV} {rd : Int} {so : ByteArray} {st fin : Int} {o cd ok wd ct : AV} {inp : ByteArray} (x : AV) : List.take 23 (wkc pc f m rd so st fin o cd ok wd inp ct) ++ x :: List.drop 24 (wkc pc f m rd so st fin o cd ok wd inp ct) = wkc pc f m rd so st fin o x ok wd inp ct := rfl
theorem wkw24 {pc : Int} {f : Nat → Int} {m : AV} {rd : Int} {so : ByteArray} {st fin : Int} {o cd ok wd ct : AV} {inp : ByteArray} (x : AV) : List.take 24 (wkc pc f m rd so st fin o cd ok wd inp ct) ++ x :: List.drop 25 (wkc pc f m rd so st fin o cd ok wd inp ct) = wkc pc f m rd so st fin o cd x wd inp ct := rfl
theorem wkw25 {pc : Int} {f : Nat → Int} {m : AV} {rd : Int} {so : ByteArray} {st fin : Int} {o cd ok wd ct : AV} {inp : ByteArray} (x : AV) : List.take 25 (wkc pc f m rd so st fin o cd ok wd inp ct) ++ x :: List.drop 26 (wkc pc f m rd so st fin o cd ok wd inp ct) = wkc pc f m rd so st fin o cd ok x inp ct := rfl
theorem wkw26 {pc : Int} {f : Nat → Int} {m : AV} {rd : Int} {so : ByteArray} {st fin : Int} {o cd ok wd ct : AV} {inp : ByteArray} (x : ByteArray) : List.take 26 (wkc pc f m rd so st fin o cd ok wd inp ct) ++ strv x :: List.drop 27 (wkc pc f m rd so st fin o cd ok wd inp ct) = wkc pc f m rd so st fin o cd ok wd x ct := rfl
theorem wkw27 {pc : Int} {f : Nat → Int} {m : AV} {rd : Int} {so : ByteArray} {st fin : Int} {o cd ok wd ct : AV} {inp : ByteArray} (x : AV) : List.take 27 (wkc pc f m rd so st fin o cd ok wd inp ct) ++ x :: List.drop 28 (wkc pc f m rd so st fin o cd ok wd inp ct) = wkc pc f m rd so st fin o cd ok wd inp x := rfl
theorem dps22 {pc : Int} {f : Nat → Int} {m : AV} {rd : Int} {so : ByteArray} {st fin : Int} : List.drop 22 (stc pc f m rd so st fin) = [] := rfl
theorem dps28 {pc : Int} {f : Nat → Int} {m : AV} {rd : Int} {so : ByteArray} {st fin : Int} {o cd ok wd ct : AV} {inp : ByteArray} : List.drop 28 (wkc pc f m rd so st fin o cd ok wd inp ct) = [] := rfl
theorem stw21' {pc : Int} {f : Nat → Int} {m : AV} {rd : Int} {so : ByteArray} {st fin : Int} (x : Int) : List.take 21 (stc pc f m rd so st fin) ++ [I x] = stc pc f m rd so st x := rfl
theorem wkw27' {pc : Int} {f : Nat → Int} {m : AV} {rd : Int} {so : ByteArray} {st fin : Int} {o cd ok wd ct : AV} {inp : ByteArray} (x : AV) : List.take 27 (wkc pc f m rd so st fin o cd ok wd inp ct) ++ [x] = wkc pc f m rd so st fin o cd ok wd inp x := rfl
theorem cntL_stays {code : List Int} {inp : ByteArray} {σ : S} {k : Nat} (h : (runN code inp σ k).fin ≠ 0) : ∀ d, cntL code inp σ (k + d) = cntL code inp σ k
  | 0 => rfl
  | d + 1 => by
    have hd : doneF code (runN code inp σ (k + d)) = false := by rw [runN_stays h d]; simp [doneF, h]
    show cntL code inp σ (k + d + 1) = _
    simp only [cntL, hd, Bool.false_eq_true, if_false]
    exact cntL_stays h d
structure RQR where
  k : Nat
  H : List VObj
  nx : Nat
theorem insM_out (code : List Int) (inp : ByteArray) (s : S) (op a b c : Int) (h : s.out.size ≤ 65536) : (insM code inp s op a b c).2.out.size ≤ 65536 := by
  unfold insM
  iterate 8 (refine ite_ind (P := fun p : Int × S => p.2.out.size ≤ 65536) (fun _ => h) fun _ => ?_)
  iterate 3 (refine ite_ind (P := fun p : Int × S => p.2.out.size ≤ 65536) (fun _ => ite_ind (P := fun p : Int × S => p.2.out.size ≤ 65536) (fun _ => h) fun _ => h) fun _ => ?_)
  refine ite_ind (P := fun p : Int × S => p.2.out.size ≤ 65536) (fun _ => ?_) fun _ => ?_
  · exact ite_ind (P := fun x : S => x.out.size ≤ 65536) (fun _ => h) fun _ => h
  refine ite_ind (P := fun p : Int × S => p.2.out.size ≤ 65536) (fun _ => ite_ind (P := fun p : Int × S => p.2.out.size ≤ 65536) (fun _ => h) fun h2 => ?_) fun _ => ?_
  · show (s.out.push _).size ≤ _
    rw [ByteArray.size_push]; omega
  refine ite_ind (P := fun p : Int × S => p.2.out.size ≤ 65536) (fun _ => ite_ind (P := fun p : Int × S => p.2.out.size ≤ 65536) (fun _ => h) fun _ => h) fun _ => ?_
  refine ite_ind (P := fun p : Int × S => p.2.out.size ≤ 65536) (fun _ => h) fun _ => ?_
  exact ite_ind (P := fun p : Int × S => p.2.out.size ≤ 65536) (fun _ => h) fun _ => h
theorem stepR_out (code : List Int) (inp : ByteArray) (s : S) (h : s.out.size ≤ 65536) : (stepF code inp s).out.size ≤ 65536 := by
  unfold stepF wordF
  refine ite_ind (P := fun x : S => x.out.size ≤ 65536) (fun _ => ?_) fun _ => h
  refine ite_ind (P := fun x : S => x.out.size ≤ 65536) (fun _ => h) fun _ => ?_
  refine ite_ind (P := fun x : S => x.out.size ≤ 65536) (fun _ => ?_) fun _ => h
  exact ite_ind (P := fun x : S => x.out.size ≤ 65536) (fun _ => insM_out _ _ _ _ _ _ _ h) fun _ => insM_out _ _ _ _ _ _ _ h
theorem runR_out {code : List Int} {inp : ByteArray} {s : S} (h : s.out.size ≤ 65536) : ∀ k, (runN code inp s k).out.size ≤ 65536
  | 0 => h
  | k + 1 => stepR_out _ _ _ (runR_out h k)
theorem refrun_tail (code : List Int) (inp : ByteArray) (σ : S) (fuel : Int) (w sw : Nat) (env : List (Nat × AV)) (H : List VObj) (nx : Nat) (cs : List AV) (C : AV → Prop)
    (hcode : ∀ x ∈ code, In32 x) (hcl : code.length ≤ 1000000) (hi : inp.size ≤ 1000000000) (hws : Wf σ) (hl : σ.mem.length ≤ 1000000) (hol : σ.out.size ≤ 65536) (hfu : fuel ≤ 4000000000000000000)
    (he3 : get env 3 = I fuel) (he8 : get env 8 = .ptr 2 2 0) (he13 : get env 13 = .ptr w sw 0) (hcs : cs.length = 22) (h2 : H[2]? = some ⟨2, 91, 1, cs⟩)
    (hA : WAt code inp H w sw σ ⟨#[]⟩ (cntL code inp σ 0)) (hC : C (.tup [stA (runN code inp σ fuel.toNat), ints (cntL code inp σ fuel.toNat)])) :
    VW Try.prog t_scref10_run (retQ Try.prog [.cell 8 true 22, .tmp 9] fun r H nx => ∃ y, Frz 0 H nx r y ∧ C y) ⟨env, H, nx⟩ := by
  have hwf := runN_wf (code := code) (inp := inp) hcode hws
  have hcnt := cntL_le code inp σ
  simp only [go_sem,Nat.reduceEqDiff,Nat.reduceAdd,Nat.reduceMul,↓reduceIte,↓dreduceIte,reduceCtorEq,Nat.reduceLeDiff,Nat.reduceLT,Nat.reduceSub,Int.reduceToNat,Int.reduceLE,Int.reduceLT, t_scref10_run]
  refine VW_loop (fun q : RQR => ⟨[(3, I fuel), (8, .ptr 2 2 0), (13, .ptr w sw 0), (14, I q.k)], q.H, q.nx⟩)
    (fun q => q.k ≤ fuel.toNat ∧ WAt code inp q.H w sw (runN code inp σ q.k) ⟨#[]⟩ (cntL code inp σ q.k) ∧ q.H[2]? = some ⟨2, 91, 1, cs⟩) (fun q => fuel.toNat - q.k)
    ⟨0, H, nx⟩ (Wk.mk (fun p hp => ?_) ⟨[], (List.append_nil _).symm⟩ (Nat.le_refl _)) ⟨Nat.zero_le _, hA, h2⟩ ?_
  · simp only [List.mem_cons, List.not_mem_nil, or_false] at hp
    rcases hp with rfl | rfl | rfl | rfl
    · simpa [get_cons] using he3
    · simpa [get_cons] using he8
    · simpa [get_cons] using he13
    · simp [get_cons]
  clear hA h2 he3 he8 he13
  rintro ⟨k, H, nx⟩ ⟨h1, hA, h2⟩
  simp only at h1 hA h2
  have hA' := hA
  obtain ⟨m, sm, o, s1, c, sc, hw, hm, ho, hc, hcc⟩ := hA'
  have fin_ : runN code inp σ fuel.toNat = runN code inp σ k → cntL code inp σ fuel.toNat = cntL code inp σ k → (k : Int) < fuel → True := fun _ _ _ => trivial
  have hlt := (List.getElem?_eq_some_iff.1 hw).1
  have h2lt := (List.getElem?_eq_some_iff.1 h2).1
  have nw2 : w ≠ 2 := fun e => by rw [e, h2] at hw; simp at hw
  have nm2 : m ≠ 2 := fun e => by rw [e, h2] at hm; simp at hm
  have no2 : o ≠ 2 := fun e => by rw [e, h2] at ho; simp at ho
  have nc2 : c ≠ 2 := fun e => by rw [e, h2] at hc; simp at hc
  have nm : w ≠ m := fun e => by rw [← e, hw] at hm; simp at hm
  have nc : w ≠ c := fun e => by rw [← e, hw] at hc; simp at hc
  have gw : ∀ x, (H.set w x)[w]? = some x := fun x => by rw [List.getElem?_set, if_pos rfl, if_pos hlt]
  have g2 : ∀ x, (H.set w x)[2]? = some ⟨2, 91, 1, cs⟩ := fun x => by rw [List.getElem?_set, if_neg nw2]; exact h2
  have g3 : ∀ x y, ((H.set w x).set 2 y)[w]? = some x := fun x y => by rw [List.getElem?_set, if_neg (fun e => nw2 e.symm)]; exact gw x
  have g4 : ∀ x y, ((H.set w x).set 2 y)[2]? = some y := fun x y => by rw [List.getElem?_set, if_pos rfl, if_pos (by rw [List.length_set]; exact h2lt)]
  have g5 : ∀ x y, ((H.set w x).set 2 y)[m]? = some ⟨sm, 30, 1, (runN code inp σ k).mem.map U32⟩ := fun x y => by
    rw [List.getElem?_set, if_neg (fun e => nm2 e.symm), List.getElem?_set, if_neg nm]; exact hm
  have g6 : ∀ x y, ((H.set w x).set 2 y)[c]? = some ⟨sc, 3, 1, (cntL code inp σ k).map I⟩ := fun x y => by
    rw [List.getElem?_set, if_neg (fun e => nc2 e.symm), List.getElem?_set, if_neg nc]; exact hc
  have htk : ((runN code inp σ k).out.data.toList.map U8).take (runN code inp σ k).out.size = (runN code inp σ k).out.data.toList.map U8 := List.take_of_length_le (by rw [List.length_map]; exact Nat.le_refl _)
  have hstr : (⟨(runN code inp σ k).out.data.toList.toArray⟩ : ByteArray) = (runN code inp σ k).out := bytes_ext (by simp)
  have hdrop : cs.drop 22 = [] := List.drop_eq_nil_of_le (by omega)
  obtain ⟨w1, w2, _⟩ := hwf k
  have w3 := runR_out (code := code) (inp := inp) hol k
  by_cases c1 : (k : Int) < fuel
  · by_cases c2 : (runN code inp σ k).fin = 0
    · simp only [go_sem,Nat.reduceEqDiff,Nat.reduceAdd,Nat.reduceMul,↓reduceIte,↓dreduceIte,reduceCtorEq,Nat.reduceLeDiff,Nat.reduceLT,Nat.reduceSub,Int.reduceToNat,Int.reduceLE,Int.reduceLT, hw, eq_true c1, eq_true c2, wkc_length, k_state, k_pc, k_fin, k_so, k_o, k_ct, ks_so, stc_length, one_ref, one_imm]
      refine wstep_v code inp (runN code inp σ k) ⟨#[]⟩ (cntL code inp σ k) H nx w sw _ hcode hcl hi w1 (by omega) (by omega) c2 (fun x hx => by have := hcnt k x hx; omega) hA fun r H' nx' hk hA' => ?_
      simp only [go_sem,Nat.reduceEqDiff,Nat.reduceAdd,Nat.reduceMul,↓reduceIte,↓dreduceIte,reduceCtorEq,Nat.reduceLeDiff,Nat.reduceLT,Nat.reduceSub,Int.reduceToNat,Int.reduceLE,Int.reduceLT]
      rw [i64_in (by omega) (by omega)]
      exact ⟨⟨k + 1, H', nx'⟩, ⟨by simp only; omega, hA', hk 2 _ h2 rfl⟩, by simp only; omega, Wk.mk (by simp [get_cons]) ⟨[], (List.append_nil _).symm⟩ (Nat.le_refl _)⟩
    · have e1 := runN_stays c2 (fuel.toNat - k)
      have e2 := cntL_stays c2 (fuel.toNat - k)
      rw [show k + (fuel.toNat - k) = fuel.toNat by omega] at e1 e2
      rw [e1, e2] at hC
      simp only [go_sem,Nat.reduceEqDiff,Nat.reduceAdd,Nat.reduceMul,↓reduceIte,↓dreduceIte,reduceCtorEq,Nat.reduceLeDiff,Nat.reduceLT,Nat.reduceSub,Int.reduceToNat,Int.reduceLE,Int.reduceLT, hw, ho, gw, g2, g3, g4, hdrop, hcs, htk, hstr, s_all, stc_all, eq_true c1, eq_false c2, wkc_length, k_state, k_pc, k_fin, k_so, k_o, k_ct, ks_so, stc_length, one_ref, one_imm]
      refine ⟨?_, ?_⟩
      all_goals
        refine ⟨_, Frz.tup ⟨_, _, rfl, stA_frz' (mem := (runN code inp σ k).mem) (Frz.ref (Nat.zero_le _) (g5 _ _) rfl rfl ?_ ?_), _, _, rfl, frz_ints (l := cntL code inp σ k) (Nat.zero_le _) (g6 _ _) hcc.symm, rfl⟩, hC⟩
        · rw [List.all_eq_true]; intro y hy; obtain ⟨x, _, rfl⟩ := List.mem_map.1 hy; rfl
        · rw [List.drop_zero, List.take_of_length_le (by rw [List.length_map]; exact Nat.le_refl _)]
          exact FrzL.pure (by rw [List.all_eq_true]; intro y hy; obtain ⟨x, _, rfl⟩ := List.mem_map.1 hy; rfl)
  · have e : fuel.toNat = k := by omega
    rw [e] at hC
    simp only [go_sem,Nat.reduceEqDiff,Nat.reduceAdd,Nat.reduceMul,↓reduceIte,↓dreduceIte,reduceCtorEq,Nat.reduceLeDiff,Nat.reduceLT,Nat.reduceSub,Int.reduceToNat,Int.reduceLE,Int.reduceLT, hw, ho, gw, g2, g3, g4, hdrop, hcs, htk, hstr, s_all, stc_all, eq_false c1, wkc_length, k_state, k_pc, k_fin, k_so, k_o, k_ct, ks_so, stc_length, one_ref, one_imm]
    refine ⟨?_, ?_⟩
    all_goals
      refine ⟨_, Frz.tup ⟨_, _, rfl, stA_frz' (mem := (runN code inp σ k).mem) (Frz.ref (Nat.zero_le _) (g5 _ _) rfl rfl ?_ ?_), _, _, rfl, frz_ints (l := cntL code inp σ k) (Nat.zero_le _) (g6 _ _) hcc.symm, rfl⟩, hC⟩
      · rw [List.all_eq_true]; intro y hy; obtain ⟨x, _, rfl⟩ := List.mem_map.1 hy; rfl
      · rw [List.drop_zero, List.take_of_length_le (by rw [List.length_map]; exact Nat.le_refl _)]
        exact FrzL.pure (by rw [List.all_eq_true]; intro y hy; obtain ⟨x, _, rfl⟩ := List.mem_map.1 hy; rfl)
theorem refrun_c (code : List Int) (data : Int) (inp : ByteArray) (σ : S) (fuel : Int) (hcode : ∀ x ∈ code, In32 x) (hcl : code.length ≤ 1000000) (hi : inp.size ≤ 1000000000) (hws : Wf σ) (hl : σ.mem.length ≤ 1000000) (hol : σ.out.size ≤ 65536) (hfu : fuel ≤ 4000000000000000000) :
    Contract Try.prog 44 [imgA code data, strv inp, stA σ, I fuel] (fun r => r = .tup [stA (runN code inp σ fuel.toNat), ints (cntL code inp σ fuel.toNat)]) := by
  refine Contract.of_call (VCall.of_body hmix e_scref10_run (by simp) ?_)
  have hmx : (2000000 : Nat) ≤ maxLen := by decide
  have hall : allCells (σ.mem.map U32) = σ.mem.map U32 := allCells_map1 (fun _ => rfl) σ.mem
  have hrep : (List.replicate code.length [I 0]).flatten = (List.replicate code.length (0 : Int)).map I := by
    induction code.length with
    | zero => rfl
    | succ n ih => simp only [List.replicate_succ, List.flatten_cons, ih, List.map_cons]; rfl
  simp only [go_sem,Nat.reduceEqDiff,Nat.reduceAdd,Nat.reduceMul,↓reduceIte,↓dreduceIte,reduceCtorEq,Nat.reduceLeDiff,Nat.reduceLT,Nat.reduceSub,Int.reduceToNat,Int.reduceLE,Int.reduceLT, g_scref10_run, s_all, s_pc, s_regs, s_mem, s_rd, s_out, s_st, s_fin, stc_length, stc_all, one_imm, one_ref, regs_length, regs_all, wkc_length, wkc_all, fold_stc, fold_wkc, List.append_assoc, hall, hrep, Nat.reduceLeDiff, stw17, stw18, stw20, stw21, wkw22, wkw23, wkw24, wkw25, wkw26, wkw27, dps22, dps28, stw21', wkw27']
  refine VCall.of_contract (refcode_c code data hcode hcl) (SleL.pure rfl) fun x hx => ?_
  subst hx
  simp only [go_sem,Nat.reduceEqDiff,Nat.reduceAdd,Nat.reduceMul,↓reduceIte,↓dreduceIte,reduceCtorEq,Nat.reduceLeDiff,Nat.reduceLT,Nat.reduceSub,Int.reduceToNat,Int.reduceLE,Int.reduceLT, s_all, s_pc, s_regs, s_mem, s_rd, s_out, s_st, s_fin, stc_length, stc_all, one_imm, one_ref, regs_length, regs_all, wkc_length, wkc_all, fold_stc, fold_wkc, List.append_assoc, hall, hrep, Nat.reduceLeDiff, stw17, stw18, stw20, stw21, wkw22, wkw23, wkw24, wkw25, wkw26, wkw27, dps22, dps28, stw21', wkw27']
  repeat' (with_reducible refine And.intro ?_ ?_)
  all_goals first
    | (intro y hy; obtain ⟨x, _, rfl⟩ := List.mem_map.1 hy; rfl)
    | omega
    | (refine refrun_tail code inp σ fuel _ _ _ _ _ _ (fun y => y = .tup [stA (runN code inp σ fuel.toNat), ints (cntL code inp σ fuel.toNat)]) hcode hcl hi hws hl hol hfu rfl rfl rfl ?_ rfl ⟨_, _, _, _, _, _, rfl, rfl, rfl, rfl, cntL_len ..⟩ rfl
       rfl)
    | skip
end Go.Proofs.Ytaedcpipilnpcaa
namespace Go.Proofs.Ytaedcpipilnpcaa
set_option linter.unusedSimpArgs false
set_option linter.unusedVariables false
set_option maxRecDepth 10000
open Go.V
theorem refgo_c (code : List Int) (data : Int) (inp : ByteArray) (σ : S) (fuel : Int) (hcode : ∀ x ∈ code, In32 x) (hcl : code.length ≤ 1000000) (hi : inp.size ≤ 1000000000) (hws : Wf σ) (hl : σ.mem.length ≤ 1000000) (hol : σ.out.size ≤ 65536) (hfu : fuel ≤ 4000000000000000000) :
    Contract Try.prog 28 [imgA code data, strv inp, stA σ, I fuel] (fun r => r = stA (runN code inp σ fuel.toNat)) := by
  refine Contract.of_call (VCall.of_body hmix f_scref10_Go (by simp) ?_)
  simp only [go_sem,Nat.reduceEqDiff,Nat.reduceAdd,Nat.reduceMul,↓reduceIte,↓dreduceIte,reduceCtorEq,Nat.reduceLeDiff,Nat.reduceLT,Nat.reduceSub,Int.reduceToNat,Int.reduceLE,Int.reduceLT, c_scref10_Go, s_all, s_zero, s_put, s_put', stc_length, stc_all, one_imm, one_ref]
  refine VCall.of_contract (refrun_c code data inp σ fuel hcode hcl hi hws hl hol hfu) (SleL.pure rfl) fun x hx => ?_
  subst hx
  simp only [go_sem,Nat.reduceEqDiff,Nat.reduceAdd,Nat.reduceMul,↓reduceIte,↓dreduceIte,reduceCtorEq,Nat.reduceLeDiff,Nat.reduceLT,Nat.reduceSub,Int.reduceToNat,Int.reduceLE,Int.reduceLT, s_all, s_zero, s_put, s_put', stc_length, stc_all, one_imm, one_ref]
  exact ⟨_, Frz.pure rfl, rfl⟩
theorem refRun_c (code : List Int) (data : Int) (inp : ByteArray) (fuel : Int) (hcode : ∀ x ∈ code, In32 x) (hcl : code.length ≤ 1000000) (hi : inp.size ≤ 1000000000) (hfu : fuel ≤ 4000000000000000000) :
    Contract Try.prog 13 [imgA code data, strv inp, I fuel] (fun r => r = runA code data inp fuel) := by
  have hs := start_len data
  have ho : (startF data).out.size = 0 := rfl
  refine Contract.of_call (VCall.of_body hmix f_scref10_Run (by simp) ?_)
  simp only [go_sem,Nat.reduceEqDiff,Nat.reduceAdd,Nat.reduceMul,↓reduceIte,↓dreduceIte,reduceCtorEq,Nat.reduceLeDiff,Nat.reduceLT,Nat.reduceSub,Int.reduceToNat,Int.reduceLE,Int.reduceLT, c_scref10_Run, one_imm]
  refine ECall.of (refstart_c code data) (SleL.pure rfl) ⟨_, fun _ => Iff.rfl⟩ fun x hx => ?_
  subst hx
  simp only [go_sem,Nat.reduceEqDiff,Nat.reduceAdd,Nat.reduceMul,↓reduceIte,↓dreduceIte,reduceCtorEq,Nat.reduceLeDiff,Nat.reduceLT,Nat.reduceSub,Int.reduceToNat,Int.reduceLE,Int.reduceLT, one_imm]
  refine ECall.of (refgo_c code data inp (startF data) fuel hcode hcl hi (wf_start data) (by omega) (by omega) (by omega)) (SleL.pure rfl) ⟨_, fun _ => Iff.rfl⟩ fun x hx => ?_
  subst hx
  show _
  unfold runA endF runF
  generalize runN code inp (startF data) fuel.toNat = ρ
  by_cases h : ρ.fin = 0
  · simp only [go_sem,Nat.reduceEqDiff,Nat.reduceAdd,Nat.reduceMul,↓reduceIte,↓dreduceIte,reduceCtorEq,Nat.reduceLeDiff,Nat.reduceLT,Nat.reduceSub,Int.reduceToNat,Int.reduceLE,Int.reduceLT, one_imm, s_zero, s_put, s_put', s_all, stc_length, stc_all, s_fin, s_out, s_st, ss_fin, eq_true h, if_pos h]
    exact ⟨_, Frz.pure rfl, rfl⟩
  · simp only [go_sem,Nat.reduceEqDiff,Nat.reduceAdd,Nat.reduceMul,↓reduceIte,↓dreduceIte,reduceCtorEq,Nat.reduceLeDiff,Nat.reduceLT,Nat.reduceSub,Int.reduceToNat,Int.reduceLE,Int.reduceLT, one_imm, s_zero, s_put, s_put', s_all, stc_length, stc_all, s_fin, s_out, s_st, ss_fin, eq_false h, if_neg h]
    exact ⟨_, Frz.pure rfl, rfl⟩
end Go.Proofs.Ytaedcpipilnpcaa
namespace Go.Proofs.Ytaedcpipilnpcaa
set_option linter.unusedSimpArgs false
set_option linter.unusedVariables false
set_option maxRecDepth 10000
open Go.V
theorem hndL_step (s : SP) (l : List SI) {k : Nat} (h : k < l.length) : hndL s (l.take (k + 1)) = hndL s (l.take k) + hndI s (l.getD k default) := by
  unfold hndL
  have e : l.take (k + 1) = l.take k ++ [l.getD k default] := by rw [List.take_add_one]; simp [List.getD, List.getElem?_eq_getElem h]
  rw [e]; simp
theorem par_in {s : SP} (h : RightP s) (f : Nat) : 0 ≤ (s.fn f).params ∧ (s.fn f).params ≤ 32768 := by
  by_cases hf : f < s.funcs.length
  · obtain ⟨k1, k2, k3, k4, k5⟩ := (h.fn f hf).h
    have := h.w1
    omega
  · unfold SP.fn; rw [List.getD, List.getElem?_eq_none (by omega)]; exact ⟨by decide, by decide⟩
theorem hndI_le {s : SP} (h : RightP s) (x : SI) : hndI s x ≤ 32768 := by
  unfold hndI
  split
  · have := par_in h x.a.toNat; omega
  · omega
theorem hndL_le {s : SP} (h : RightP s) : ∀ l : List SI, hndL s l ≤ 32768 * l.length
  | [] => by simp [hndL]
  | x :: l => by
    have := hndL_le h l
    have := hndI_le h x
    simp only [hndL, List.map_cons, List.sum_cons, List.length_cons] at *
    omega
theorem hndT_le {s : SP} (h : RightP s) : ∀ l : List SF, totS (fun g => hndL s g.code) l ≤ 32768 * sizeS l
  | [] => by simp [totS, sizeS]
  | g :: l => by
    have := hndT_le h l
    have := hndL_le h g.code
    simp only [totS, sizeS, List.map_cons, List.sum_cons] at *
    omega
theorem handed_c (s : SP) (hR : RightP s) (hz : sizeS s.funcs ≤ 2000) : Contract Try.prog 23 [spA s] (fun r => r = I (hndN s : Nat)) := by
  refine Contract.of_call (VCall.of_body hmix f_sclaw22_handed (by simp) ?_)
  have hn1 := hR.n1
  have hb : hndN s ≤ 32768 * sizeS s.funcs := hndT_le hR s.funcs
  simp only [go_sem,Nat.reduceEqDiff,Nat.reduceAdd,Nat.reduceMul,↓reduceIte,↓dreduceIte,reduceCtorEq,Nat.reduceLeDiff,Nat.reduceLT,Nat.reduceSub,Int.reduceToNat,Int.reduceLE,Int.reduceLT, c_sclaw22_handed, one_imm, one_ref, List.length_map]
  refine VW_loop (fun q : Nat × Nat => ⟨[(1, .ptr 0 0 0), (3, I (totS (fun g => hndL s g.code) (s.funcs.take q.1) : Nat)), (4, I q.1)], [⟨0, 24, 1, [I s.words, fnsA s.funcs]⟩], q.2⟩) (fun q => q.1 ≤ s.funcs.length) (fun q => s.funcs.length - q.1) (0, 1)
    (Wk.mk (by simp [get_cons, totS]) ⟨[], rfl⟩ (Nat.le_refl _)) (Nat.zero_le _) ?_
  rintro ⟨k, nx⟩ hk
  simp only at hk
  by_cases hlt : k < s.funcs.length
  · have hst := totS_step (fun g => hndL s g.code) s.funcs hlt
    have hle := totS_take (fun g => hndL s g.code) s.funcs (k + 1)
    have hfit := (hR.fn k hlt).fits
    have hcl := size_one s k
    have hfd : s.funcs.getD k default = s.fn k := rfl
    simp only [go_sem,Nat.reduceEqDiff,Nat.reduceAdd,Nat.reduceMul,↓reduceIte,↓dreduceIte,reduceCtorEq,Nat.reduceLeDiff,Nat.reduceLT,Nat.reduceSub,Int.reduceToNat,Int.reduceLE,Int.reduceLT, one_imm, one_ref, List.length_map, eq_true (show (k : Int) < s.funcs.length by omega)]
    refine VW_loop (fun q : Nat × Nat => ⟨[(1, .ptr 0 0 0), (3, I (totS (fun g => hndL s g.code) (s.funcs.take k) + hndL s ((s.fn k).code.take q.1) : Nat)), (4, I k), (5, I q.1)], [⟨0, 24, 1, [I s.words, fnsA s.funcs]⟩], q.2⟩) (fun q => q.1 ≤ (s.fn k).code.length) (fun q => (s.fn k).code.length - q.1) (0, nx)
      (Wk.mk (by simp [get_cons, hndL]) ⟨[], rfl⟩ (Nat.le_refl _)) (Nat.zero_le _) ?_
    rintro ⟨i, nx⟩ hi
    simp only at hi
    by_cases hil : i < (s.fn k).code.length
    · have hsi := hndL_step s (s.fn k).code hil
      have hx : (s.fn k).code.getD i default = s.ins k i := rfl
      have hF := hfit i hil
      have hle2 := hndL_take (s := s) (s.fn k).code (i + 1)
      rw [hfd] at hst
      replace hst : totS (fun g => hndL s g.code) (s.funcs.take (k + 1)) = totS (fun g => hndL s g.code) (s.funcs.take k) + hndL s (s.fn k).code := hst
      have hN : totS (fun g => hndL s g.code) s.funcs = hndN s := rfl
      rw [hx] at hsi
      have w1 : IntKind.i64.wrap ((i : Int) + 1) = ((i + 1 : Nat) : Int) := by rw [i64_in (by omega) (by omega)]; omega
      by_cases e : (s.ins k i).op = 10
      · have ha : 0 ≤ (s.ins k i).a ∧ (s.ins k i).a < (k : Int) := by
          obtain ⟨_, _, h3⟩ := hF
          omega
        have hp := par_in hR (s.ins k i).a.toNat
        have hi2 : hndI s (s.ins k i) = (s.fn (s.ins k i).a.toNat).params.toNat := by unfold hndI; rw [if_pos e]
        have hfa : s.funcs.getD (s.ins k i).a.toNat default = s.fn (s.ins k i).a.toNat := rfl
        have w2 : IntKind.i64.wrap (((totS (fun g => hndL s g.code) (s.funcs.take k) + hndL s ((s.fn k).code.take i) : Nat) : Int) + (s.fn (s.ins k i).a.toNat).params) = ((totS (fun g => hndL s g.code) (s.funcs.take k) + hndL s ((s.fn k).code.take (i + 1)) : Nat) : Int) := by
          rw [i64_in (by omega) (by omega)]; omega
        simp only [go_sem,Nat.reduceEqDiff,Nat.reduceAdd,Nat.reduceMul,↓reduceIte,↓dreduceIte,reduceCtorEq,Nat.reduceLeDiff,Nat.reduceLT,Nat.reduceSub,Int.reduceToNat,Int.reduceLE,Int.reduceLT, one_imm, one_ref, List.length_map, hfd, hx, hfa, eq_true (show (i : Int) < (s.fn k).code.length by omega), eq_true e, w1, w2]
        repeat ((with_reducible refine And.intro ?_ ?_); · first | omega | (simp; omega))
        exact ⟨(i + 1, nx + 1), by simp only; omega, by simp only; omega, Wk.mk (by simp [get_cons]) ⟨[_], rfl⟩ (Nat.le_refl _)⟩
      · have hi2 : hndI s (s.ins k i) = 0 := by unfold hndI; rw [if_neg e]
        simp only [go_sem,Nat.reduceEqDiff,Nat.reduceAdd,Nat.reduceMul,↓reduceIte,↓dreduceIte,reduceCtorEq,Nat.reduceLeDiff,Nat.reduceLT,Nat.reduceSub,Int.reduceToNat,Int.reduceLE,Int.reduceLT, one_imm, one_ref, List.length_map, hfd, hx, eq_true (show (i : Int) < (s.fn k).code.length by omega), eq_false e, w1]
        repeat ((with_reducible refine And.intro ?_ ?_); · first | omega | (simp; omega))
        exact ⟨(i + 1, nx + 1), by simp only; omega, by simp only; omega, Wk.mk (by simp [get_cons]; omega) ⟨[_], rfl⟩ (Nat.le_refl _)⟩
    · obtain rfl : i = (s.fn k).code.length := by omega
      have w1 : IntKind.i64.wrap ((k : Int) + 1) = ((k + 1 : Nat) : Int) := by rw [i64_in (by omega) (by omega)]; omega
      simp only [go_sem,Nat.reduceEqDiff,Nat.reduceAdd,Nat.reduceMul,↓reduceIte,↓dreduceIte,reduceCtorEq,Nat.reduceLeDiff,Nat.reduceLT,Nat.reduceSub,Int.reduceToNat,Int.reduceLE,Int.reduceLT, one_imm, one_ref, List.length_map, hfd, eq_false (show ¬ ((s.fn k).code.length : Int) < (s.fn k).code.length by omega), w1]
      repeat ((with_reducible refine And.intro ?_ ?_); · first | omega | (simp; omega))
      refine ⟨(k + 1, nx), by simp only; omega, by simp only; omega, Wk.mk ?_ ⟨[], by simp⟩ (Nat.le_refl _)⟩
      rw [List.take_of_length_le (Nat.le_refl _)]
      rw [hfd] at hst
      simp [get_cons, hst]
  · obtain rfl : k = s.funcs.length := by omega
    simp only [go_sem,Nat.reduceEqDiff,Nat.reduceAdd,Nat.reduceMul,↓reduceIte,↓dreduceIte,reduceCtorEq,Nat.reduceLeDiff,Nat.reduceLT,Nat.reduceSub,Int.reduceToNat,Int.reduceLE,Int.reduceLT, one_imm, one_ref, List.length_map, eq_false (show ¬ (s.funcs.length : Int) < s.funcs.length by omega)]
    rw [List.take_of_length_le (Nat.le_refl _)]
    exact ⟨_, Frz.pure rfl, rfl⟩
theorem fewL_c (s : SP) (h : SPOk s) : Contract Try.prog 8 [spA s] (fun r => ∃ x, r = B x ∧ (x = true → SzP s ∧ s.words ≤ 300 ∧ FitP s)) := by
  refine Contract.of_call (VCall.of_body hmix f_sclaw22_few (by simp) ?_)
  simp only [go_sem,Nat.reduceEqDiff,Nat.reduceAdd,Nat.reduceMul,↓reduceIte,↓dreduceIte,reduceCtorEq,Nat.reduceLeDiff,Nat.reduceLT,Nat.reduceSub,Int.reduceToNat,Int.reduceLE,Int.reduceLT, c_sclaw22_few, one_imm, one_ref]
  refine VCall.of_contract (few_c s h 300) (SleL.pure rfl) fun r hr => ?_
  subst hr
  cases hf : fewB s 300 with
  | false =>
    simp only [go_sem,Nat.reduceEqDiff,Nat.reduceAdd,Nat.reduceMul,↓reduceIte,↓dreduceIte,reduceCtorEq,Nat.reduceLeDiff,Nat.reduceLT,Nat.reduceSub,Int.reduceToNat,Int.reduceLE,Int.reduceLT, one_imm, one_ref]
    exact ⟨_, Frz.pure rfl, false, rfl, nofun⟩
  | true =>
    obtain ⟨hin, hfit⟩ := small_in h (n := 300) (by decide) hf
    have hsz : sizeS s.funcs ≤ 300 := by
      obtain ⟨_, h2⟩ := of_decide_eq_true hf
      omega
    by_cases h1 : s.words ≤ 300
    · simp only [go_sem,Nat.reduceEqDiff,Nat.reduceAdd,Nat.reduceMul,↓reduceIte,↓dreduceIte,reduceCtorEq,Nat.reduceLeDiff,Nat.reduceLT,Nat.reduceSub,Int.reduceToNat,Int.reduceLE,Int.reduceLT, one_imm, one_ref, eq_true h1]
      refine VCall.of_contract (r20right_c s hin h.w fun f => ⟨(h.at_ f).s, (h.at_ f).f⟩) (SleL.pure rfl) fun r hr => ?_
      subst hr
      cases hr : rightB s with
      | false =>
        simp only [go_sem,Nat.reduceEqDiff,Nat.reduceAdd,Nat.reduceMul,↓reduceIte,↓dreduceIte,reduceCtorEq,Nat.reduceLeDiff,Nat.reduceLT,Nat.reduceSub,Int.reduceToNat,Int.reduceLE,Int.reduceLT, one_imm, one_ref]
        exact ⟨_, Frz.pure rfl, false, rfl, nofun⟩
      | true =>
        have hR := rightB_iff.1 hr
        simp only [go_sem,Nat.reduceEqDiff,Nat.reduceAdd,Nat.reduceMul,↓reduceIte,↓dreduceIte,reduceCtorEq,Nat.reduceLeDiff,Nat.reduceLT,Nat.reduceSub,Int.reduceToNat,Int.reduceLE,Int.reduceLT, one_imm, one_ref]
        refine VCall.of_contract (handed_c s hR (by omega)) (SleL.pure rfl) fun r hr => ?_
        subst hr
        by_cases h2 : ((hndN s : Nat) : Int) ≤ 2000
        · simp only [go_sem,Nat.reduceEqDiff,Nat.reduceAdd,Nat.reduceMul,↓reduceIte,↓dreduceIte,reduceCtorEq,Nat.reduceLeDiff,Nat.reduceLT,Nat.reduceSub,Int.reduceToNat,Int.reduceLE,Int.reduceLT, one_imm, one_ref, eq_true h2]
          exact ⟨_, Frz.pure rfl, true, rfl, fun _ => ⟨⟨hR, (hfit hR).1, by omega, Nat.le_trans hsz (by decide), by omega⟩, h1, hfit hR⟩⟩
        · simp only [go_sem,Nat.reduceEqDiff,Nat.reduceAdd,Nat.reduceMul,↓reduceIte,↓dreduceIte,reduceCtorEq,Nat.reduceLeDiff,Nat.reduceLT,Nat.reduceSub,Int.reduceToNat,Int.reduceLE,Int.reduceLT, one_imm, one_ref, eq_false h2]
          exact ⟨_, Frz.pure rfl, false, rfl, nofun⟩
    · simp only [go_sem,Nat.reduceEqDiff,Nat.reduceAdd,Nat.reduceMul,↓reduceIte,↓dreduceIte,reduceCtorEq,Nat.reduceLeDiff,Nat.reduceLT,Nat.reduceSub,Int.reduceToNat,Int.reduceLE,Int.reduceLT, one_imm, one_ref, eq_false h1]
      exact ⟨_, Frz.pure rfl, false, rfl, nofun⟩
theorem ends_c (a b : Int) (s t : ByteArray) (m n : Int) : Contract Try.prog 20 [.agg [I a, .val (.string s), I m], .agg [I b, .val (.string t), I n]] (fun r => r = B (decide (a = b) && (s.toList == t.toList))) := by
  refine Contract.of_call (VCall.of_body hmix f_scref10_Ends (by simp) ?_)
  by_cases h : a = b
  · simp only [go_sem,Nat.reduceEqDiff,Nat.reduceAdd,Nat.reduceMul,↓reduceIte,↓dreduceIte,reduceCtorEq,Nat.reduceLeDiff,Nat.reduceLT,Nat.reduceSub,Int.reduceToNat,Int.reduceLE,Int.reduceLT, c_scref10_Ends, one_imm, one_ref, eq_true h]
    exact ⟨_, Frz.pure rfl, by simp [h]⟩
  · simp only [go_sem,Nat.reduceEqDiff,Nat.reduceAdd,Nat.reduceMul,↓reduceIte,↓dreduceIte,reduceCtorEq,Nat.reduceLeDiff,Nat.reduceLT,Nat.reduceSub,Int.reduceToNat,Int.reduceLE,Int.reduceLT, c_scref10_Ends, one_imm, one_ref, eq_false h]
    exact ⟨_, Frz.pure rfl, by simp [h]⟩
theorem rsame08_c (code : List Int) (data : Int) (hl : code.length ≤ 1000000) : Contract Try.prog 14 [imgC code data, imgC code data] (fun r => r = B true) := by
  refine Contract.of_call (VCall.of_body hmix f_scref08_Same (by simp) ?_)
  simp only [go_sem,Nat.reduceEqDiff,Nat.reduceAdd,Nat.reduceMul,↓reduceIte,↓dreduceIte,reduceCtorEq,Nat.reduceLeDiff,Nat.reduceLT,Nat.reduceSub,Int.reduceToNat,Int.reduceLE,Int.reduceLT, one_imm, one_ref, List.length_map, c_scref08_Same, bne_self_eq_false]
  refine VW_loop (fun i : Nat => ⟨[(2, .ptr 0 0 0), (3, .ptr 1 1 0), (5, I i)], [⟨0, 38, 1, [.imm 1 (code.map U32), I data]⟩, ⟨1, 38, 1, [.imm 1 (code.map U32), I data]⟩], 2⟩) (fun i => i ≤ code.length) (fun i => code.length - i) 0 (Wk.mk (by simp [get_cons]) ⟨[], rfl⟩ (Nat.le_refl _)) (Nat.zero_le _) ?_
  intro i hi
  by_cases hlt : i < code.length
  · simp only [go_sem,Nat.reduceEqDiff,Nat.reduceAdd,Nat.reduceMul,↓reduceIte,↓dreduceIte,reduceCtorEq,Nat.reduceLeDiff,Nat.reduceLT,Nat.reduceSub,Int.reduceToNat,Int.reduceLE,Int.reduceLT, one_imm, one_ref, List.length_map, eq_true (show (i : Int) < code.length by omega), bne_self_eq_false]
    repeat ((with_reducible refine And.intro ?_ ?_); · first | omega | (simp; omega))
    rw [i64_in (n := (i : Int) + 1) (by omega) (by omega)]
    exact ⟨i + 1, by omega, by omega, Wk.mk (by simp [get_cons]) ⟨[], rfl⟩ (Nat.le_refl _)⟩
  · obtain rfl : i = code.length := by omega
    simp only [go_sem,Nat.reduceEqDiff,Nat.reduceAdd,Nat.reduceMul,↓reduceIte,↓dreduceIte,reduceCtorEq,Nat.reduceLeDiff,Nat.reduceLT,Nat.reduceSub,Int.reduceToNat,Int.reduceLE,Int.reduceLT, one_imm, one_ref, List.length_map, eq_false (show ¬ (code.length : Int) < code.length by omega)]
    exact ⟨_, Frz.pure rfl, rfl⟩

/- The image of a program that is small. -/
theorem SzP.sim {s : SP} (h : SzP s) : SimP s := ⟨h.r, fun f hf => depS_sol h.r hf, h.ofH.dat, h.wf⟩
theorem SzP.cd {s : SP} (h : SzP s) : CdOk (fixE s) := by
  refine ⟨fun i hi => ⟨(h.fix i hi).1, (h.fix i hi).2.1⟩, ?_⟩
  have : (fixE s).length = (endE s).l.length := by simp [fixE, fixY]
  have := h.ofH.len
  omega
theorem SzP.cok {s : SP} (h : SzP s) : (∀ x ∈ codeE s, In32 x) ∧ (codeE s).length ≤ 1000000 := by
  have hc := h.cd
  refine ⟨wrds_in hc, ?_⟩
  unfold codeE; rw [List.length_map]; exact hc.len
theorem SzP.run {s : SP} (h : SzP s) {inp : ByteArray} (hi : inp.size ≤ 1000000000) {k : Nat} (hk : k ≤ 60000) (hfin : (runS s inp (startS s) k).fin ≠ 0) {F : Int} (hF : (((runS s inp (startS s) k).steps : Int) + 1) * (64 + 8 * s.words) ≤ F) :
    endF (runF (codeE s) (dataE s) inp F) = (runS s inp (startS s) k).fin ∧ (runF (codeE s) (dataE s) inp F).out = ⟨(runS s inp (startS s) k).out.toArray⟩ := by
  have hw := h.r.w0
  have h0 : 0 ≤ (((runS s inp (startS s) k).steps : Int) + 1) * (64 + 8 * s.words) := Int.mul_nonneg (by omega) (by omega)
  obtain ⟨e1, e2⟩ := sim_end h.sim h.cd hi hk hfin (F := F.toNat) (by omega)
  refine ⟨?_, ?_⟩
  · show (if (runN (wrds (fixE s)) inp (startF (dataE s)) F.toNat).fin = 0 then 5 else (runN (wrds (fixE s)) inp (startF (dataE s)) F.toNat).fin) = _
    rw [e1, if_neg hfin]
  · have : ∀ (a : ByteArray) (l : List UInt8), a.data.toList = l → a = ⟨l.toArray⟩ := fun a l e => by subst e; cases a; simp
    exact this _ _ e2

/- The document's example. -/
def plE : SP := ⟨0, [⟨0, 0, 0, false, [⟨1, 0, 0, 65⟩, ⟨13, 0, 0, 0⟩, ⟨11, 0, 0, 0⟩]⟩]⟩
theorem plE_right : RightP plE := by
  refine ⟨by decide, by decide, by decide, by decide, fun f hf => ?_, rfl, rfl⟩
  obtain rfl : f = 0 := by simp [plE] at hf; exact hf
  refine ⟨⟨by decide, by decide, by decide, by decide, by decide⟩, fits_of ?_, ⟨[0, 1, 0], sol_of (by kernel_rfl)⟩⟩
  show ∀ x ∈ [(⟨1, 0, 0, 65⟩ : SI), ⟨13, 0, 0, 0⟩, ⟨11, 0, 0, 0⟩], FitsP plE 0 x
  intro x hx
  simp only [List.mem_cons, List.not_mem_nil, or_false] at hx
  rcases hx with rfl | rfl | rfl <;> decide
theorem plE_sz : SzP plE := by
  refine ⟨plE_right, fun g hg x hx => ?_, by decide, by decide, by decide⟩
  rw [List.mem_singleton.1 hg] at hx
  simp only [List.mem_cons, List.not_mem_nil, or_false] at hx
  rcases hx with rfl | rfl | rfl <;> exact ⟨by decide, by decide⟩
theorem plE_run : runS plE ⟨#[]⟩ (startS plE) 3 = ⟨[], 0, [65], 3, 1, ⟨0, 3, []⟩, []⟩ := by kernel_rfl
theorem plain_c : Contract Try.prog 21 [] (fun r => r = spA plE) := by
  refine Contract.of_call (VCall.of_body hmix f_sclaw22_plain (by simp) ?_)
  simp only [go_sem,Nat.reduceEqDiff,Nat.reduceAdd,Nat.reduceMul,↓reduceIte,↓dreduceIte,reduceCtorEq,Nat.reduceLeDiff,Nat.reduceLT,Nat.reduceSub,Int.reduceToNat,Int.reduceLE,Int.reduceLT, c_sclaw22_plain, one_imm, one_ref]
  exact ⟨_, frz_one 0 ⟨0, 0, 0, false, [⟨1, 0, 0, 65⟩, ⟨13, 0, 0, 0⟩, ⟨11, 0, 0, 0⟩]⟩ rfl rfl, rfl⟩
theorem alive_c : Contract Try.prog 7 [] (fun r => r = B true) := by
  refine Contract.of_call (VCall.of_body hmix f_sclaw22_alive (by simp) ?_)
  have hz := plE_sz
  have hc := hz.cok
  have hrun := hz.run (inp := ⟨#[]⟩) (by decide) (k := 3) (by decide) (by rw [plE_run]; decide) (F := 300) (by rw [plE_run]; decide)
  rw [plE_run] at hrun
  have k1 := of22_c hz.ofH
  unfold ofA at k1
  have k2 := refRun_c (codeE plE) (dataE plE) ⟨#[]⟩ 300 hc.1 hc.2 (by decide) (by decide)
  unfold runA at k2
  rw [hrun.1, hrun.2] at k2
  generalize runF (codeE plE) (dataE plE) ⟨#[]⟩ 300 = ρ at *
  generalize codeE plE = code at *
  generalize dataE plE = data at *
  simp only [go_sem,Nat.reduceEqDiff,Nat.reduceAdd,Nat.reduceMul,↓reduceIte,↓dreduceIte,reduceCtorEq,Nat.reduceLeDiff,Nat.reduceLT,Nat.reduceSub,Int.reduceToNat,Int.reduceLE,Int.reduceLT, c_sclaw22_alive, one_imm, one_ref]
  refine VCall.of_contract plain_c (SleL.pure rfl) fun r hr => ?_
  subst hr
  simp only [go_sem,Nat.reduceEqDiff,Nat.reduceAdd,Nat.reduceMul,↓reduceIte,↓dreduceIte,reduceCtorEq,Nat.reduceLeDiff,Nat.reduceLT,Nat.reduceSub,Int.reduceToNat,Int.reduceLE,Int.reduceLT, one_imm, one_ref]
  refine VCall.of_contract k1 (SleL.pure rfl) fun r hr => ?_
  subst hr
  simp only [go_sem,Nat.reduceEqDiff,Nat.reduceAdd,Nat.reduceMul,↓reduceIte,↓dreduceIte,reduceCtorEq,Nat.reduceLeDiff,Nat.reduceLT,Nat.reduceSub,Int.reduceToNat,Int.reduceLE,Int.reduceLT, one_imm, one_ref, Int.reduceEq, Int.reduceBEq]
  refine VCall.of_contract k2 (SleL.pure rfl) fun r hr => ?_
  subst hr
  simp only [go_sem,Nat.reduceEqDiff,Nat.reduceAdd,Nat.reduceMul,↓reduceIte,↓dreduceIte,reduceCtorEq,Nat.reduceLeDiff,Nat.reduceLT,Nat.reduceSub,Int.reduceToNat,Int.reduceLE,Int.reduceLT, one_imm, one_ref, Int.reduceEq, Int.reduceBEq]
  refine VCall.of_contract (ends_c _ _ _ _ _ _) (SleL.pure rfl) fun r hr => ?_
  subst hr
  simp only [go_sem,Nat.reduceEqDiff,Nat.reduceAdd,Nat.reduceMul,↓reduceIte,↓dreduceIte,reduceCtorEq,Nat.reduceLeDiff,Nat.reduceLT,Nat.reduceSub,Int.reduceToNat,Int.reduceLE,Int.reduceLT, one_imm, one_ref, Int.reduceEq, Int.reduceBEq]
  exact ⟨_, Frz.pure rfl, by simp⟩
end Go.Proofs.Ytaedcpipilnpcaa
namespace Go.Proofs.Ytaedcpipilnpcaa
set_option linter.unusedSimpArgs false
set_option linter.unusedVariables false
set_option maxRecDepth 10000
open Go.V Go.ChangeShapes Go.WideShapes Go.ChangeAt Go.RowKit
theorem emitpure_c (s : SP) (h : SPOk s) : Contract Try.prog 4 [spA s] (fun r => r = B true) := by
  refine Contract.of_call (VCall.of_body hmix f_sclaw22_EmitPure (by simp) ?_)
  simp only [go_sem,Nat.reduceEqDiff,Nat.reduceAdd,Nat.reduceMul,↓reduceIte,↓dreduceIte,reduceCtorEq,Nat.reduceLeDiff,Nat.reduceLT,Nat.reduceSub,Int.reduceToNat,Int.reduceLE,Int.reduceLT, one_imm, one_ref, List.length_map, Int.reduceEq, Int.reduceBEq, c_sclaw22_EmitPure]
  refine VCall.of_contract alive_c (SleL.pure rfl) fun x hx => ?_
  subst hx
  simp only [go_sem,Nat.reduceEqDiff,Nat.reduceAdd,Nat.reduceMul,↓reduceIte,↓dreduceIte,reduceCtorEq,Nat.reduceLeDiff,Nat.reduceLT,Nat.reduceSub,Int.reduceToNat,Int.reduceLE,Int.reduceLT, one_imm, one_ref, List.length_map, Int.reduceEq, Int.reduceBEq]
  refine VCall.of_contract (fewL_c s h) (SleL.pure rfl) fun x hx => ?_
  obtain ⟨v, rfl, hv⟩ := hx
  cases v
  · simp only [go_sem,Nat.reduceEqDiff,Nat.reduceAdd,Nat.reduceMul,↓reduceIte,↓dreduceIte,reduceCtorEq,Nat.reduceLeDiff,Nat.reduceLT,Nat.reduceSub,Int.reduceToNat,Int.reduceLE,Int.reduceLT, one_imm, one_ref, List.length_map]
    exact ⟨_, Frz.pure rfl, rfl⟩
  obtain ⟨hz, hw, hfit⟩ := hv rfl
  have k1 := of22_c hz.ofH
  have k3 := rsame08_c (codeE s) (dataE s) hz.cok.2
  unfold ofA at k1
  generalize codeE s = code at *
  generalize dataE s = data at *
  simp only [go_sem,Nat.reduceEqDiff,Nat.reduceAdd,Nat.reduceMul,↓reduceIte,↓dreduceIte,reduceCtorEq,Nat.reduceLeDiff,Nat.reduceLT,Nat.reduceSub,Int.reduceToNat,Int.reduceLE,Int.reduceLT, one_imm, one_ref, List.length_map, Int.reduceEq, Int.reduceBEq]
  refine VCall.of_contract k1 (SleL.pure rfl) fun x hx => ?_
  subst hx
  simp only [go_sem,Nat.reduceEqDiff,Nat.reduceAdd,Nat.reduceMul,↓reduceIte,↓dreduceIte,reduceCtorEq,Nat.reduceLeDiff,Nat.reduceLT,Nat.reduceSub,Int.reduceToNat,Int.reduceLE,Int.reduceLT, one_imm, one_ref, List.length_map, Int.reduceEq, Int.reduceBEq]
  refine VCall.of_contract k1 (SleL.pure rfl) fun x hx => ?_
  subst hx
  simp only [go_sem,Nat.reduceEqDiff,Nat.reduceAdd,Nat.reduceMul,↓reduceIte,↓dreduceIte,reduceCtorEq,Nat.reduceLeDiff,Nat.reduceLT,Nat.reduceSub,Int.reduceToNat,Int.reduceLE,Int.reduceLT, one_imm, one_ref, List.length_map, Int.reduceEq, Int.reduceBEq, beq_self_eq_true]
  refine VCall.of_contract k3 (SleL.pure rfl) fun x hx => ?_
  subst hx
  simp only [go_sem,Nat.reduceEqDiff,Nat.reduceAdd,Nat.reduceMul,↓reduceIte,↓dreduceIte,reduceCtorEq,Nat.reduceLeDiff,Nat.reduceLT,Nat.reduceSub,Int.reduceToNat,Int.reduceLE,Int.reduceLT, one_imm, one_ref, List.length_map, Int.reduceEq, Int.reduceBEq]
  exact ⟨_, Frz.pure rfl, rfl⟩
set_option maxRecDepth 100000 in
theorem emitpure_lifted (os : Os) (started : os.Started) (H : Type) (enc : TypeId × Value → H) :
    ReturnsInHanded {} Try.checked os 4 .any (Rows.emitPureSpec.pre6 enc Try.prog Try.f4 Rows.emitPureRow.domain false) (Rows.emitPureSpec.post enc Try.prog Try.f4 false true false false) := by
  refine returnsInHanded_of_change_sized (C := Try.checked) Try.own started (by kernel_rfl) Try.func4
    (ChangeSpec.witness6 (enc := enc) (C := Try.checked) false ⟨#[], #[.agg #[.int .i64 0, .slice none 0 0]], []⟩ 8 (by kernel_rfl) (by kernel_rfl) (by kernel_rfl) (by kernel_rfl)) ?_
  intro W base args ds gs before hval hW _ hwt _
  refine law_calls (P := Try.prog) (n := 20) (shs := [spSh]) (tb := 4) Try.laidOut rfl (by kernel_rfl) (by kernel_rfl) (by decide +kernel) (by kernel_rfl) (fun ds h => ?_) (fun xs hx => ?_) hval hW hwt
  · match ds, h with
    | [d1], _ => rfl
  · obtain ⟨x, xs', rfl, hx1, hxs⟩ := fitS_cons hx
    simp only [Sh.fitL] at hxs
    subst hxs
    obtain ⟨s, rfl, h⟩ := sp_of hx1
    exact emitpure_c s h
theorem emitpure_holds : Rows.EmitPureSaid :=
  OpenClaim.holds_of_wide 4 Try.f4 rfl rfl rfl rfl rfl rfl rfl ⟨rfl, rfl, rfl, rfl, rfl⟩ rfl rfl rfl rfl rfl (by kernel_rfl) Try.func4 (by kernel_rfl)
    (of_decide_eq_true (by kernel_rfl)) (by unfold Func.isWrapper; first | (rw [if_pos (by decide +kernel)]; kernel_rfl) | (rw [if_neg (by decide +kernel)]; exact ⟨rfl, rfl⟩))
    (fun os started H enc _ => emitpure_lifted os started H enc)
end Go.Proofs.Ytaedcpipilnpcaa
