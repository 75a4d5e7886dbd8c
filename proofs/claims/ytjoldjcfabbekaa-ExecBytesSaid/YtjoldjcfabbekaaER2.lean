/-
  The document's run in place: its small functions. No condition.
-/
import Derived.Test.YtjoldjcfabbekaaER1
namespace Go.Proofs.Ytjoldjcfabbekaa
set_option linter.unusedSimpArgs false
set_option linter.unusedVariables false
set_option maxRecDepth 10000
open Go.V

abbrev wkO (s : Nat) (cs : List AV) : VObj := ⟨s, 82, 1, cs⟩

section
variable {pc : Int} {f : Nat → Int} {m : AV} {rd : Int} {so : ByteArray} {st fin : Int} {o cd ok wd : AV} {inp : ByteArray} {ct : AV} {H : List VObj} {nx w sw : Nat} {C : AV → List VObj → Nat → Prop}

theorem wset_v (a v : Int) (ha : 0 ≤ a ∧ a ≤ 15) (hw : H[w]? = some (wkO sw (wkc pc f m rd so st fin o cd ok wd inp ct))) (h1 : (wkc pc f m rd so st fin o cd ok wd inp ct).all AV.one = true)
    (hC : ∀ r, C r (H.set w (wkO sw (wkc (IntKind.i64.wrap (pc + 1)) (updR f a.toNat v) m rd so st fin o cd ok wd inp ct))) nx) :
    VCall Try.prog 51 [.ptr w sw 0, I a, U32 v] H nx C := by
  refine VCall.of_body hmix f_scref10_work_set (by simp) ?_
  have hlt := (List.getElem?_eq_some_iff.1 hw).1
  have gw : ∀ x, (H.set w x)[w]? = some x := fun x => by rw [List.getElem?_set, if_pos rfl, if_pos hlt]
  have hj : a.toNat < 16 := by omega
  simp only [go_sem,Nat.reduceEqDiff,Nat.reduceAdd,Nat.reduceMul,↓reduceIte,↓dreduceIte,reduceCtorEq,Nat.reduceLeDiff,Nat.reduceLT,Nat.reduceSub,Int.reduceToNat,Int.reduceLE,Int.reduceLT, c_scref10_work_set, hw, gw, List.set_set, wkc_length, k_pc, ks_reg hj, ks_pc]
  repeat (refine And.intro (by omega) ?_)
  exact hC _
theorem wjump_v (yes : Bool) (to : Int) (hw : H[w]? = some (wkO sw (wkc pc f m rd so st fin o cd ok wd inp ct)))
    (hC : ∀ r, C r (H.set w (wkO sw (wkc (if yes then to else IntKind.i64.wrap (pc + 1)) f m rd so st fin o cd ok wd inp ct))) nx) :
    VCall Try.prog 53 [.ptr w sw 0, B yes, I to] H nx C := by
  refine VCall.of_body hmix f_scref10_work_jump (by simp) ?_
  have hlt := (List.getElem?_eq_some_iff.1 hw).1
  have gw : ∀ x, (H.set w x)[w]? = some x := fun x => by rw [List.getElem?_set, if_pos rfl, if_pos hlt]
  cases yes
  · simp only [go_sem,Nat.reduceEqDiff,Nat.reduceAdd,Nat.reduceMul,↓reduceIte,↓dreduceIte,reduceCtorEq,Nat.reduceLeDiff,Nat.reduceLT,Nat.reduceSub,Int.reduceToNat,Int.reduceLE,Int.reduceLT, c_scref10_work_jump, hw, gw, List.set_set, wkc_length, k_pc, ks_pc]
    repeat (refine And.intro (by omega) ?_)
    exact hC _
  · simp only [go_sem,Nat.reduceEqDiff,Nat.reduceAdd,Nat.reduceMul,↓reduceIte,↓dreduceIte,reduceCtorEq,Nat.reduceLeDiff,Nat.reduceLT,Nat.reduceSub,Int.reduceToNat,Int.reduceLE,Int.reduceLT, c_scref10_work_jump, hw, gw, List.set_set, wkc_length, k_pc, ks_pc]
    repeat (refine And.intro (by omega) ?_)
    exact hC _
end

theorem fetchN_c (l : List Int) (b k : Int) (hb : In32 b) (hk : 0 ≤ k ∧ k ≤ 65535) (hl : l.length ≤ 1000000) : ContractN Try.prog 52 [words l, U32 b, I k]
    (fun r => r = (if w32 (b + k) < l.length then AV.tup [U32 (l.getD (w32 (b + k)).toNat default), B true] else AV.tup [U32 0, B false])) := by
  refine ContractN.of_call (VCall.of_body hmix f_scref10_fetch (by simp) ?_)
  have e1 : IntKind.u32.wrap k = k := w32_in ⟨by omega, by omega⟩
  obtain ⟨at_, hat⟩ : ∃ x, IntKind.u32.wrap (b + k) = x := ⟨_, rfl⟩
  have hin : In32 at_ := by rw [← hat, IntKind.wrap_u32]; exact ⟨by omega, by omega⟩
  obtain ⟨p1, p2⟩ := hin
  have e2 : IntKind.u64.wrap at_ = at_ := by rw [IntKind.wrap_u64]; omega
  have e3 : IntKind.u64.wrap (l.length : Int) = l.length := by rw [IntKind.wrap_u64]; omega
  have hat' : w32 (b + k) = at_ := hat
  simp only [hat']
  by_cases h : at_ < l.length
  · simp only [go_sem,Nat.reduceEqDiff,Nat.reduceAdd,Nat.reduceMul,↓reduceIte,↓dreduceIte,reduceCtorEq,Nat.reduceLeDiff,Nat.reduceLT,Nat.reduceSub,Int.reduceToNat,Int.reduceLE,Int.reduceLT, c_scref10_fetch, e1, hat, e2, e3, eq_false (show ¬ (l.length : Int) ≤ at_ by omega), if_pos h]
    repeat (refine And.intro (by omega) ?_)
    exact ⟨_, FrzN.tup ⟨_, _, rfl, FrzN.val, _, _, rfl, FrzN.val, rfl⟩, by simp [h]⟩
  · simp only [go_sem,Nat.reduceEqDiff,Nat.reduceAdd,Nat.reduceMul,↓reduceIte,↓dreduceIte,reduceCtorEq,Nat.reduceLeDiff,Nat.reduceLT,Nat.reduceSub,Int.reduceToNat,Int.reduceLE,Int.reduceLT, c_scref10_fetch, e1, hat, e2, e3, eq_true (show (l.length : Int) ≤ at_ by omega), if_neg h]
    exact ⟨_, FrzN.tup ⟨_, _, rfl, FrzN.val, _, _, rfl, FrzN.val, rfl⟩, by simp [h]⟩
end Go.Proofs.Ytjoldjcfabbekaa
