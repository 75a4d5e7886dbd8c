/-
  inst: contracts: which words are instructions. No condition.
-/
import Derived.Test.YtjoldjcfabbekaaM2
namespace Go.Proofs.Ytjoldjcfabbekaa
set_option linter.unusedSimpArgs false
set_option linter.unusedVariables false
set_option maxRecDepth 10000
open Go.V

theorem ba_loop (bs : ByteArray) : ∀ (n i : Nat) (r : List UInt8), bs.size - i = n → ByteArray.toList.loop bs i r = r.reverse ++ bs.data.toList.drop i := by
  intro n
  induction n with
  | zero =>
    intro i r h
    rw [ByteArray.toList.loop, if_neg (by omega), List.drop_eq_nil_of_le (by simp; omega)]; simp
  | succ n ih =>
    intro i r h
    have hi : i < bs.data.toList.length := by simp; omega
    rw [ByteArray.toList.loop, if_pos (by omega), ih (i + 1) _ (by omega), List.drop_eq_getElem_cons hi]
    have : bs.get! i = bs.data.toList[i] := by
      have hi2 : i < bs.data.size := by simpa using hi
      rw [Array.getElem_toList hi2]
      simp only [ByteArray.get!]; exact getElem!_pos bs.data i hi2
    rw [this]; simp
theorem ba_toList (bs : ByteArray) : bs.toList = bs.data.toList := by
  rw [ByteArray.toList, ba_loop bs bs.size 0 [] (by omega)]; simp

/-- Which operations there are, which fields they have, and what C is. -/
def vOp (op : Int) : Bool := decide (1 ≤ op) && decide (op ≤ 27)
def hA (op : Int) : Bool := vOp op && !(decide (op = 18) || decide (op = 26))
def hB (op : Int) : Bool := decide (op = 3) || (decide (4 ≤ op) && decide (op ≤ 17)) || decide (op = 27)
def cK (op : Int) : Int := if 4 ≤ op ∧ op ≤ 15 then 2 else if op = 1 ∨ op = 2 ∨ (16 ≤ op ∧ op ≤ 21) ∨ op = 25 ∨ op = 27 then 1 else 0
def winB (v most : Int) (named : Bool) : Bool := if named then decide (0 ≤ v) && decide (v ≤ most) else decide (v = 0)
def okI (op a b c : Int) : Bool := vOp op && winB a 15 (hA op) && winB b 15 (hB op) && winB c (if cK op = 2 then 15 else 65535) (decide (cK op ≠ 0))

abbrev shp (nm : ByteArray) (op : Int) : AV := .agg [strv nm, B (hA op), B (hB op), I (cK op)]
abbrev insA (op a b c : Int) : AV := .agg [I op, I a, I b, I c]

theorem within_c (v most : Int) (named : Bool) : Contract Try.prog 67 [I v, I most, B named] (fun r => r = B (winB v most named)) := by
  refine Contract.of_call (VCall.of_body hmix f_inst_within (by simp) ?_)
  cases named with
  | false =>
    simp only [go_sem,Nat.reduceEqDiff,Nat.reduceAdd,Nat.reduceMul,↓reduceIte,↓dreduceIte,reduceCtorEq,Nat.reduceLeDiff,Nat.reduceLT,Nat.reduceSub,Int.reduceToNat,Int.reduceLE,Int.reduceLT, c_inst_within]
    exact ⟨_, Frz.pure rfl, by simp [winB]; rfl⟩
  | true =>
    by_cases h : 0 ≤ v
    · simp only [go_sem,Nat.reduceEqDiff,Nat.reduceAdd,Nat.reduceMul,↓reduceIte,↓dreduceIte,reduceCtorEq,Nat.reduceLeDiff,Nat.reduceLT,Nat.reduceSub,Int.reduceToNat,Int.reduceLE,Int.reduceLT, c_inst_within, eq_true h]
      exact ⟨_, Frz.pure rfl, by simp [winB, h]⟩
    · simp only [go_sem,Nat.reduceEqDiff,Nat.reduceAdd,Nat.reduceMul,↓reduceIte,↓dreduceIte,reduceCtorEq,Nat.reduceLeDiff,Nat.reduceLT,Nat.reduceSub,Int.reduceToNat,Int.reduceLE,Int.reduceLT, c_inst_within, eq_false h]
      exact ⟨_, Frz.pure rfl, by simp [winB, h]⟩

theorem shapeOf_c (op : Int) : Contract Try.prog 66 [I op] (fun r => ∃ nm : ByteArray, r = shp nm op ∧ (nm.toList == ByteArray.toList ⟨#[]⟩) = !(vOp op)) := by
  refine Contract.of_call (VCall.of_body hmix f_inst_shapeOf (by simp) ?_)
  simp only [go_sem,Nat.reduceEqDiff,Nat.reduceAdd,Nat.reduceMul,↓reduceIte,↓dreduceIte,reduceCtorEq,Nat.reduceLeDiff,Nat.reduceLT,Nat.reduceSub,Int.reduceToNat,Int.reduceLE,Int.reduceLT, c_inst_shapeOf]
  iterate 27 (refine ⟨fun h => by subst h; exact ⟨_, Frz.pure rfl, _, rfl, by simp only [ba_toList]; rfl⟩, fun _ => ?_⟩)
  have h1 : vOp op = false := by simp [vOp]; omega
  have h2 : hA op = false := by simp [hA, h1]
  have h3 : hB op = false := by simp [hB]; omega
  have h4 : cK op = 0 := by unfold cK; rw [if_neg (by omega), if_neg (by omega)]
  exact ⟨_, Frz.pure rfl, ⟨#[]⟩, by rw [shp, h2, h3, h4], by rw [h1]; simp⟩

theorem known_c (op : Int) : Contract Try.prog 65 [I op] (fun r => r = B (vOp op)) := by
  refine Contract.of_call (VCall.of_body hmix f_inst_known (by simp) ?_)
  simp only [go_sem,Nat.reduceEqDiff,Nat.reduceAdd,Nat.reduceMul,↓reduceIte,↓dreduceIte,reduceCtorEq,Nat.reduceLeDiff,Nat.reduceLT,Nat.reduceSub,Int.reduceToNat,Int.reduceLE,Int.reduceLT, c_inst_known]
  refine VCall.of_contract (shapeOf_c op) (SleL.pure rfl) fun x hx => ?_
  obtain ⟨nm, rfl, hn⟩ := hx
  simp only [go_sem,Nat.reduceEqDiff,Nat.reduceAdd,Nat.reduceMul,↓reduceIte,↓dreduceIte,reduceCtorEq,Nat.reduceLeDiff,Nat.reduceLT,Nat.reduceSub,Int.reduceToNat,Int.reduceLE,Int.reduceLT, hn]
  exact ⟨_, Frz.pure rfl, by simp⟩

theorem right_c (op a b c : Int) : Contract Try.prog 55 [insA op a b c] (fun r => r = B (okI op a b c)) := by
  refine Contract.of_call (VCall.of_body hmix f_inst_Right (by simp) ?_)
  simp only [go_sem,Nat.reduceEqDiff,Nat.reduceAdd,Nat.reduceMul,↓reduceIte,↓dreduceIte,reduceCtorEq,Nat.reduceLeDiff,Nat.reduceLT,Nat.reduceSub,Int.reduceToNat,Int.reduceLE,Int.reduceLT, c_inst_Right]
  refine VCall.of_contract (known_c op) (SleL.pure rfl) fun x hx => ?_
  subst hx
  cases hv : vOp op
  · simp only [go_sem,Nat.reduceEqDiff,Nat.reduceAdd,Nat.reduceMul,↓reduceIte,↓dreduceIte,reduceCtorEq,Nat.reduceLeDiff,Nat.reduceLT,Nat.reduceSub,Int.reduceToNat,Int.reduceLE,Int.reduceLT]
    exact ⟨_, Frz.pure rfl, by simp [okI, hv]⟩
  simp only [go_sem,Nat.reduceEqDiff,Nat.reduceAdd,Nat.reduceMul,↓reduceIte,↓dreduceIte,reduceCtorEq,Nat.reduceLeDiff,Nat.reduceLT,Nat.reduceSub,Int.reduceToNat,Int.reduceLE,Int.reduceLT]
  refine VCall.of_contract (shapeOf_c op) (SleL.pure rfl) fun x hx => ?_
  obtain ⟨nm, rfl, hn⟩ := hx
  by_cases hk : cK op = 2
  have hk' := eq_true hk
  rotate_left
  have hk' := eq_false hk
  all_goals
    simp only [go_sem,Nat.reduceEqDiff,Nat.reduceAdd,Nat.reduceMul,↓reduceIte,↓dreduceIte,reduceCtorEq,Nat.reduceLeDiff,Nat.reduceLT,Nat.reduceSub,Int.reduceToNat,Int.reduceLE,Int.reduceLT, hk']
    refine VCall.of_contract (within_c a 15 (hA op)) (SleL.pure rfl) fun x hx => ?_
    subst hx
    cases h1 : winB a 15 (hA op)
    · simp only [go_sem,Nat.reduceEqDiff,Nat.reduceAdd,Nat.reduceMul,↓reduceIte,↓dreduceIte,reduceCtorEq,Nat.reduceLeDiff,Nat.reduceLT,Nat.reduceSub,Int.reduceToNat,Int.reduceLE,Int.reduceLT]
      exact ⟨_, Frz.pure rfl, by simp [okI, h1]⟩
    simp only [go_sem,Nat.reduceEqDiff,Nat.reduceAdd,Nat.reduceMul,↓reduceIte,↓dreduceIte,reduceCtorEq,Nat.reduceLeDiff,Nat.reduceLT,Nat.reduceSub,Int.reduceToNat,Int.reduceLE,Int.reduceLT]
    refine VCall.of_contract (within_c b 15 (hB op)) (SleL.pure rfl) fun x hx => ?_
    subst hx
    cases h2 : winB b 15 (hB op)
    · simp only [go_sem,Nat.reduceEqDiff,Nat.reduceAdd,Nat.reduceMul,↓reduceIte,↓dreduceIte,reduceCtorEq,Nat.reduceLeDiff,Nat.reduceLT,Nat.reduceSub,Int.reduceToNat,Int.reduceLE,Int.reduceLT]
      exact ⟨_, Frz.pure rfl, by simp [okI, h2]⟩
    simp only [go_sem,Nat.reduceEqDiff,Nat.reduceAdd,Nat.reduceMul,↓reduceIte,↓dreduceIte,reduceCtorEq,Nat.reduceLeDiff,Nat.reduceLT,Nat.reduceSub,Int.reduceToNat,Int.reduceLE,Int.reduceLT]
    refine VCall.of_contract (within_c c _ _) (SleL.pure rfl) fun x hx => ?_
    subst hx
    simp only [go_sem,Nat.reduceEqDiff,Nat.reduceAdd,Nat.reduceMul,↓reduceIte,↓dreduceIte,reduceCtorEq,Nat.reduceLeDiff,Nat.reduceLT,Nat.reduceSub,Int.reduceToNat,Int.reduceLE,Int.reduceLT]
    refine ⟨_, Frz.pure rfl, ?_⟩
    have hn : (cK op != 0) = decide (cK op ≠ 0) := by simp [bne]; rfl
    simp [okI, h1, h2, hv, hk, hn]
end Go.Proofs.Ytjoldjcfabbekaa
