/-
  MachineHangs: the row. No condition.
-/
import Derived.Test.YtjkkmpkbiddhkaaM17
namespace Go.Proofs.Ytjkkmpkbiddhkaa
set_option linter.unusedSimpArgs false
set_option linter.unusedVariables false
set_option maxRecDepth 10000
open Go.V Go.ChangeShapes Go.WideShapes Go.ChangeAt Go.RowKit

/-- seedcorn/seedcornlaw09.MachineHangs -/
def p_sclaw09_MachineHangs : VC :=
 (.seq
  (.ops [
    ⟨(some 2), none, (.box 34 (.tmp 0))⟩,
    ⟨(some 4), none, (.mv (.const (.bool false)))⟩])
  (.seq
   (.seq
    (.ops [
      ⟨(some 9), none, (.fad 0 true 2 (.tmp 2))⟩,
      ⟨(some 10), none, (.ld true 2 (.tmp 9))⟩,
      ⟨(some 11), none, (.fad 2 false 1 (.tmp 2))⟩,
      ⟨(some 12), none, (.ld false 1 (.tmp 11))⟩,
      ⟨(some 13), none, (.fad 3 true 22 (.tmp 2))⟩,
      ⟨(some 14), none, (.ld true 22 (.tmp 13))⟩,
      ⟨(some 15), none, (.call (.func 14) [(.tmp 10), (.tmp 12), (.tmp 14)])⟩,
      ⟨(some 16), none, (.un .not (.tmp 15))⟩,
      ⟨(some 17), none, (.mv (.tmp 16))⟩,
      ⟨(some 18), (some (17, false)), (.mv (.tmp 1))⟩,
      ⟨(some 19), (some (17, false)), (.len (.tmp 18))⟩,
      ⟨(some 20), (some (17, false)), (.bin .gtr (.tmp 19) (.const (.int .i64 200)))⟩,
      ⟨(some 21), none, (.pick (.tmp 17) (.const (.bool true)) (.tmp 20))⟩,
      ⟨(some 22), none, (.mv (.tmp 21))⟩,
      ⟨(some 23), (some (22, false)), (.fad 3 true 22 (.tmp 2))⟩,
      ⟨(some 24), (some (22, false)), (.fad 0 false 1 (.tmp 23))⟩,
      ⟨(some 25), (some (22, false)), (.ld false 1 (.tmp 24))⟩,
      ⟨(some 26), (some (22, false)), (.bin .lss (.tmp 25) (.const (.int .i64 0)))⟩,
      ⟨(some 27), none, (.pick (.tmp 22) (.const (.bool true)) (.tmp 26))⟩,
      ⟨(some 28), none, (.mv (.tmp 27))⟩,
      ⟨(some 29), (some (28, false)), (.fad 3 true 22 (.tmp 2))⟩,
      ⟨(some 30), (some (28, false)), (.fad 0 false 1 (.tmp 29))⟩,
      ⟨(some 31), (some (28, false)), (.ld false 1 (.tmp 30))⟩,
      ⟨(some 32), (some (28, false)), (.fad 0 true 2 (.tmp 2))⟩,
      ⟨(some 33), (some (28, false)), (.fad 0 false 1 (.tmp 32))⟩,
      ⟨(some 34), (some (28, false)), (.ld false 1 (.tmp 33))⟩,
      ⟨(some 35), (some (28, false)), (.len (.tmp 34))⟩,
      ⟨(some 36), (some (28, false)), (.bin .geq (.tmp 31) (.tmp 35))⟩,
      ⟨(some 37), none, (.pick (.tmp 28) (.const (.bool true)) (.tmp 36))⟩,
      ⟨(some 38), none, (.mv (.tmp 37))⟩,
      ⟨(some 39), (some (38, false)), (.fad 3 true 22 (.tmp 2))⟩,
      ⟨(some 40), (some (38, false)), (.fad 0 false 1 (.tmp 39))⟩,
      ⟨(some 41), (some (38, false)), (.ld false 1 (.tmp 40))⟩,
      ⟨(some 42), (some (38, false)), (.mv (.tmp 1))⟩,
      ⟨(some 43), (some (38, false)), (.len (.tmp 42))⟩,
      ⟨(some 44), (some (38, false)), (.bin .geq (.tmp 41) (.tmp 43))⟩,
      ⟨(some 45), none, (.pick (.tmp 38) (.const (.bool true)) (.tmp 44))⟩])
    (.cond (.tmp 45)
     (.seq
      (.ops [
        ⟨(some 46), none, (.call (.func 10) [])⟩,
        ⟨(some 4), none, (.mv (.tmp 46))⟩])
      .ret)
     .skip))
   (.seq
    (.ops [
      ⟨(some 48), none, (.fad 0 true 2 (.tmp 2))⟩,
      ⟨(some 49), none, (.fad 0 false 1 (.tmp 48))⟩,
      ⟨(some 50), none, (.ld false 1 (.tmp 49))⟩,
      ⟨(some 51), none, (.fad 3 true 22 (.tmp 2))⟩,
      ⟨(some 52), none, (.fad 0 false 1 (.tmp 51))⟩,
      ⟨(some 53), none, (.ld false 1 (.tmp 52))⟩,
      ⟨(some 54), none, (.idx 1 (.tmp 50) (.tmp 53))⟩,
      ⟨(some 55), none, (.ld false 1 (.tmp 54))⟩,
      ⟨(some 56), none, (.call (.func 18) [(.tmp 55)])⟩,
      ⟨(some 47), none, (.mv (.tmp 56))⟩,
      ⟨(some 57), none, (.ext (.tmp 47) 0)⟩,
      ⟨(some 58), none, (.ext (.tmp 47) 1)⟩,
      ⟨(some 5), none, (.alc 40 [(.int .i64 0), (.int .i64 0), (.int .i64 0), (.int .i64 0)])⟩,
      ⟨none, none, (.sto true 4 (.tmp 5) (.tmp 57))⟩,
      ⟨(some 6), none, (.mv (.tmp 58))⟩])
    (.seq
     (.seq
      (.ops [
        ⟨(some 59), none, (.mv (.tmp 6))⟩,
        ⟨(some 60), none, (.bin .eql (.tmp 59) (.const (.int .i64 0)))⟩,
        ⟨(some 61), none, (.mv (.tmp 60))⟩,
        ⟨(some 62), (some (61, true)), (.fad 0 false 1 (.tmp 5))⟩,
        ⟨(some 63), (some (61, true)), (.ld false 1 (.tmp 62))⟩,
        ⟨(some 64), (some (61, true)), (.bin .eql (.tmp 63) (.const (.int .i64 27)))⟩,
        ⟨(some 65), none, (.pick (.tmp 61) (.tmp 64) (.const (.bool false)))⟩])
      (.cond (.tmp 65)
       (.seq
        (.ops [
          ⟨(some 66), none, (.call (.func 10) [])⟩,
          ⟨(some 4), none, (.mv (.tmp 66))⟩])
        .ret)
       .skip))
     (.seq
      (.ops [
        ⟨(some 67), none, (.bsl 27 1 0 [] [])⟩,
        ⟨(some 68), none, (.mv (.tmp 1))⟩,
        ⟨(some 69), none, (.app 27 1 4 (.tmp 67) (.tmp 68))⟩,
        ⟨(some 7), none, (.mv (.tmp 69))⟩])
      (.seq
       (.ops [
         ⟨(some 70), none, (.mv (.tmp 7))⟩,
         ⟨(some 71), none, (.fad 3 true 22 (.tmp 2))⟩,
         ⟨(some 72), none, (.fad 0 false 1 (.tmp 71))⟩,
         ⟨(some 73), none, (.ld false 1 (.tmp 72))⟩,
         ⟨(some 74), none, (.fad 0 true 2 (.tmp 2))⟩,
         ⟨(some 75), none, (.fad 0 false 1 (.tmp 74))⟩,
         ⟨(some 76), none, (.ld false 1 (.tmp 75))⟩,
         ⟨(some 77), none, (.fad 3 true 22 (.tmp 2))⟩,
         ⟨(some 78), none, (.fad 0 false 1 (.tmp 77))⟩,
         ⟨(some 79), none, (.ld false 1 (.tmp 78))⟩,
         ⟨(some 80), none, (.idx 1 (.tmp 76) (.tmp 79))⟩,
         ⟨(some 81), none, (.ld false 1 (.tmp 80))⟩,
         ⟨(some 82), none, (.idx 1 (.tmp 70) (.tmp 73))⟩,
         ⟨none, none, (.sto false 1 (.tmp 82) (.tmp 81))⟩])
       (.seq
        (.ops [
          ⟨(some 83), none, (.mv (.tmp 7))⟩,
          ⟨(some 84), none, (.fad 0 true 2 (.tmp 2))⟩,
          ⟨(some 85), none, (.fad 1 false 1 (.tmp 84))⟩,
          ⟨(some 86), none, (.ld false 1 (.tmp 85))⟩,
          ⟨(some 87), none, (.bld [(.slice none 0 0), (.int .i64 0)] [(0, (1, (.tmp 83))), (1, (1, (.tmp 86)))])⟩,
          ⟨(some 8), none, (.alc 24 [(.slice none 0 0), (.int .i64 0)])⟩,
          ⟨none, none, (.sto true 2 (.tmp 8) (.tmp 87))⟩])
        (.seq
         (.park false (.one ⟨(some 88), none, (.call (.func 10) [])⟩ (.one ⟨(some 89), none, (.mv (.tmp 88))⟩ (.one ⟨(some 90), (some (89, true)), (.ld true 2 (.tmp 8))⟩ (.one ⟨(some 91), (some (89, true)), (.fad 2 false 1 (.tmp 2))⟩ (.one ⟨(some 92), (some (89, true)), (.ld false 1 (.tmp 91))⟩ (.one ⟨(some 93), (some (89, true)), (.fad 3 true 22 (.tmp 2))⟩ (.one ⟨(some 94), (some (89, true)), (.ld true 22 (.tmp 93))⟩ (.one ⟨(some 95), (some (89, true)), (.call (.func 15) [(.tmp 90), (.tmp 92), (.tmp 94)])⟩ (.one ⟨(some 96), (some (89, true)), (.fad 0 true 2 (.tmp 2))⟩ (.one ⟨(some 97), (some (89, true)), (.ld true 2 (.tmp 96))⟩ (.one ⟨(some 98), (some (89, true)), (.fad 2 false 1 (.tmp 2))⟩ (.one ⟨(some 99), (some (89, true)), (.ld false 1 (.tmp 98))⟩ (.one ⟨(some 100), (some (89, true)), (.fad 3 true 22 (.tmp 2))⟩ (.one ⟨(some 101), (some (89, true)), (.ld true 22 (.tmp 100))⟩ (.one ⟨(some 102), (some (89, true)), (.call (.func 15) [(.tmp 97), (.tmp 99), (.tmp 101)])⟩ (.one ⟨(some 103), (some (89, true)), (.call (.func 17) [(.tmp 95), (.tmp 102)])⟩ (.one ⟨(some 104), none, (.pick (.tmp 89) (.tmp 103) (.const (.bool false)))⟩ (.one ⟨(some 4), none, (.mv (.tmp 104))⟩ .done)))))))))))))))))))
         .ret))))))))
theorem q_sclaw09_MachineHangs : compFp Try.prog true 8 = some (105, p_sclaw09_MachineHangs, [(.tmp 4)]) := by kernel_rfl

theorem insF_code (code code' : List Int) (inp : ByteArray) (s : S) (op a b c : Int) (h : op ≠ 27) : insF code' inp s op a b c = insF code inp s op a b c := by
  unfold insF; simp only [if_neg h]
/-- But for ldc the next state hangs on the word at its place. -/
theorem stepF_hangs (code code' : List Int) (inp : ByteArray) (s : S) (h1 : 0 ≤ s.pc) (h2 : s.pc < code.length) (h3 : s.pc < code'.length) (h4 : code'.getD s.pc.toNat default = code.getD s.pc.toNat default)
    (h5 : ¬ (okW (code.getD s.pc.toNat default) = true ∧ opW (code.getD s.pc.toNat default) = 27)) : stepF code' inp s = stepF code inp s := by
  unfold stepF
  rw [if_neg (show ¬ (s.pc < 0 ∨ (code.length : Int) ≤ s.pc) by omega), if_neg (show ¬ (s.pc < 0 ∨ (code'.length : Int) ≤ s.pc) by omega), h4]
  by_cases hf : s.fin = 0
  · rw [if_pos hf, if_pos hf]
    unfold wordF
    cases hk : okW (code.getD s.pc.toNat default)
    · rfl
    · rw [insF_code code code' inp _ _ _ _ _ (fun e => h5 ⟨hk, e⟩)]
  · rw [if_neg hf, if_neg hf]

section
variable {code : AV} {data : Int} {inp : ByteArray} {pc : Int} {f : Nat → Int} {m : AV} {rd : Int} {out : ByteArray} {st fin : Int} {C : AV → Prop}
theorem a_code : cellT (askC code data inp pc f m rd out st fin) 0 false 1 C .mk = (code.one = true ∧ C code) := by
  have e : (askC code data inp pc f m rd out st fin).getD 0 .dead = code := rfl
  simp only [cellT, cellW, partOK, partA, askC_length, e]; simp
theorem a_data : cellT (askC code data inp pc f m rd out st fin) 1 false 1 C .mk = C (I data) := by
  have e : (askC code data inp pc f m rd out st fin).getD 1 .dead = I data := rfl
  simp only [cellT, cellW, partOK, partA, askC_length, e]; simp [AV.one, Value.oneCell']
theorem a_pc : cellT (askC code data inp pc f m rd out st fin) 3 false 1 C .mk = C (I pc) := by
  have e : (askC code data inp pc f m rd out st fin).getD 3 .dead = I pc := rfl
  simp only [cellT, cellW, partOK, partA, askC_length, e]; simp [AV.one, Value.oneCell']
end
theorem decA_as (w : Int) : ∃ o a b c e : Int, decA w = .tup [insA o a b c, I e] ∧ ((e = 0 ∧ o = 27) ↔ (okW w = true ∧ opW w = 27)) := by
  unfold decA
  cases okW w
  · exact ⟨0, 0, 0, 0, 7, rfl, by simp⟩
  · exact ⟨_, _, _, _, 0, rfl, by simp⟩

theorem machinehangs_c (code : List Int) (data : Int) (inp : ByteArray) (s : S) (other : List Int) (h : Im code data) (k : StF s) (ho : ∀ y ∈ other, In32 y) (hol : other.length ≤ 70368744177664) :
    Contract Try.prog 8 [askA code data inp s, words other] (fun r => r = B true) := by
  refine Contract.of_call (VCall.of_bodyP hmix q_sclaw09_MachineHangs (by simp) ?_)
  simp only [go_sem,Nat.reduceEqDiff,Nat.reduceAdd,Nat.reduceMul,↓reduceIte,↓dreduceIte,reduceCtorEq,Nat.reduceLeDiff,Nat.reduceLT,Nat.reduceSub,Int.reduceToNat,Int.reduceLE,Int.reduceLT, p_sclaw09_MachineHangs, a_im, a_inp, a_st, a_fin, a_code, a_data, a_pc, askC_length, askC_all, one_imm]
  refine VCall.of_contract (small_c code data inp s) (SleL.pure rfl) fun x hx => ?_
  subst hx
  cases hb : smallB code inp s
  · simp only [go_sem,Nat.reduceEqDiff,Nat.reduceAdd,Nat.reduceMul,↓reduceIte,↓dreduceIte,reduceCtorEq,Nat.reduceLeDiff,Nat.reduceLT,Nat.reduceSub,Int.reduceToNat,Int.reduceLE,Int.reduceLT, a_im, a_inp, a_st, a_fin, a_code, a_data, a_pc, askC_length, askC_all, one_imm]
    refine VCall.of_contract awake_c (SleL.pure rfl) fun x hx => ?_
    subst hx
    simp only [go_sem,Nat.reduceEqDiff,Nat.reduceAdd,Nat.reduceMul,↓reduceIte,↓dreduceIte,reduceCtorEq,Nat.reduceLeDiff,Nat.reduceLT,Nat.reduceSub,Int.reduceToNat,Int.reduceLE,Int.reduceLT]
    exact ⟨_, Frz.pure rfl, rfl⟩
  obtain ⟨b1, b2, b3, b4, b5⟩ := smallB_iff.1 hb
  by_cases h1 : (200 : Int) < (other.length : Int)
  · simp only [go_sem,Nat.reduceEqDiff,Nat.reduceAdd,Nat.reduceMul,↓reduceIte,↓dreduceIte,reduceCtorEq,Nat.reduceLeDiff,Nat.reduceLT,Nat.reduceSub,Int.reduceToNat,Int.reduceLE,Int.reduceLT, a_im, a_inp, a_st, a_fin, a_code, a_data, a_pc, askC_length, askC_all, one_imm, eq_true h1]
    refine VCall.of_contract awake_c (SleL.pure rfl) fun x hx => ?_
    subst hx
    simp only [go_sem,Nat.reduceEqDiff,Nat.reduceAdd,Nat.reduceMul,↓reduceIte,↓dreduceIte,reduceCtorEq,Nat.reduceLeDiff,Nat.reduceLT,Nat.reduceSub,Int.reduceToNat,Int.reduceLE,Int.reduceLT]
    exact ⟨_, Frz.pure rfl, rfl⟩
  by_cases h2 : s.pc < 0
  · simp only [go_sem,Nat.reduceEqDiff,Nat.reduceAdd,Nat.reduceMul,↓reduceIte,↓dreduceIte,reduceCtorEq,Nat.reduceLeDiff,Nat.reduceLT,Nat.reduceSub,Int.reduceToNat,Int.reduceLE,Int.reduceLT, a_im, a_inp, a_st, a_fin, a_code, a_data, a_pc, askC_length, askC_all, one_imm, eq_false h1, eq_true h2]
    refine VCall.of_contract awake_c (SleL.pure rfl) fun x hx => ?_
    subst hx
    simp only [go_sem,Nat.reduceEqDiff,Nat.reduceAdd,Nat.reduceMul,↓reduceIte,↓dreduceIte,reduceCtorEq,Nat.reduceLeDiff,Nat.reduceLT,Nat.reduceSub,Int.reduceToNat,Int.reduceLE,Int.reduceLT]
    exact ⟨_, Frz.pure rfl, rfl⟩
  by_cases h3 : (code.length : Int) ≤ s.pc
  · simp only [go_sem,Nat.reduceEqDiff,Nat.reduceAdd,Nat.reduceMul,↓reduceIte,↓dreduceIte,reduceCtorEq,Nat.reduceLeDiff,Nat.reduceLT,Nat.reduceSub,Int.reduceToNat,Int.reduceLE,Int.reduceLT, a_im, a_inp, a_st, a_fin, a_code, a_data, a_pc, askC_length, askC_all, one_imm, eq_false h1, eq_false h2, eq_true h3]
    refine VCall.of_contract awake_c (SleL.pure rfl) fun x hx => ?_
    subst hx
    simp only [go_sem,Nat.reduceEqDiff,Nat.reduceAdd,Nat.reduceMul,↓reduceIte,↓dreduceIte,reduceCtorEq,Nat.reduceLeDiff,Nat.reduceLT,Nat.reduceSub,Int.reduceToNat,Int.reduceLE,Int.reduceLT]
    exact ⟨_, Frz.pure rfl, rfl⟩
  by_cases h4 : (other.length : Int) ≤ s.pc
  · simp only [go_sem,Nat.reduceEqDiff,Nat.reduceAdd,Nat.reduceMul,↓reduceIte,↓dreduceIte,reduceCtorEq,Nat.reduceLeDiff,Nat.reduceLT,Nat.reduceSub,Int.reduceToNat,Int.reduceLE,Int.reduceLT, a_im, a_inp, a_st, a_fin, a_code, a_data, a_pc, askC_length, askC_all, one_imm, eq_false h1, eq_false h2, eq_false h3, eq_true h4]
    refine VCall.of_contract awake_c (SleL.pure rfl) fun x hx => ?_
    subst hx
    simp only [go_sem,Nat.reduceEqDiff,Nat.reduceAdd,Nat.reduceMul,↓reduceIte,↓dreduceIte,reduceCtorEq,Nat.reduceLeDiff,Nat.reduceLT,Nat.reduceSub,Int.reduceToNat,Int.reduceLE,Int.reduceLT]
    exact ⟨_, Frz.pure rfl, rfl⟩
  simp only [go_sem,Nat.reduceEqDiff,Nat.reduceAdd,Nat.reduceMul,↓reduceIte,↓dreduceIte,reduceCtorEq,Nat.reduceLeDiff,Nat.reduceLT,Nat.reduceSub,Int.reduceToNat,Int.reduceLE,Int.reduceLT, a_im, a_inp, a_st, a_fin, a_code, a_data, a_pc, askC_length, askC_all, one_imm, eq_false h1, eq_false h2, eq_false h3, eq_false h4]
  repeat (refine And.intro (by omega) ?_)
  obtain ⟨w, hw⟩ : ∃ w, code.getD s.pc.toNat default = w := ⟨_, rfl⟩
  have hwi : In32 w := by
    rw [← hw, List.getD_eq_getElem?_getD, List.getElem?_eq_getElem (show s.pc.toNat < code.length by omega)]
    exact h.fit _ (List.getElem_mem _)
  rw [hw]
  refine VCall.of_contract (refdecode_c w hwi) (SleL.pure rfl) fun x hx => ?_
  subst hx
  obtain ⟨o, a, b, c, e, hd, hi⟩ := decA_as w
  rw [hd]
  have hall : allCells (other.map U32) = other.map U32 := allCells_map1 (fun _ => rfl) other
  have hmx : (2000000 : Nat) ≤ maxLen := by decide
  by_cases h5 : okW w = true ∧ opW w = 27
  · obtain ⟨he, ho⟩ := hi.2 h5
    subst he; subst ho
    simp only [go_sem,Nat.reduceEqDiff,Nat.reduceAdd,Nat.reduceMul,↓reduceIte,↓dreduceIte,reduceCtorEq,Nat.reduceLeDiff,Nat.reduceLT,Nat.reduceSub,Int.reduceToNat,Int.reduceLE,Int.reduceLT, a_im, a_inp, a_st, a_fin, a_code, a_data, a_pc, askC_length, askC_all, one_imm, hw, Int.reduceEq, Int.reduceBEq]
    refine VCall.of_contract awake_c (SleL.pure rfl) fun x hx => ?_
    subst hx
    simp only [go_sem,Nat.reduceEqDiff,Nat.reduceAdd,Nat.reduceMul,↓reduceIte,↓dreduceIte,reduceCtorEq,Nat.reduceLeDiff,Nat.reduceLT,Nat.reduceSub,Int.reduceToNat,Int.reduceLE,Int.reduceLT]
    exact ⟨_, Frz.pure rfl, rfl⟩
  have h6 : ¬ (e = 0 ∧ o = 27) := fun q => h5 (hi.1 q)
  have hps : s.pc.toNat < other.length := by omega
  have hst : stepF (other.set s.pc.toNat w) inp s = stepF code inp s := by
    refine stepF_hangs code _ inp s (by omega) (by omega) (by rw [List.length_set]; omega) ?_ (by rw [hw]; exact h5)
    rw [hw, List.getD_eq_getElem?_getD, List.getElem?_set_self hps]; rfl
  have hcode : ∀ x ∈ other.set s.pc.toNat w, In32 x := fun x hx => by
    rcases List.mem_or_eq_of_mem_set hx with hx | rfl
    · exact ho x hx
    · exact hwi
  have hwf : (stepF code inp s).mem.length = s.mem.length := (stepF_wf code inp s h.fit k.wf).2.1
  have hsm := same_c (stepF code inp s) (stepF code inp s) (by omega)
  rw [sameB_refl] at hsm
  have h9 : (e = 0 ∧ ¬ o = 27) ∨ ¬ e = 0 := by
    by_cases h7 : e = 0
    · exact .inl ⟨h7, fun q => h6 ⟨h7, q⟩⟩
    · exact .inr h7
  rcases h9 with ⟨h7, h8⟩ | h7
  all_goals
    first
    | simp only [go_sem,Nat.reduceEqDiff,Nat.reduceAdd,Nat.reduceMul,↓reduceIte,↓dreduceIte,reduceCtorEq,Nat.reduceLeDiff,Nat.reduceLT,Nat.reduceSub,Int.reduceToNat,Int.reduceLE,Int.reduceLT, a_im, a_inp, a_st, a_fin, a_code, a_data, a_pc, askC_length, askC_all, one_imm, hw, eq_true h7, eq_false h8, cellT_U32, set_map, hall, eq_false h2, eq_false h3, eq_false h4]
    | simp only [go_sem,Nat.reduceEqDiff,Nat.reduceAdd,Nat.reduceMul,↓reduceIte,↓dreduceIte,reduceCtorEq,Nat.reduceLeDiff,Nat.reduceLT,Nat.reduceSub,Int.reduceToNat,Int.reduceLE,Int.reduceLT, a_im, a_inp, a_st, a_fin, a_code, a_data, a_pc, askC_length, askC_all, one_imm, hw, eq_false h7, cellT_U32, set_map, hall]
    repeat (refine And.intro (by first | omega | (intro y hy; obtain ⟨x, _, rfl⟩ := List.mem_map.1 hy; rfl)) ?_)
    refine ParkT.of (st' := ⟨[(8, .ip (.agg [words (other.set s.pc.toNat w), I data])), (2, .ptr 0 0 0), (4, .val (.bool false))], [{ s := 0, ty := 34, sz := 1, cs := askC (words code) data inp s.pc s.reg (words s.mem) s.rd s.out s.st s.fin }], 5⟩) ?_ ?_
    · refine Wk.give ?_ ?_ (Nat.le_refl _)
      · intro p hp
        simp only [List.mem_cons, List.not_mem_nil, or_false] at hp
        rcases hp with rfl | rfl | rfl
        · right
          refine Frz.ptr (by show 1 ≤ 3; omega) rfl rfl (by show (1 : Nat) ≠ 0; omega) ⟨_, _, rfl, Frz.ref (by show 1 ≤ 2; omega) rfl rfl rfl ?_ ?_, _, _, rfl, Frz.pure rfl, rfl⟩
          · rw [List.all_eq_true]; intro y hy; obtain ⟨x, _, rfl⟩ := List.mem_map.1 hy; rfl
          · rw [List.drop_zero, List.take_of_length_le (by simp)]
            exact FrzL.pure (by rw [List.all_eq_true]; intro y hy; obtain ⟨x, _, rfl⟩ := List.mem_map.1 hy; rfl)
        · left; rfl
        · left; rfl
      · exact ⟨rfl, rfl, rfl, (fun h => by cases h), CW.refl _, trivial⟩
    simp only [go_sem,Nat.reduceEqDiff,Nat.reduceAdd,Nat.reduceMul,↓reduceIte,↓dreduceIte,reduceCtorEq,Nat.reduceLeDiff,Nat.reduceLT,Nat.reduceSub,Int.reduceToNat,Int.reduceLE,Int.reduceLT]
    refine ECall.of awake_c (SleL.pure rfl) ⟨_, fun _ => Iff.rfl⟩ fun x hx => ?_
    subst hx
    simp only [go_sem,Nat.reduceEqDiff,Nat.reduceAdd,Nat.reduceMul,↓reduceIte,↓dreduceIte,reduceCtorEq,Nat.reduceLeDiff,Nat.reduceLT,Nat.reduceSub,Int.reduceToNat,Int.reduceLE,Int.reduceLT, a_im, a_inp, a_st, a_fin, a_code, a_data, a_pc, askC_length, askC_all, one_imm]
    refine ECall.of (step_c (other.set s.pc.toNat w) data inp s hcode (by rw [List.length_set]; omega) (by omega) k.wf (by omega) (by omega)) (SleL.pure rfl) ⟨_, fun _ => Iff.rfl⟩ fun x hx => ?_
    subst hx
    rw [hst]
    simp only [go_sem,Nat.reduceEqDiff,Nat.reduceAdd,Nat.reduceMul,↓reduceIte,↓dreduceIte,reduceCtorEq,Nat.reduceLeDiff,Nat.reduceLT,Nat.reduceSub,Int.reduceToNat,Int.reduceLE,Int.reduceLT, a_im, a_inp, a_st, a_fin, a_code, a_data, a_pc, askC_length, askC_all, one_imm]
    refine ECall.of (step_c code data inp s h.fit (by omega) (by omega) k.wf (by omega) (by omega)) (SleL.pure rfl) ⟨_, fun _ => Iff.rfl⟩ fun x hx => ?_
    subst hx
    simp only [go_sem,Nat.reduceEqDiff,Nat.reduceAdd,Nat.reduceMul,↓reduceIte,↓dreduceIte,reduceCtorEq,Nat.reduceLeDiff,Nat.reduceLT,Nat.reduceSub,Int.reduceToNat,Int.reduceLE,Int.reduceLT, a_im, a_inp, a_st, a_fin, a_code, a_data, a_pc, askC_length, askC_all, one_imm]
    refine ECall.of hsm (SleL.pure rfl) ⟨_, fun _ => Iff.rfl⟩ fun x hx => ?_
    subst hx
    simp only [go_sem,Nat.reduceEqDiff,Nat.reduceAdd,Nat.reduceMul,↓reduceIte,↓dreduceIte,reduceCtorEq,Nat.reduceLeDiff,Nat.reduceLT,Nat.reduceSub,Int.reduceToNat,Int.reduceLE,Int.reduceLT]
    exact ⟨_, Frz.pure rfl, rfl⟩

set_option maxRecDepth 100000 in
theorem machinehangs_lifted (os : Os) (started : os.Started) (H : Type) (enc : TypeId × Value → H) :
    ReturnsInHanded {} Try.checked os 8 .any (Rows.machineHangsSpec.pre6 enc Try.prog Try.f8 Rows.machineHangsRow.domain false) (Rows.machineHangsSpec.post enc Try.prog Try.f8 false true false false) := by
  refine returnsInHanded_of_change_sized (C := Try.checked) Try.own started (by kernel_rfl) Try.func8
    (ChangeSpec.witness6 (enc := enc) (C := Try.checked) false ⟨#[], #[.agg #[.slice none 0 0, .int .i64 0, .string ⟨#[]⟩, .int .i64 0, .int .u32 0, .int .u32 0, .int .u32 0, .int .u32 0, .int .u32 0, .int .u32 0, .int .u32 0, .int .u32 0, .int .u32 0, .int .u32 0, .int .u32 0, .int .u32 0, .int .u32 0, .int .u32 0, .int .u32 0, .int .u32 0, .slice none 0 0, .int .i64 0, .string ⟨#[]⟩, .int .i64 0, .int .i64 0], .slice none 0 0], []⟩ 8 (by kernel_rfl) (by kernel_rfl) (by kernel_rfl) (by kernel_rfl)) ?_
  intro W base args ds gs before hval hW _ hwt _
  refine law_calls (P := Try.prog) (n := 20) (shs := [askSh, .sl 1 4 wSh]) (tb := 4) Try.laidOut rfl (by kernel_rfl) (by kernel_rfl) (by decide +kernel) (by kernel_rfl) (fun ds h => ?_) (fun xs hx => ?_) hval hW hwt
  · match ds, h with
    | [d1, d2], _ => rfl
  · obtain ⟨x, xs', rfl, hx1, hxs⟩ := fitL_cons hx
    obtain ⟨y, ys', rfl, hy, hys⟩ := fitL_cons hxs
    simp only [Sh.fitL] at hys
    subst hys
    obtain ⟨code, data, inp, s, rfl, h, k⟩ := ask_of hx1
    obtain ⟨l, rfl, h1, h2⟩ := fit_ws hy
    exact machinehangs_c code data inp s l h k h1 h2

theorem machinehangs_holds : Rows.MachineHangsSaid :=
  OpenClaim.holds_of_wide 8 Try.f8 rfl rfl rfl rfl rfl rfl rfl ⟨rfl, rfl, rfl, rfl, rfl⟩ rfl rfl rfl rfl rfl (by kernel_rfl) Try.func8 (by kernel_rfl)
    (of_decide_eq_true (by kernel_rfl)) (by unfold Func.isWrapper; first | (rw [if_pos (by decide +kernel)]; kernel_rfl) | (rw [if_neg (by decide +kernel)]; exact ⟨rfl, rfl⟩))
    (fun os started H enc _ => machinehangs_lifted os started H enc)
end Go.Proofs.Ytjkkmpkbiddhkaa
