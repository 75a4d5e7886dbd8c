/-
  ExecWords: the row. No condition.
-/
import Derived.Test.YtjoldjcfabbekaaEW
namespace Go.Proofs.Ytjoldjcfabbekaa
set_option linter.unusedSimpArgs false
set_option linter.unusedVariables false
set_option maxRecDepth 10000
open Go.V Go.ChangeShapes Go.WideShapes Go.ChangeAt Go.RowKit

/-- seedcorn/seedcornlaw10.ExecWords -/
def p_sclaw10_ExecWords : VC :=
 (.seq
  (.ops [
    ⟨(some 3), none, (.box 24 (.tmp 0))⟩,
    ⟨(some 6), none, (.mv (.const (.bool false)))⟩])
  (.seq
   (.seq
    (.ops [
      ⟨(some 14), none, (.call (.func 10) [])⟩,
      ⟨(some 15), none, (.un .not (.tmp 14))⟩])
    (.cond (.tmp 15)
     (.seq
      (.ops [
        ⟨(some 6), none, (.mv (.const (.bool false)))⟩])
      .ret)
     .skip))
   (.seq
    (.seq
     (.ops [
       ⟨(some 16), none, (.ld true 2 (.tmp 3))⟩,
       ⟨(some 17), none, (.mv (.tmp 1))⟩,
       ⟨(some 18), none, (.call (.func 11) [(.tmp 16), (.tmp 17), (.const (.int .i64 0))])⟩,
       ⟨(some 19), none, (.un .not (.tmp 18))⟩])
     (.cond (.tmp 19)
      (.seq
       (.ops [
         ⟨(some 6), none, (.mv (.const (.bool true)))⟩])
       .ret)
      .skip))
    (.seq
     (.ops [
       ⟨(some 20), none, (.ld true 2 (.tmp 3))⟩,
       ⟨(some 21), none, (.mv (.tmp 1))⟩,
       ⟨(some 22), none, (.call (.func 12) [(.tmp 20), (.tmp 21), (.const (.int .i64 200))])⟩,
       ⟨(some 7), none, (.alc 28 [(.int .i64 0), (.string ⟨#[]⟩), (.int .i64 0)])⟩,
       ⟨none, none, (.sto true 3 (.tmp 7) (.tmp 22))⟩])
     (.seq
      (.ops [
        ⟨(some 23), none, (.ld true 2 (.tmp 3))⟩,
        ⟨(some 24), none, (.mv (.tmp 1))⟩,
        ⟨(some 25), none, (.call (.func 13) [(.tmp 23), (.tmp 24), (.const (.int .i64 200))])⟩,
        ⟨(some 8), none, (.mv (.tmp 25))⟩])
      (.seq
       (.seq
        (.ops [
          ⟨(some 26), none, (.mv (.tmp 8))⟩,
          ⟨(some 27), none, (.len (.tmp 26))⟩,
          ⟨(some 28), none, (.fad 0 false 1 (.tmp 3))⟩,
          ⟨(some 29), none, (.ld false 1 (.tmp 28))⟩,
          ⟨(some 30), none, (.len (.tmp 29))⟩,
          ⟨(some 31), none, (.bin .neq (.tmp 27) (.tmp 30))⟩])
        (.cond (.tmp 31)
         (.seq
          (.ops [
            ⟨(some 6), none, (.mv (.const (.bool false)))⟩])
          .ret)
         .skip))
       (.seq
        (.ops [
          ⟨(some 32), none, (.fad 1 false 1 (.tmp 3))⟩,
          ⟨(some 33), none, (.ld false 1 (.tmp 32))⟩,
          ⟨(some 34), none, (.bld [(.slice none 0 0), (.int .i64 0)] [(1, (1, (.tmp 33)))])⟩,
          ⟨(some 9), none, (.alc 24 [(.slice none 0 0), (.int .i64 0)])⟩,
          ⟨none, none, (.sto true 2 (.tmp 9) (.tmp 34))⟩])
        (.seq
         (.seq
          (.ops [
            ⟨(some 10), none, (.mv (.const (.int .i64 0)))⟩])
          (.block 0
           (.loop
            (.seq
             (.seq
              (.ops [
                ⟨(some 35), none, (.mv (.tmp 10))⟩,
                ⟨(some 36), none, (.mv (.tmp 8))⟩,
                ⟨(some 37), none, (.len (.tmp 36))⟩,
                ⟨(some 38), none, (.bin .lss (.tmp 35) (.tmp 37))⟩])
              (.cond (.tmp 38)
               .skip
               (.exit 0)))
             (.seq
              (.block 1
               (.seq
                (.ops [
                  ⟨(some 41), none, (.fad 0 false 1 (.tmp 3))⟩,
                  ⟨(some 42), none, (.ld false 1 (.tmp 41))⟩,
                  ⟨(some 43), none, (.mv (.tmp 10))⟩,
                  ⟨(some 44), none, (.idx 1 (.tmp 42) (.tmp 43))⟩,
                  ⟨(some 45), none, (.ld false 1 (.tmp 44))⟩,
                  ⟨(some 11), none, (.mv (.tmp 45))⟩])
                (.seq
                 (.seq
                  (.ops [
                    ⟨(some 46), none, (.mv (.tmp 8))⟩,
                    ⟨(some 47), none, (.mv (.tmp 10))⟩,
                    ⟨(some 48), none, (.idx 1 (.tmp 46) (.tmp 47))⟩,
                    ⟨(some 49), none, (.ld false 1 (.tmp 48))⟩,
                    ⟨(some 50), none, (.bin .eql (.tmp 49) (.const (.int .i64 0)))⟩])
                  (.cond (.tmp 50)
                   (.ops [
                     ⟨(some 51), none, (.mv (.tmp 2))⟩,
                     ⟨(some 11), none, (.mv (.tmp 51))⟩])
                   .skip))
                 (.seq
                  (.seq
                   (.ops [
                     ⟨(some 53), none, (.fad 0 false 1 (.tmp 3))⟩,
                     ⟨(some 54), none, (.ld false 1 (.tmp 53))⟩,
                     ⟨(some 55), none, (.mv (.tmp 10))⟩,
                     ⟨(some 56), none, (.idx 1 (.tmp 54) (.tmp 55))⟩,
                     ⟨(some 57), none, (.ld false 1 (.tmp 56))⟩,
                     ⟨(some 58), none, (.call (.func 22) [(.tmp 57)])⟩,
                     ⟨(some 52), none, (.mv (.tmp 58))⟩,
                     ⟨(some 59), none, (.ext (.tmp 52) 0)⟩,
                     ⟨(some 60), none, (.ext (.tmp 52) 1)⟩,
                     ⟨(some 12), none, (.alc 47 [(.int .i64 0), (.int .i64 0), (.int .i64 0), (.int .i64 0)])⟩,
                     ⟨none, none, (.sto true 4 (.tmp 12) (.tmp 59))⟩,
                     ⟨(some 13), none, (.mv (.tmp 60))⟩])
                   (.seq
                    (.ops [
                      ⟨(some 61), none, (.mv (.tmp 13))⟩,
                      ⟨(some 62), none, (.bin .eql (.tmp 61) (.const (.int .i64 0)))⟩,
                      ⟨(some 63), none, (.mv (.tmp 62))⟩,
                      ⟨(some 64), (some (63, true)), (.fad 0 false 1 (.tmp 12))⟩,
                      ⟨(some 65), (some (63, true)), (.ld false 1 (.tmp 64))⟩,
                      ⟨(some 66), (some (63, true)), (.bin .eql (.tmp 65) (.const (.int .i64 27)))⟩,
                      ⟨(some 67), none, (.pick (.tmp 63) (.tmp 66) (.const (.bool false)))⟩,
                      ⟨(some 68), none, (.mv (.tmp 67))⟩,
                      ⟨(some 69), (some (68, true)), (.mv (.tmp 8))⟩,
                      ⟨(some 70), (some (68, true)), (.mv (.tmp 10))⟩,
                      ⟨(some 71), (some (68, true)), (.idx 1 (.tmp 69) (.tmp 70))⟩,
                      ⟨(some 72), (some (68, true)), (.ld false 1 (.tmp 71))⟩,
                      ⟨(some 73), (some (68, true)), (.bin .gtr (.tmp 72) (.const (.int .i64 0)))⟩,
                      ⟨(some 74), none, (.pick (.tmp 68) (.tmp 73) (.const (.bool false)))⟩])
                    (.cond (.tmp 74)
                     (.seq
                      (.ops [
                        ⟨(some 6), none, (.mv (.const (.bool true)))⟩])
                      .ret)
                     .skip)))
                  (.ops [
                    ⟨(some 75), none, (.fad 0 false 1 (.tmp 9))⟩,
                    ⟨(some 76), none, (.ld false 1 (.tmp 75))⟩,
                    ⟨(some 77), none, (.mv (.tmp 11))⟩,
                    ⟨(some 78), none, (.bsl 34 1 1 [(.int .u32 0)] [(0, (1, (.tmp 77)))])⟩,
                    ⟨(some 79), none, (.app 34 1 4 (.tmp 76) (.tmp 78))⟩,
                    ⟨(some 80), none, (.fad 0 false 1 (.tmp 9))⟩,
                    ⟨none, none, (.sto false 1 (.tmp 80) (.tmp 79))⟩])))))
              (.ops [
                ⟨(some 39), none, (.mv (.tmp 10))⟩,
                ⟨(some 40), none, (.bin .add (.tmp 39) (.const (.int .i64 1)))⟩,
                ⟨(some 10), none, (.mv (.tmp 40))⟩]))))))
         (.seq
          (.park false (.one ⟨(some 81), none, (.ld true 3 (.tmp 7))⟩ (.one ⟨(some 82), none, (.ld true 2 (.tmp 9))⟩ (.one ⟨(some 83), none, (.mv (.tmp 1))⟩ (.one ⟨(some 84), none, (.call (.func 12) [(.tmp 82), (.tmp 83), (.const (.int .i64 200))])⟩ (.one ⟨(some 85), none, (.call (.func 21) [(.tmp 81), (.tmp 84)])⟩ (.one ⟨(some 6), none, (.mv (.tmp 85))⟩ .done)))))))
          .ret)))))))))
theorem q_sclaw10_ExecWords : compFp Try.prog true 6 = some (86, p_sclaw10_ExecWords, [(.tmp 6)]) := by kernel_rfl

/-- What is known at the head of the loop. -/
structure WQ where
  k : Nat
  R : AV
  J : List VObj
  nx : Nat
def wF (code : List Int) (data : Int) (inp : ByteArray) (other : Int) (l : List Int) (e : Int) (o : ByteArray) (st : Int) (q : WQ) : St :=
  ⟨[(1, strv inp), (2, U32 other), (3, .ptr 0 0 0), (6, B false), (7, .ptr 1 1 0), (8, ints l), (9, .ptr 2 2 0), (10, I q.k)],
    ⟨0, 24, 1, [words code, I data]⟩ :: ⟨1, 28, 1, [I e, strv o, I st]⟩ :: ⟨2, 24, 1, [q.R, I data]⟩ :: q.J, q.nx⟩
def wI (code : List Int) (other : Int) (l : List Int) (q : WQ) : Prop :=
  q.k ≤ code.length ∧ (∀ i, i < q.k → 0 < l.getD i default → ¬ (okW (code.getD i default) = true ∧ opW (code.getD i default) = 27)) ∧
  ((q.k = 0 ∧ q.R = nilv) ∨ ∃ j s, q.R = .ref (j + 3) s 0 q.k ∧ q.J[j]? = some ⟨s, 34, 1, ((codeX code l other).take q.k).map U32⟩)

theorem execwords_c (code : List Int) (data : Int) (inp : ByteArray) (other : Int) (h : Im code data) (ho : In32 other) : Contract Try.prog 6 [imgA code data, strv inp, U32 other] (fun r => r = B true) := by
  refine Contract.of_call (VCall.of_bodyP hmix q_sclaw10_ExecWords (by simp) ?_)
  simp only [go_sem,Nat.reduceEqDiff,Nat.reduceAdd,Nat.reduceMul,↓reduceIte,↓dreduceIte,reduceCtorEq,Nat.reduceLeDiff,Nat.reduceLT,Nat.reduceSub,Int.reduceToNat,Int.reduceLE,Int.reduceLT, p_sclaw10_ExecWords, one_imm]
  refine VCall.of_contract alive_c (SleL.pure rfl) fun x hx => ?_
  subst hx
  simp only [go_sem,Nat.reduceEqDiff,Nat.reduceAdd,Nat.reduceMul,↓reduceIte,↓dreduceIte,reduceCtorEq,Nat.reduceLeDiff,Nat.reduceLT,Nat.reduceSub,Int.reduceToNat,Int.reduceLE,Int.reduceLT, one_imm]
  refine VCall.of_contract (few_c code data inp 0) (SleL.pure rfl) fun x hx => ?_
  subst hx
  cases hb : fewB code data inp 0
  · simp only [go_sem,Nat.reduceEqDiff,Nat.reduceAdd,Nat.reduceMul,↓reduceIte,↓dreduceIte,reduceCtorEq,Nat.reduceLeDiff,Nat.reduceLT,Nat.reduceSub,Int.reduceToNat,Int.reduceLE,Int.reduceLT, one_imm]
    exact ⟨_, Frz.pure rfl, rfl⟩
  obtain ⟨b1, b2, b3, b4⟩ := fewB_iff.1 hb
  simp only [go_sem,Nat.reduceEqDiff,Nat.reduceAdd,Nat.reduceMul,↓reduceIte,↓dreduceIte,reduceCtorEq,Nat.reduceLeDiff,Nat.reduceLT,Nat.reduceSub,Int.reduceToNat,Int.reduceLE,Int.reduceLT, one_imm]
  refine VCall.of_contract (run_c code data inp 200 h.fit (by omega) (by omega) (by omega)) (SleL.pure rfl) fun x hx => ?_
  subst hx
  simp only [go_sem,Nat.reduceEqDiff,Nat.reduceAdd,Nat.reduceMul,↓reduceIte,↓dreduceIte,reduceCtorEq,Nat.reduceLeDiff,Nat.reduceLT,Nat.reduceSub,Int.reduceToNat,Int.reduceLE,Int.reduceLT, one_imm]
  refine VCall.of_contract (counts_c code data inp 200 h.fit (by omega) (by omega) (by omega)) (SleL.pure rfl) fun x hx => ?_
  subst hx
  have hll := cntL_len code inp (startF data) 200
  have hle := cntL_le code inp (startF data) 200
  have hrun : ∀ l : List Int, l = cntL code inp (startF data) 200 → (∀ i, i < code.length → 0 < l.getD i default → ¬ (okW (code.getD i default) = true ∧ opW (code.getD i default) = 27)) → runA (codeX code l other) data inp 200 = runA code data inp 200 := fun l hl hh => by
    subst hl
    have e := runN_words (other := other) hh 200 (Nat.le_refl _)
    have e2 : runF (codeX code (cntL code inp (startF data) 200) other) data inp 200 = runF code data inp 200 := e
    rw [runA, e2]
  have h200 : (200 : Int).toNat = 200 := rfl
  rw [h200]
  obtain ⟨l, hl⟩ : ∃ l, l = cntL code inp (startF data) 200 := ⟨_, rfl⟩
  have hrun := hrun l hl
  rw [← hl] at hll hle ⊢
  obtain ⟨ρ, hρ⟩ : ∃ ρ, ρ = runF code data inp 200 := ⟨_, rfl⟩
  have hX := codeX_len (other := other) hll
  have hXi := codeX_in (l := l) h.fit ho
  have hmx : (2000000 : Nat) ≤ maxLen := by decide
  simp only [go_sem,Nat.reduceEqDiff,Nat.reduceAdd,Nat.reduceMul,↓reduceIte,↓dreduceIte,reduceCtorEq,Nat.reduceLeDiff,Nat.reduceLT,Nat.reduceSub,Int.reduceToNat,Int.reduceLE,Int.reduceLT, one_imm, hll]
  refine VW_loop (wF code data inp other l (endF (runF code data inp 200)) (runF code data inp 200).out (runF code data inp 200).st) (wI code other l) (fun q => code.length - q.k) ⟨0, nilv, [], 3⟩
    (Wk.mk (by simp [get_cons, wF]) ⟨[], rfl⟩ (Nat.le_refl _)) ⟨Nat.zero_le _, fun i hi => absurd hi (Nat.not_lt_zero _), .inl ⟨rfl, rfl⟩⟩ ?_
  rintro ⟨k, R, J, nx⟩ ⟨h1, h2, h3⟩
  simp only at h1 h2 h3
  by_cases c1 : (k : Int) < code.length
  · have hk : k < code.length := by omega
    obtain ⟨w, hw⟩ : ∃ w, code.getD k default = w := ⟨_, rfl⟩
    have hwi : In32 w := by
      rw [← hw, List.getD_eq_getElem?_getD, List.getElem?_eq_getElem hk]
      exact h.fit _ (List.getElem_mem _)
    obtain ⟨c, hc⟩ : ∃ c, l.getD k default = c := ⟨_, rfl⟩
    have hcn : 0 ≤ c := by
      rw [← hc, List.getD_eq_getElem?_getD, List.getElem?_eq_getElem (by omega)]
      exact (hle _ (List.getElem_mem _)).1
    have hg := codeX_get (other := other) hll hk
    rw [hc, hw] at hg
    obtain ⟨o, a, b, c', e, hd, hi_⟩ := decA_as w
    have htk : ∀ v, (codeX code l other).getD k default = v → (codeX code l other).take (k + 1) = (codeX code l other).take k ++ [v] := fun v hv => by
      rw [List.take_add_one, List.getElem?_eq_getElem (by omega)]
      rw [List.getD_eq_getElem?_getD, List.getElem?_eq_getElem (by omega)] at hv
      rw [← hv]; rfl
    have hlk : ((codeX code l other).take k).length = k := by rw [List.length_take]; omega
    have hJ2 : ∀ j s, J[j]? = some (⟨s, 34, 1, ((codeX code l other).take k).map U32⟩ : VObj) → ∀ X Y, (J ++ X ++ Y)[j]? = some (⟨s, 34, 1, ((codeX code l other).take k).map U32⟩ : VObj) := fun j s hj X Y => by
      rw [List.append_assoc, List.getElem?_append_left (List.getElem?_eq_some_iff.1 hj).1]; exact hj
    have hall1 : ∀ v, allCells [U32 v] = [U32 v] := fun v => rfl
    by_cases c2 : c = 0
    · rw [if_pos c2] at hg
      have ht := htk _ hg
      have c2' := eq_true c2
      have cp := eq_false (show ¬ (0 : Int) < c by omega)
      simp only [wF, go_sem,Nat.reduceEqDiff,Nat.reduceAdd,Nat.reduceMul,↓reduceIte,↓dreduceIte,reduceCtorEq,Nat.reduceLeDiff,Nat.reduceLT,Nat.reduceSub,Int.reduceToNat,Int.reduceLE,Int.reduceLT, eq_true c1, hw, hc, c2', hll, one_imm, one_ref, cellT_I1, cellT_U32, ogn, osn]
      repeat (refine And.intro (by omega) ?_)
      refine VCall.of_contract (refdecode_c w hwi) (SleL.pure rfl) fun x hx => ?_
      subst hx
      rw [hd]
      have h2' : ∀ i, i < k + 1 → 0 < l.getD i default → ¬ (okW (code.getD i default) = true ∧ opW (code.getD i default) = 27) := fun i hi hp => by
        by_cases e : i = k
        · subst e; rw [hc] at hp; omega
        · exact h2 i (by omega) hp
      rcases h3 with ⟨hk0, rfl⟩ | ⟨j, s, rfl, hj⟩
      · simp only [go_sem,Nat.reduceEqDiff,Nat.reduceAdd,Nat.reduceMul,↓reduceIte,↓dreduceIte,reduceCtorEq,Nat.reduceLeDiff,Nat.reduceLT,Nat.reduceSub,Int.reduceToNat,Int.reduceLE,Int.reduceLT, cp, hc, hll, hall1, one_imm, one_ref, cellT_I1, cellT_U32, ogn, osn]
        subst hk0
        refine ⟨fun _ => ⟨fun _ => ?_, fun _ => ?_⟩, fun _ => ?_⟩
        all_goals
          repeat (refine And.intro (by omega) ?_)
          rw [i64_in (by omega) (by omega)]
          refine ⟨⟨0 + 1, _, _, _⟩, ⟨?_, h2', .inr ⟨_, _, rfl, ?_⟩⟩, ?_, Wk.mk (by simp [get_cons, wF]) ⟨[], (List.append_nil _).symm⟩ (Nat.le_refl _)⟩
          · simp only; omega
          · simp only [ht, List.take_zero, List.nil_append, List.map_cons, List.map_nil]
            rw [List.getElem?_append_right (Nat.le_refl _), Nat.sub_self]; rfl
          · simp only; omega
      · have hj2 := hJ2 j s hj
        have hlt := (List.getElem?_eq_some_iff.1 hj).1
        simp only [go_sem,Nat.reduceEqDiff,Nat.reduceAdd,Nat.reduceMul,↓reduceIte,↓dreduceIte,reduceCtorEq,Nat.reduceLeDiff,Nat.reduceLT,Nat.reduceSub,Int.reduceToNat,Int.reduceLE,Int.reduceLT, cp, hc, hll, hall1, hj2, hlk, one_imm, one_ref, cellT_I1, cellT_U32, ogn, osn]
        refine ⟨fun _ => ⟨fun _ => ?_, fun _ => ?_⟩, fun _ => ?_⟩
        all_goals
          repeat (refine And.intro (by omega) ?_)
          rw [i64_in (by omega) (by omega)]
          refine ⟨⟨k + 1, _, _, _⟩, ⟨?_, h2', .inr ⟨_, _, rfl, ?_⟩⟩, ?_, Wk.mk (by simp [get_cons, wF]) ⟨[], (List.append_nil _).symm⟩ (Nat.le_refl _)⟩
          · simp only; omega
          · simp only [ht, List.map_append, List.map_cons, List.map_nil]
            rw [List.getElem?_set, if_pos rfl, if_pos (by simp; omega)]
            rw [List.take_of_length_le (by rw [List.length_map, hlk]; exact Nat.le_refl _)]
          · simp only; omega
    · rw [if_neg c2] at hg
      have ht := htk _ hg
      have c2' := eq_false c2
      have cp := eq_true (show (0 : Int) < c by omega)
      simp only [wF, go_sem,Nat.reduceEqDiff,Nat.reduceAdd,Nat.reduceMul,↓reduceIte,↓dreduceIte,reduceCtorEq,Nat.reduceLeDiff,Nat.reduceLT,Nat.reduceSub,Int.reduceToNat,Int.reduceLE,Int.reduceLT, eq_true c1, hw, hc, c2', hll, one_imm, one_ref, cellT_I1, cellT_U32, ogn, osn]
      repeat (refine And.intro (by omega) ?_)
      refine VCall.of_contract (refdecode_c w hwi) (SleL.pure rfl) fun x hx => ?_
      subst hx
      rw [hd]
      have h2n : ¬ (e = 0 ∧ o = 27) → ∀ i, i < k + 1 → 0 < l.getD i default → ¬ (okW (code.getD i default) = true ∧ opW (code.getD i default) = 27) := fun hn i hi hp => by
        by_cases e : i = k
        · subst e; rw [hw]; exact fun q => hn (hi_.2 q)
        · exact h2 i (by omega) hp
      rcases h3 with ⟨hk0, rfl⟩ | ⟨j, s, rfl, hj⟩
      · simp only [go_sem,Nat.reduceEqDiff,Nat.reduceAdd,Nat.reduceMul,↓reduceIte,↓dreduceIte,reduceCtorEq,Nat.reduceLeDiff,Nat.reduceLT,Nat.reduceSub,Int.reduceToNat,Int.reduceLE,Int.reduceLT, cp, hc, hll, hall1, one_imm, one_ref, cellT_I1, cellT_U32, ogn, osn]
        subst hk0
        refine ⟨fun d1 => ⟨fun d2 => ?_, fun d2 => ?_⟩, fun d1 => ?_⟩
        · refine ⟨by omega, ?_⟩
          exact ⟨_, Frz.pure rfl, rfl⟩
        · have h2' := h2n fun q => d2 q.2
          repeat (refine And.intro (by omega) ?_)
          rw [i64_in (by omega) (by omega)]
          refine ⟨⟨0 + 1, _, _, _⟩, ⟨?_, h2', .inr ⟨_, _, rfl, ?_⟩⟩, ?_, Wk.mk (by simp [get_cons, wF]) ⟨[], (List.append_nil _).symm⟩ (Nat.le_refl _)⟩
          · simp only; omega
          · simp only [ht, List.take_zero, List.nil_append, List.map_cons, List.map_nil]
            rw [List.getElem?_append_right (Nat.le_refl _), Nat.sub_self]; rfl
          · simp only; omega
        · have h2' := h2n fun q => d1 q.1
          repeat (refine And.intro (by omega) ?_)
          rw [i64_in (by omega) (by omega)]
          refine ⟨⟨0 + 1, _, _, _⟩, ⟨?_, h2', .inr ⟨_, _, rfl, ?_⟩⟩, ?_, Wk.mk (by simp [get_cons, wF]) ⟨[], (List.append_nil _).symm⟩ (Nat.le_refl _)⟩
          · simp only; omega
          · simp only [ht, List.take_zero, List.nil_append, List.map_cons, List.map_nil]
            rw [List.getElem?_append_right (Nat.le_refl _), Nat.sub_self]; rfl
          · simp only; omega
      · have hj2 := hJ2 j s hj
        have hlt := (List.getElem?_eq_some_iff.1 hj).1
        simp only [go_sem,Nat.reduceEqDiff,Nat.reduceAdd,Nat.reduceMul,↓reduceIte,↓dreduceIte,reduceCtorEq,Nat.reduceLeDiff,Nat.reduceLT,Nat.reduceSub,Int.reduceToNat,Int.reduceLE,Int.reduceLT, cp, hc, hll, hall1, hj2, hlk, one_imm, one_ref, cellT_I1, cellT_U32, ogn, osn]
        refine ⟨fun d1 => ⟨fun d2 => ?_, fun d2 => ?_⟩, fun d1 => ?_⟩
        · refine ⟨by omega, ?_⟩
          exact ⟨_, Frz.pure rfl, rfl⟩
        · have h2' := h2n fun q => d2 q.2
          repeat (refine And.intro (by omega) ?_)
          rw [i64_in (by omega) (by omega)]
          refine ⟨⟨k + 1, _, _, _⟩, ⟨?_, h2', .inr ⟨_, _, rfl, ?_⟩⟩, ?_, Wk.mk (by simp [get_cons, wF]) ⟨[], (List.append_nil _).symm⟩ (Nat.le_refl _)⟩
          · simp only; omega
          · simp only [ht, List.map_append, List.map_cons, List.map_nil]
            rw [List.getElem?_set, if_pos rfl, if_pos (by simp; omega)]
            rw [List.take_of_length_le (by rw [List.length_map, hlk]; exact Nat.le_refl _)]
          · simp only; omega
        · have h2' := h2n fun q => d1 q.1
          repeat (refine And.intro (by omega) ?_)
          rw [i64_in (by omega) (by omega)]
          refine ⟨⟨k + 1, _, _, _⟩, ⟨?_, h2', .inr ⟨_, _, rfl, ?_⟩⟩, ?_, Wk.mk (by simp [get_cons, wF]) ⟨[], (List.append_nil _).symm⟩ (Nat.le_refl _)⟩
          · simp only; omega
          · simp only [ht, List.map_append, List.map_cons, List.map_nil]
            rw [List.getElem?_set, if_pos rfl, if_pos (by simp; omega)]
            rw [List.take_of_length_le (by rw [List.length_map, hlk]; exact Nat.le_refl _)]
          · simp only; omega
  · have e : k = code.length := by omega
    subst e
    simp only [wF, go_sem,Nat.reduceEqDiff,Nat.reduceAdd,Nat.reduceMul,↓reduceIte,↓dreduceIte,reduceCtorEq,Nat.reduceLeDiff,Nat.reduceLT,Nat.reduceSub,Int.reduceToNat,Int.reduceLE,Int.reduceLT, eq_false c1, hll, one_imm, one_ref, cellT_I1, cellT_U32, ogn, osn]
    have hrunX := run_c (codeX code l other) data inp 200 hXi (by omega) (by omega) (by omega)
    rw [hrun h2] at hrunX
    have hs' := execsame_c (endF (runF code data inp 200)) (runF code data inp 200).out (runF code data inp 200).st (endF (runF code data inp 200)) (runF code data inp 200).out (runF code data inp 200).st
    rw [sameR_refl] at hs'
    have hR : Frz 2 (⟨0, 24, 1, [words code, I data]⟩ :: ⟨1, 28, 1, [I (endF (runF code data inp 200)), strv (runF code data inp 200).out, I (runF code data inp 200).st]⟩ :: ⟨2, 24, 1, [R, I data]⟩ :: J) nx R (words (codeX code l other)) := by
      rcases h3 with ⟨hk0, rfl⟩ | ⟨j, s, rfl, hj⟩
      · have : codeX code l other = [] := List.length_eq_zero_iff.1 (by omega)
        rw [this]; exact Frz.nil 1
      · rw [List.take_of_length_le (by omega)] at hj
        refine Frz.ref (by omega) (by simpa using hj) rfl rfl ?_ ?_
        · rw [List.all_eq_true]; intro y hy; obtain ⟨x, _, rfl⟩ := List.mem_map.1 hy; rfl
        · rw [List.drop_zero, List.take_of_length_le (by simp; omega)]
          exact FrzL.pure (by rw [List.all_eq_true]; intro y hy; obtain ⟨x, _, rfl⟩ := List.mem_map.1 hy; rfl)
    refine ParkT.of (st' := ⟨[(1, strv inp), (7, .ptr 1 1 0), (9, .ip (.agg [words (codeX code l other), I data])), (6, .val (.bool false))], [⟨0, 24, 1, [words code, I data]⟩, ⟨1, 28, 1, [I (endF (runF code data inp 200)), strv (runF code data inp 200).out, I (runF code data inp 200).st]⟩], nx⟩) ?_ ?_
    · refine Wk.give ?_ ?_ (Nat.le_refl _)
      · intro p hp
        simp only [List.mem_cons, List.not_mem_nil, or_false] at hp
        rcases hp with rfl | rfl | rfl | rfl
        · left; rfl
        · left; rfl
        · right
          exact Frz.ptr (by show 2 ≤ 2; omega) rfl rfl (by show (1 : Nat) ≠ 0; omega) ⟨_, _, rfl, hR, _, _, rfl, Frz.pure rfl, rfl⟩
        · left; rfl
      · exact ⟨rfl, rfl, rfl, (fun h => by cases h), CW.refl _, rfl, rfl, rfl, (fun h => by cases h), CW.refl _, trivial⟩
    simp only [go_sem,Nat.reduceEqDiff,Nat.reduceAdd,Nat.reduceMul,↓reduceIte,↓dreduceIte,reduceCtorEq,Nat.reduceLeDiff,Nat.reduceLT,Nat.reduceSub,Int.reduceToNat,Int.reduceLE,Int.reduceLT, one_imm]
    refine ECall.of hrunX (SleL.pure rfl) ⟨_, fun _ => Iff.rfl⟩ fun x hx => ?_
    subst hx
    simp only [go_sem,Nat.reduceEqDiff,Nat.reduceAdd,Nat.reduceMul,↓reduceIte,↓dreduceIte,reduceCtorEq,Nat.reduceLeDiff,Nat.reduceLT,Nat.reduceSub,Int.reduceToNat,Int.reduceLE,Int.reduceLT, one_imm]
    refine ECall.of hs' (SleL.pure rfl) ⟨_, fun _ => Iff.rfl⟩ fun x hx => ?_
    subst hx
    simp only [go_sem,Nat.reduceEqDiff,Nat.reduceAdd,Nat.reduceMul,↓reduceIte,↓dreduceIte,reduceCtorEq,Nat.reduceLeDiff,Nat.reduceLT,Nat.reduceSub,Int.reduceToNat,Int.reduceLE,Int.reduceLT]
    exact ⟨_, Frz.pure rfl, rfl⟩

set_option maxRecDepth 100000 in
theorem execwords_lifted (os : Os) (started : os.Started) (H : Type) (enc : TypeId × Value → H) :
    ReturnsInHanded {} Try.checked os 6 .any (Rows.execWordsSpec.pre6 enc Try.prog Try.f6 Rows.execWordsRow.domain false) (Rows.execWordsSpec.post enc Try.prog Try.f6 false true false false) := by
  refine returnsInHanded_of_change_sized (C := Try.checked) Try.own started (by kernel_rfl) Try.func6
    (ChangeSpec.witness6 (enc := enc) (C := Try.checked) false ⟨#[], #[.agg #[.slice none 0 0, .int .i64 0], .string ⟨#[]⟩, .int .u32 0], []⟩ 8 (by kernel_rfl) (by kernel_rfl) (by kernel_rfl) (by kernel_rfl)) ?_
  intro W base args ds gs before hval hW _ hwt _
  refine law_calls (P := Try.prog) (n := 20) (shs := [imSh, .str, wSh]) (tb := 4) Try.laidOut rfl (by kernel_rfl) (by kernel_rfl) (by decide +kernel) (by kernel_rfl) (fun ds h => ?_) (fun xs hx => ?_) hval hW hwt
  · match ds, h with
    | [d1, d2, d3], _ => rfl
  · obtain ⟨x, _, rfl, hx1, hxs⟩ := fitL_cons hx
    obtain ⟨y, _, rfl, hy, hys⟩ := fitL_cons hxs
    obtain ⟨z, _, rfl, hz, hzs⟩ := fitL_cons hys
    have := fitL_nil hzs
    subst this
    obtain ⟨code, data, rfl, h⟩ := im_of hx1
    obtain ⟨inp, rfl⟩ := fit_str hy
    obtain ⟨other, rfl, ho⟩ := fit_w hz
    exact execwords_c code data inp other h ho

theorem execwords_holds : Rows.ExecWordsSaid :=
  OpenClaim.holds_of_wide 6 Try.f6 rfl rfl rfl rfl rfl rfl rfl ⟨rfl, rfl, rfl, rfl, rfl⟩ rfl rfl rfl rfl rfl (by kernel_rfl) Try.func6 (by kernel_rfl)
    (of_decide_eq_true (by kernel_rfl)) (by unfold Func.isWrapper; first | (rw [if_pos (by decide +kernel)]; kernel_rfl) | (rw [if_neg (by decide +kernel)]; exact ⟨rfl, rfl⟩))
    (fun os started H enc _ => execwords_lifted os started H enc)
end Go.Proofs.Ytjoldjcfabbekaa
