/-
  The machine: the examples, awake; what is little. No condition.
-/
import Derived.Test.YtjkkmpkbiddhkaaM14
namespace Go.Proofs.Ytjkkmpkbiddhkaa
set_option linter.unusedSimpArgs false
set_option linter.unusedVariables false
set_option maxRecDepth 10000
open Go.V

/-- seedcorn/seedcornlaw09.awake -/
def p_sclaw09_awake : VC :=
 (.seq
  (.ops [
    ⟨(some 0), none, (.mv (.const (.bool false)))⟩])
  (.seq
   (.ops [
     ⟨(some 7), none, (.bld [(.int .i64 0), (.int .i64 0), (.int .i64 0), (.int .i64 0)] [(0, (1, (.const (.int .i64 26))))])⟩,
     ⟨(some 8), none, (.call (.func 19) [(.tmp 7)])⟩,
     ⟨(some 6), none, (.mv (.tmp 8))⟩,
     ⟨(some 9), none, (.ext (.tmp 6) 0)⟩,
     ⟨(some 10), none, (.ext (.tmp 6) 1)⟩,
     ⟨(some 1), none, (.mv (.tmp 9))⟩,
     ⟨(some 2), none, (.mv (.tmp 10))⟩])
   (.seq
    (.ops [
      ⟨(some 11), none, (.bld [(.slice none 0 0), (.int .i64 0)] [])⟩,
      ⟨(some 12), none, (.bld [(.slice none 0 0), (.int .i64 0)] [])⟩,
      ⟨(some 13), none, (.call (.func 12) [(.tmp 12)])⟩,
      ⟨(some 14), none, (.call (.func 15) [(.tmp 11), (.const (.string ⟨#[]⟩)), (.tmp 13)])⟩,
      ⟨(some 3), none, (.alc 30 [(.int .i64 0), (.int .u32 0), (.int .u32 0), (.int .u32 0), (.int .u32 0), (.int .u32 0), (.int .u32 0), (.int .u32 0), (.int .u32 0), (.int .u32 0), (.int .u32 0), (.int .u32 0), (.int .u32 0), (.int .u32 0), (.int .u32 0), (.int .u32 0), (.int .u32 0), (.slice none 0 0), (.int .i64 0), (.string ⟨#[]⟩), (.int .i64 0), (.int .i64 0)])⟩,
      ⟨none, none, (.sto true 22 (.tmp 3) (.tmp 14))⟩])
    (.seq
     (.ops [
       ⟨(some 15), none, (.mv (.tmp 1))⟩,
       ⟨(some 16), none, (.bsl 27 1 1 [(.int .u32 0)] [(0, (1, (.tmp 15)))])⟩,
       ⟨(some 17), none, (.bld [(.slice none 0 0), (.int .i64 0)] [(0, (1, (.tmp 16))), (1, (1, (.const (.int .i64 2))))])⟩,
       ⟨(some 4), none, (.alc 24 [(.slice none 0 0), (.int .i64 0)])⟩,
       ⟨none, none, (.sto true 2 (.tmp 4) (.tmp 17))⟩])
     (.seq
      (.park false (.one ⟨(some 18), none, (.ld true 2 (.tmp 4))⟩ (.one ⟨(some 19), none, (.ld true 2 (.tmp 4))⟩ (.one ⟨(some 20), none, (.call (.func 12) [(.tmp 19)])⟩ (.one ⟨(some 21), none, (.call (.func 15) [(.tmp 18), (.const (.string ⟨#[]⟩)), (.tmp 20)])⟩ (.one ⟨(some 5), none, (.alc 30 [(.int .i64 0), (.int .u32 0), (.int .u32 0), (.int .u32 0), (.int .u32 0), (.int .u32 0), (.int .u32 0), (.int .u32 0), (.int .u32 0), (.int .u32 0), (.int .u32 0), (.int .u32 0), (.int .u32 0), (.int .u32 0), (.int .u32 0), (.int .u32 0), (.int .u32 0), (.slice none 0 0), (.int .i64 0), (.string ⟨#[]⟩), (.int .i64 0), (.int .i64 0)])⟩ (.one ⟨none, none, (.sto true 22 (.tmp 5) (.tmp 21))⟩ .done)))))))
      (.seq
       (.ops [
         ⟨(some 22), none, (.fad 21 false 1 (.tmp 3))⟩,
         ⟨(some 23), none, (.ld false 1 (.tmp 22))⟩,
         ⟨(some 24), none, (.bin .eql (.tmp 23) (.const (.int .i64 7)))⟩,
         ⟨(some 25), none, (.mv (.tmp 24))⟩,
         ⟨(some 26), (some (25, true)), (.fad 20 false 1 (.tmp 3))⟩,
         ⟨(some 27), (some (25, true)), (.ld false 1 (.tmp 26))⟩,
         ⟨(some 28), (some (25, true)), (.bin .eql (.tmp 27) (.const (.int .i64 0)))⟩,
         ⟨(some 29), none, (.pick (.tmp 25) (.tmp 28) (.const (.bool false)))⟩,
         ⟨(some 30), none, (.mv (.tmp 29))⟩,
         ⟨(some 31), (some (30, true)), (.fad 21 false 1 (.tmp 5))⟩,
         ⟨(some 32), (some (30, true)), (.ld false 1 (.tmp 31))⟩,
         ⟨(some 33), (some (30, true)), (.bin .eql (.tmp 32) (.const (.int .i64 1)))⟩,
         ⟨(some 34), none, (.pick (.tmp 30) (.tmp 33) (.const (.bool false)))⟩,
         ⟨(some 35), none, (.mv (.tmp 34))⟩,
         ⟨(some 36), (some (35, true)), (.fad 20 false 1 (.tmp 5))⟩,
         ⟨(some 37), (some (35, true)), (.ld false 1 (.tmp 36))⟩,
         ⟨(some 38), (some (35, true)), (.bin .eql (.tmp 37) (.const (.int .i64 1)))⟩,
         ⟨(some 39), none, (.pick (.tmp 35) (.tmp 38) (.const (.bool false)))⟩,
         ⟨(some 40), none, (.mv (.tmp 39))⟩,
         ⟨(some 41), (some (40, true)), (.fad 0 false 1 (.tmp 5))⟩,
         ⟨(some 42), (some (40, true)), (.ld false 1 (.tmp 41))⟩,
         ⟨(some 43), (some (40, true)), (.bin .eql (.tmp 42) (.const (.int .i64 0)))⟩,
         ⟨(some 44), none, (.pick (.tmp 40) (.tmp 43) (.const (.bool false)))⟩,
         ⟨(some 45), none, (.mv (.tmp 44))⟩,
         ⟨(some 46), (some (45, true)), (.fad 17 false 1 (.tmp 5))⟩,
         ⟨(some 47), (some (45, true)), (.ld false 1 (.tmp 46))⟩,
         ⟨(some 48), (some (45, true)), (.len (.tmp 47))⟩,
         ⟨(some 49), (some (45, true)), (.bin .eql (.tmp 48) (.const (.int .i64 2)))⟩,
         ⟨(some 50), none, (.pick (.tmp 45) (.tmp 49) (.const (.bool false)))⟩,
         ⟨(some 51), none, (.mv (.tmp 50))⟩,
         ⟨(some 52), (some (51, true)), (.ld true 22 (.tmp 3))⟩,
         ⟨(some 53), (some (51, true)), (.ld true 22 (.tmp 5))⟩,
         ⟨(some 54), (some (51, true)), (.call (.func 17) [(.tmp 52), (.tmp 53)])⟩,
         ⟨(some 55), (some (51, true)), (.un .not (.tmp 54))⟩,
         ⟨(some 56), none, (.pick (.tmp 51) (.tmp 55) (.const (.bool false)))⟩,
         ⟨(some 0), none, (.mv (.tmp 56))⟩])
       .ret))))))
theorem q_sclaw09_awake : compFp Try.prog true 10 = some (57, p_sclaw09_awake, [(.tmp 0)]) := by kernel_rfl


theorem Frz.ptr {n : Nat} {H : List VObj} {nx id s : Nat} {ob : VObj} {ys : List AV} (hid : n ≤ id) (ho : H[id]? = some ob) (hs : ob.s = s) (hz : ob.sz ≠ 0) (h : FrzL n H nx ob.cs ys) :
    Frz n H nx (.ptr id s 0) (.ip (.agg ys)) := fun M hR hH hnx v r => by
  subst hH
  simp only [RV] at r
  obtain ⟨hzz, g, hm, rfl⟩ := r.2.2 ob ho hs
  obtain ⟨vs, g1, g2, g3⟩ := hR.cells ho hzz hm 0 ob.cs.length (by omega)
  simp only [List.drop_zero, List.take_length] at g2
  have hrl := h.rl hR rfl hnx g2
  simp only [RV0]
  refine ⟨g, _, .agg vs.toArray, rfl, ⟨.inr ⟨(hR.lt hm).1, (hR.lt hm).2.1⟩, fun j hj e => by have := hR.inj j id g e hm; omega⟩, ⟨vs, rfl, hrl⟩, fun j u hu => ?_⟩
  have := g3 j u (by simpa [Value.cells] using hu)
  simpa using this

theorem Sle.agg {xs ys : List AV} (h : SleL xs ys) : Sle (.agg xs) (.agg ys) := fun M hR v r => by
  simp only [RV] at r
  obtain ⟨vs, h1, h2⟩ := r
  simp only [RV0]
  exact ⟨vs, h1, h.rl hR h2⟩
theorem sle_img0 {d : Int} : Sle (.agg [nilv, I d]) (imgA [] d) := Sle.agg ⟨_, _, rfl, Sle.nil 1, _, _, rfl, Sle.pure rfl, rfl⟩

theorem wf_start (data : Int) : Wf (startF data) := by
  refine ⟨fun k => ⟨by show (0 : Int) ≤ 0; omega, by show (0 : Int) < _; omega⟩, fun x hx => ?_⟩
  unfold startF at hx
  simp only at hx
  split at hx
  · rw [List.mem_replicate] at hx; rw [hx.2]; exact ⟨by omega, by omega⟩
  · cases hx
theorem start_len (data : Int) : (startF data).mem.length ≤ 32768 := by
  unfold startF
  simp only
  split
  · simp; omega
  · simp

def haltW : Int := 436207616
theorem halt_step : stepF [haltW] ⟨#[]⟩ (startF 2) = ⟨0, fun _ => 0, [0, 0], 0, ⟨#[]⟩, 1, 1⟩ := by
  have h1 : okW haltW = true := by decide
  have h2 : insF [haltW] ⟨#[]⟩ { startF 2 with st := IntKind.i64.wrap ((startF 2).st + 1) } (opW haltW) (raW haltW) (rbW haltW) (kW haltW) = (1, ⟨0, fun _ => 0, [0, 0], 0, ⟨#[]⟩, 1, 0⟩) := by
    have e : opW haltW = 26 := by decide
    rw [e]; rfl
  have h3 : stepF [haltW] ⟨#[]⟩ (startF 2) = wordF [haltW] ⟨#[]⟩ { startF 2 with st := IntKind.i64.wrap ((startF 2).st + 1) } haltW := by
    unfold stepF
    rw [if_pos (show (startF 2).fin = 0 from rfl), if_neg (by decide)]; rfl
  rw [h3]
  unfold wordF
  rw [h1, if_pos rfl, h2, if_neg (by decide)]

theorem none_step : stepF [] ⟨#[]⟩ (startF 0) = ⟨0, fun _ => 0, [], 0, ⟨#[]⟩, 0, 7⟩ := by
  unfold stepF
  rw [if_pos (show (startF 0).fin = 0 from rfl), if_pos (by right; decide)]
  rfl

theorem awake_c : Contract Try.prog 10 [] (fun r => r = B true) := by
  refine Contract.of_call (VCall.of_bodyP hmix q_sclaw09_awake (by simp) ?_)
  simp only [go_sem,Nat.reduceEqDiff,Nat.reduceAdd,Nat.reduceMul,↓reduceIte,↓dreduceIte,reduceCtorEq,Nat.reduceLeDiff,Nat.reduceLT,Nat.reduceSub,Int.reduceToNat,Int.reduceLE,Int.reduceLT, p_sclaw09_awake]
  refine VCall.of_contract (encode_c 26 0 0 0 (by decide)) (SleL.pure rfl) fun x hx => ?_
  subst hx
  simp only [go_sem,Nat.reduceEqDiff,Nat.reduceAdd,Nat.reduceMul,↓reduceIte,↓dreduceIte,reduceCtorEq,Nat.reduceLeDiff,Nat.reduceLT,Nat.reduceSub,Int.reduceToNat,Int.reduceLE,Int.reduceLT]
  refine VCall.of_contract (start_c [] 0) ?_ fun x hx => ?_
  · exact ⟨_, _, rfl, sle_img0, rfl⟩
  subst hx
  simp only [go_sem,Nat.reduceEqDiff,Nat.reduceAdd,Nat.reduceMul,↓reduceIte,↓dreduceIte,reduceCtorEq,Nat.reduceLeDiff,Nat.reduceLT,Nat.reduceSub,Int.reduceToNat,Int.reduceLE,Int.reduceLT]
  refine VCall.of_contract (step_c [] 0 ⟨#[]⟩ (startF 0) (by simp) (by simp) (by decide) (wf_start 0) (by have := start_len 0; omega) (by decide)) ?_ fun x hx => ?_
  · exact ⟨_, _, rfl, sle_img0, _, _, rfl, Sle.pure rfl, _, _, rfl, Sle.pure rfl, rfl⟩
  subst hx
  rw [none_step]
  simp only [go_sem,Nat.reduceEqDiff,Nat.reduceAdd,Nat.reduceMul,↓reduceIte,↓dreduceIte,reduceCtorEq,Nat.reduceLeDiff,Nat.reduceLT,Nat.reduceSub,Int.reduceToNat,Int.reduceLE,Int.reduceLT, s_zero, s_put, s_put', stc_length, stc_all, one_imm]
  refine ParkT.of (st' := ⟨[(4, .ip (.agg [words [haltW], I 2])), (3, .ptr 0 0 0), (0, .val (.bool false))], [{ s := 0, ty := 30, sz := 1, cs := stc 0 (fun x => 0) (words []) 0 ⟨#[]⟩ 0 7 }], 3⟩) ?_ ?_
  · refine Wk.give ?_ ?_ (Nat.le_refl _)
    · intro p hp
      simp only [List.mem_cons, List.not_mem_nil, or_false] at hp
      have hw : Frz 1 [{ s := 0, ty := 30, sz := 1, cs := stc 0 (fun x => 0) (words []) 0 ⟨#[]⟩ 0 7 }, { s := 1, ty := 27, sz := 1, cs := [U32 (26 * 16777216 + 0 * 1048576 + 0 * 65536 + 0)] }, { s := 2, ty := 24, sz := 1, cs := [AV.ref 1 1 0 1, I 2] }] 3 (.ref 1 1 0 1) (words [haltW]) :=
        Frz.ref (by decide) rfl rfl rfl rfl ⟨_, _, rfl, Frz.pure rfl, rfl⟩
      rcases hp with rfl | rfl | rfl
      · right
        exact Frz.ptr (by decide) rfl rfl (by decide) ⟨_, _, rfl, hw, _, _, rfl, Frz.pure rfl, rfl⟩
      · left; rfl
      · left; rfl
    · exact ⟨rfl, rfl, rfl, (fun h => by cases h), CW.refl _, trivial⟩
  simp only [go_sem,Nat.reduceEqDiff,Nat.reduceAdd,Nat.reduceMul,↓reduceIte,↓dreduceIte,reduceCtorEq,Nat.reduceLeDiff,Nat.reduceLT,Nat.reduceSub,Int.reduceToNat,Int.reduceLE,Int.reduceLT]
  refine ECall.of (start_c [haltW] 2) ⟨_, _, rfl, Sle.pure rfl, rfl⟩ ⟨_, fun _ => Iff.rfl⟩ fun x hx => ?_
  subst hx
  simp only [go_sem,Nat.reduceEqDiff,Nat.reduceAdd,Nat.reduceMul,↓reduceIte,↓dreduceIte,reduceCtorEq,Nat.reduceLeDiff,Nat.reduceLT,Nat.reduceSub,Int.reduceToNat,Int.reduceLE,Int.reduceLT]
  refine ECall.of (step_c [haltW] 2 ⟨#[]⟩ (startF 2) (by intro x hx; simp only [List.mem_cons, List.not_mem_nil, or_false] at hx; subst hx; exact ⟨by decide, by decide⟩) (by decide) (by decide) (wf_start 2) (by have := start_len 2; omega) (by decide)) ⟨_, _, rfl, Sle.pure rfl, _, _, rfl, Sle.pure rfl, _, _, rfl, Sle.pure rfl, rfl⟩ ⟨_, fun _ => Iff.rfl⟩ fun x hx => ?_
  subst hx
  rw [halt_step]
  have hd : ∀ {pc : Int} {f : Nat → Int} {m : AV} {rd : Int} {out : ByteArray} {st fin : Int}, List.drop 22 (stc pc f m rd out st fin) = [] := by intros; rfl
  simp only [go_sem,Nat.reduceEqDiff,Nat.reduceAdd,Nat.reduceMul,↓reduceIte,↓dreduceIte,reduceCtorEq,Nat.reduceLeDiff,Nat.reduceLT,Nat.reduceSub,Int.reduceToNat,Int.reduceLE,Int.reduceLT, s_zero, s_put, s_put', hd, List.append_nil, stc_length, stc_all, one_imm, s_all, s_pc, s_mem, s_rd, s_out, s_st, s_fin, Int.reduceEq, Int.reduceBEq]
  refine ⟨fun _ => ?_, fun h => absurd rfl h⟩
  have hs := same_c ⟨0, fun _ => 0, [], 0, ⟨#[]⟩, 0, 7⟩ ⟨0, fun _ => 0, [0, 0], 0, ⟨#[]⟩, 1, 1⟩ (by simp)
  have hb : sameB ⟨0, fun _ => 0, [], 0, ⟨#[]⟩, 0, 7⟩ ⟨0, fun _ => 0, [0, 0], 0, ⟨#[]⟩, 1, 1⟩ = false := by simp [sameB]
  rw [hb] at hs
  refine VCall.of_contract hs ?_ fun x hx => ?_
  · exact ⟨_, _, rfl, Sle.pure rfl, _, _, rfl, Sle.pure rfl, rfl⟩
  subst hx
  simp only [go_sem,Nat.reduceEqDiff,Nat.reduceAdd,Nat.reduceMul,↓reduceIte,↓dreduceIte,reduceCtorEq,Nat.reduceLeDiff,Nat.reduceLT,Nat.reduceSub,Int.reduceToNat,Int.reduceLE,Int.reduceLT]
  exact ⟨_, Frz.pure rfl, rfl⟩
end Go.Proofs.Ytjkkmpkbiddhkaa
