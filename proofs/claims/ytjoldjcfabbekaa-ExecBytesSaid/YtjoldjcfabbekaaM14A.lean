/-
  The machine: contracts: are two states alike, by the document; the beginning. No condition.
-/
import Derived.Test.YtjoldjcfabbekaaM13
namespace Go.Proofs.Ytjoldjcfabbekaa
set_option linter.unusedSimpArgs false
set_option linter.unusedVariables false
set_option maxRecDepth 10000
open Go.V

theorem refwords_c (a b : List Int) (ha : a.length ≤ 140737488355328) : Contract Try.prog 34 [words a, words b] (fun r => r = B (a == b)) := by
  refine Contract.of_call (VCall.of_body hmix f_scref09_Words (by simp) ?_)
  simp only [go_sem,Nat.reduceEqDiff,Nat.reduceAdd,Nat.reduceMul,↓reduceIte,↓dreduceIte,reduceCtorEq,Nat.reduceLeDiff,Nat.reduceLT,Nat.reduceSub,Int.reduceToNat,Int.reduceLE,Int.reduceLT, c_scref09_Words]
  refine ⟨fun h => ⟨_, Frz.pure rfl, ?_⟩, fun h => ?_⟩
  · rw [beq_eq_false_iff_ne.2 (fun e => h (by rw [e]))]
  have hl : a.length = b.length := by omega
  refine VW_loop (fun k : Nat => ⟨[(0, words a), (1, words b), (5, I k)], [], 0⟩) (fun k => k ≤ a.length ∧ a.take k = b.take k) (fun k => a.length - k) 0 (Wk.mk (by simp [get_cons]) ⟨[], rfl⟩ (Nat.le_refl _)) ⟨by omega, rfl⟩ ?_
  intro k ⟨hk, hpre⟩
  simp only [go_sem,Nat.reduceEqDiff,Nat.reduceAdd,Nat.reduceMul,↓reduceIte,↓dreduceIte,reduceCtorEq,Nat.reduceLeDiff,Nat.reduceLT,Nat.reduceSub,Int.reduceToNat,Int.reduceLE,Int.reduceLT]
  refine ⟨fun h => ?_, fun h => ?_⟩
  · refine ⟨by omega, by omega, fun hne => ⟨_, Frz.pure rfl, ?_⟩, fun heq => ?_⟩
    · have : a ≠ b := fun e => hne (by rw [e])
      rw [beq_eq_false_iff_ne.2 this]
    · rw [i64_in (by omega) (by omega)]
      refine ⟨k + 1, ⟨by omega, ?_⟩, by omega, Wk.mk (by simp [get_cons]) ⟨[], rfl⟩ (Nat.le_refl _)⟩
      rw [List.take_add_one, List.take_add_one, hpre, List.getElem?_eq_getElem (by omega), List.getElem?_eq_getElem (by omega)]
      simp only [List.getD, List.getElem?_eq_getElem (show k < a.length by omega), List.getElem?_eq_getElem (show k < b.length by omega), Option.getD_some] at heq
      rw [heq]
  · refine ⟨_, Frz.pure rfl, ?_⟩
    have : a = b := by
      have h1 := hpre
      rw [List.take_of_length_le (by omega), List.take_of_length_le (by omega)] at h1
      exact h1
    rw [this]
    simp

def regB (f g : Nat → Int) : Bool := (List.range 16).all fun k => f k == g k
theorem eq_regs {f g : Nat → Int} {C : Bool → Prop} : eqT [.int, .int, .int, .int, .int, .int, .int, .int, .int, .int, .int, .int, .int, .int, .int, .int] (regs f) (regs g) true C .mk = C (regB f g) := by
  have e : ∀ h : Nat → Int, regs h = [U32 (h 0), U32 (h 1), U32 (h 2), U32 (h 3), U32 (h 4), U32 (h 5), U32 (h 6), U32 (h 7), U32 (h 8), U32 (h 9), U32 (h 10), U32 (h 11), U32 (h 12), U32 (h 13), U32 (h 14), U32 (h 15)] := fun h => rfl
  have e2 : regB f g = [f 0 == g 0, f 1 == g 1, f 2 == g 2, f 3 == g 3, f 4 == g 4, f 5 == g 5, f 6 == g 6, f 7 == g 7, f 8 == g 8, f 9 == g 9, f 10 == g 10, f 11 == g 11, f 12 == g 12, f 13 == g 13, f 14 == g 14, f 15 == g 15].all id := rfl
  rw [e f, e g, e2]
  simp only [eqT_int, eqT_nil, true_and, List.all_cons, List.all_nil, id_eq, Bool.and_true, Bool.true_and, Bool.and_assoc]

/-- Are two states alike? -/
def sameB (s t : S) : Bool := (s.pc == t.pc) && regB s.reg t.reg && (s.mem == t.mem) && (s.rd == t.rd) && (s.out.toList == t.out.toList) && (s.st == t.st) && (s.fin == t.fin)
theorem sameB_refl (s : S) : sameB s s = true := by
  simp [sameB, regB]

theorem refsame_c (s t : S) (hs : s.mem.length ≤ 140737488355328) : Contract Try.prog 20 [stA s, stA t] (fun r => r = B (sameB s t)) := by
  refine Contract.of_call (VCall.of_body hmix f_scref09_Same (by simp) ?_)
  simp only [go_sem,Nat.reduceEqDiff,Nat.reduceAdd,Nat.reduceMul,↓reduceIte,↓dreduceIte,reduceCtorEq,Nat.reduceLeDiff,Nat.reduceLT,Nat.reduceSub,Int.reduceToNat,Int.reduceLE,Int.reduceLT, c_scref09_Same, s_pc, s_regs, s_mem, s_rd, s_out, s_st, s_fin, s_all, stc_length, stc_all, one_imm, eq_regs]
  have hout : ∀ a b : ByteArray, (a.toList == b.toList) = (a.toList == b.toList) := fun _ _ => rfl
  refine ⟨fun h1 => ⟨fun h2 => ?_, fun h2 => ⟨_, Frz.pure rfl, by simp [sameB, h1, h2]⟩⟩, fun h1 => ⟨_, Frz.pure rfl, by simp [sameB, h1]⟩⟩
  refine VCall.of_contract (refwords_c s.mem t.mem hs) (SleL.pure rfl) fun x hx => ?_
  subst hx
  cases h3 : (s.mem == t.mem)
  · simp only [go_sem,Nat.reduceEqDiff,Nat.reduceAdd,Nat.reduceMul,↓reduceIte,↓dreduceIte,reduceCtorEq,Nat.reduceLeDiff,Nat.reduceLT,Nat.reduceSub,Int.reduceToNat,Int.reduceLE,Int.reduceLT]
    exact ⟨_, Frz.pure rfl, by simp only [sameB, h3]; simp⟩
  by_cases h4 : s.rd = t.rd
  case neg =>
    simp only [go_sem,Nat.reduceEqDiff,Nat.reduceAdd,Nat.reduceMul,↓reduceIte,↓dreduceIte,reduceCtorEq,Nat.reduceLeDiff,Nat.reduceLT,Nat.reduceSub,Int.reduceToNat,Int.reduceLE,Int.reduceLT, s_pc, s_regs, s_mem, s_rd, s_out, s_st, s_fin, s_all, stc_length, stc_all, one_imm, eq_regs, eq_false h4]
    exact ⟨_, Frz.pure rfl, by simp [sameB, h4]⟩
  cases h5 : (s.out.toList == t.out.toList)
  · simp only [go_sem,Nat.reduceEqDiff,Nat.reduceAdd,Nat.reduceMul,↓reduceIte,↓dreduceIte,reduceCtorEq,Nat.reduceLeDiff,Nat.reduceLT,Nat.reduceSub,Int.reduceToNat,Int.reduceLE,Int.reduceLT, s_pc, s_regs, s_mem, s_rd, s_out, s_st, s_fin, s_all, stc_length, stc_all, one_imm, eq_regs, eq_true h4, h5]
    exact ⟨_, Frz.pure rfl, by simp only [sameB, h5]; simp⟩
  by_cases h6 : s.st = t.st
  case neg =>
    simp only [go_sem,Nat.reduceEqDiff,Nat.reduceAdd,Nat.reduceMul,↓reduceIte,↓dreduceIte,reduceCtorEq,Nat.reduceLeDiff,Nat.reduceLT,Nat.reduceSub,Int.reduceToNat,Int.reduceLE,Int.reduceLT, s_pc, s_regs, s_mem, s_rd, s_out, s_st, s_fin, s_all, stc_length, stc_all, one_imm, eq_regs, eq_true h4, h5, eq_false h6]
    exact ⟨_, Frz.pure rfl, by simp [sameB, h6]⟩
  simp only [go_sem,Nat.reduceEqDiff,Nat.reduceAdd,Nat.reduceMul,↓reduceIte,↓dreduceIte,reduceCtorEq,Nat.reduceLeDiff,Nat.reduceLT,Nat.reduceSub,Int.reduceToNat,Int.reduceLE,Int.reduceLT, s_pc, s_regs, s_mem, s_rd, s_out, s_st, s_fin, s_all, stc_length, stc_all, one_imm, eq_regs, eq_true h4, h5, eq_true h6]
  refine ⟨_, Frz.pure rfl, ?_⟩
  simp only [sameB, h1, h2, h3, h4, h5, h6]
  simp

/-- The beginning. -/
def startF (data : Int) : S := ⟨0, fun _ => 0, if 0 < data ∧ data ≤ 32768 then List.replicate data.toNat 0 else [], 0, ⟨#[]⟩, 0, 0⟩

theorem FrzNL.app {H : List VObj} {nx : Nat} : ∀ {xs ys xs' ys' : List AV}, FrzNL H nx xs xs' → FrzNL H nx ys ys' → FrzNL H nx (xs ++ ys) (xs' ++ ys')
  | [], _, _, _, h1, h2 => by simp only [FrzNL] at h1; subst h1; exact h2
  | x :: xs, ys, xs', ys', h1, h2 => by
    obtain ⟨y, ys2, rfl, h3, h4⟩ := h1
    exact ⟨y, _, rfl, h3, FrzNL.app h4 h2⟩
theorem stA_frzN {H : List VObj} {nx : Nat} {pc : Int} {f : Nat → Int} {m : AV} {mem : List Int} {rd : Int} {out : ByteArray} {st fin : Int} (h : FrzN H nx m (words mem)) : FrzN H nx (.agg (stc pc f m rd out st fin)) (stA ⟨pc, f, mem, rd, out, st, fin⟩) :=
  FrzN.agg ⟨_, _, rfl, FrzN.val, FrzNL.app (FrzNL.vals (fun k => Value.int .u32 (f k)) (List.range 16)) ⟨_, _, rfl, h, _, _, rfl, FrzN.val, _, _, rfl, FrzN.val, _, _, rfl, FrzN.val, _, _, rfl, FrzN.val, rfl⟩⟩

theorem startN_c (code : List Int) (data : Int) : ContractN Try.prog 28 [imgA code data] (fun r => r = stA (startF data)) := by
  refine ContractN.of_call (VCall.of_body hmix f_machine_Start (by simp) ?_)
  have z : ¬ (0 < data ∧ data ≤ 32768) → startF data = ⟨0, fun _ => 0, [], 0, ⟨#[]⟩, 0, 0⟩ := fun h => by unfold startF; rw [if_neg h]
  by_cases h1 : 0 < data
  · by_cases h2 : data ≤ 32768
    · have e : startF data = ⟨0, fun _ => 0, List.replicate data.toNat 0, 0, ⟨#[]⟩, 0, 0⟩ := by unfold startF; rw [if_pos ⟨h1, h2⟩]
      simp only [go_sem,Nat.reduceEqDiff,Nat.reduceAdd,Nat.reduceMul,↓reduceIte,↓dreduceIte,reduceCtorEq,Nat.reduceLeDiff,Nat.reduceLT,Nat.reduceSub,Int.reduceToNat,Int.reduceLE,Int.reduceLT, c_machine_Start, eq_true h1, eq_true h2, s_zero, ss_mem, s_put, s_put', stc_length, stc_all, s_all, one_ref, one_imm]
      repeat (refine And.intro (by omega) ?_)
      rw [e, flat_rep]
      refine ⟨_, stA_frzN ?_, rfl⟩
      have hr : List.replicate data.toNat (AV.val (.int .u32 0)) = (List.replicate data.toNat (0 : Int)).map fun n => AV.val (.int .u32 n) := by simp
      rw [hr]
      exact frzN_map (f := fun n : Int => Value.int .u32 n) rfl (by simp) (fun _ => rfl)
    · rw [z (fun h => h2 h.2)]
      simp only [go_sem,Nat.reduceEqDiff,Nat.reduceAdd,Nat.reduceMul,↓reduceIte,↓dreduceIte,reduceCtorEq,Nat.reduceLeDiff,Nat.reduceLT,Nat.reduceSub,Int.reduceToNat,Int.reduceLE,Int.reduceLT, c_machine_Start, eq_true h1, eq_false h2, s_zero, ss_mem, s_put, s_put', stc_length, stc_all, s_all, one_ref, one_imm]
      exact ⟨_, stA_frzN (FrzN.nil 1), rfl⟩
  · rw [z (fun h => h1 h.1)]
    simp only [go_sem,Nat.reduceEqDiff,Nat.reduceAdd,Nat.reduceMul,↓reduceIte,↓dreduceIte,reduceCtorEq,Nat.reduceLeDiff,Nat.reduceLT,Nat.reduceSub,Int.reduceToNat,Int.reduceLE,Int.reduceLT, c_machine_Start, eq_false h1, s_zero, ss_mem, s_put, s_put', stc_length, stc_all, s_all, one_ref, one_imm]
    exact ⟨_, stA_frzN (FrzN.nil 1), rfl⟩
theorem start_c (code : List Int) (data : Int) : Contract Try.prog 28 [imgA code data] (fun r => r = stA (startF data)) := (startN_c code data).old

theorem refstart_c (code : List Int) (data : Int) : Contract Try.prog 31 [imgA code data] (fun r => r = stA (startF data)) := by
  refine ContractN.old (ContractN.of_call (VCall.of_body hmix f_scref09_Start (by simp) ?_))
  have z : ¬ (0 < data ∧ data ≤ 32768) → startF data = ⟨0, fun _ => 0, [], 0, ⟨#[]⟩, 0, 0⟩ := fun h => by unfold startF; rw [if_neg h]
  by_cases h1 : 0 < data
  · by_cases h2 : data ≤ 32768
    · have e : startF data = ⟨0, fun _ => 0, List.replicate data.toNat 0, 0, ⟨#[]⟩, 0, 0⟩ := by unfold startF; rw [if_pos ⟨h1, h2⟩]
      simp only [go_sem,Nat.reduceEqDiff,Nat.reduceAdd,Nat.reduceMul,↓reduceIte,↓dreduceIte,reduceCtorEq,Nat.reduceLeDiff,Nat.reduceLT,Nat.reduceSub,Int.reduceToNat,Int.reduceLE,Int.reduceLT, c_scref09_Start, eq_true h1, eq_true h2, s_zero, ss_mem, s_put, s_put', stc_length, stc_all, s_all, one_ref, one_imm]
      repeat (refine And.intro (by omega) ?_)
      rw [e, flat_rep]
      refine ⟨_, stA_frzN ?_, rfl⟩
      have hr : List.replicate data.toNat (AV.val (.int .u32 0)) = (List.replicate data.toNat (0 : Int)).map fun n => AV.val (.int .u32 n) := by simp
      rw [hr]
      exact frzN_map (f := fun n : Int => Value.int .u32 n) rfl (by simp) (fun _ => rfl)
    · rw [z (fun h => h2 h.2)]
      simp only [go_sem,Nat.reduceEqDiff,Nat.reduceAdd,Nat.reduceMul,↓reduceIte,↓dreduceIte,reduceCtorEq,Nat.reduceLeDiff,Nat.reduceLT,Nat.reduceSub,Int.reduceToNat,Int.reduceLE,Int.reduceLT, c_scref09_Start, eq_true h1, eq_false h2, s_zero, ss_mem, s_put, s_put', stc_length, stc_all, s_all, one_ref, one_imm]
      exact ⟨_, stA_frzN (FrzN.nil 1), rfl⟩
  · rw [z (fun h => h1 h.1)]
    simp only [go_sem,Nat.reduceEqDiff,Nat.reduceAdd,Nat.reduceMul,↓reduceIte,↓dreduceIte,reduceCtorEq,Nat.reduceLeDiff,Nat.reduceLT,Nat.reduceSub,Int.reduceToNat,Int.reduceLE,Int.reduceLT, c_scref09_Start, eq_false h1, s_zero, ss_mem, s_put, s_put', stc_length, stc_all, s_all, one_ref, one_imm]
    exact ⟨_, stA_frzN (FrzN.nil 1), rfl⟩

theorem Frz.ptr {n : Nat} {H : List VObj} {nx id s : Nat} {ob : VObj} {ys : List AV} (hid : n ≤ id) (ho : H[id]? = some ob) (hs : ob.s = s) (hz : ob.sz ≠ 0) (h : FrzL n H nx ob.cs ys) :
    Frz n H nx (.ptr id s 0) (.ip (.agg ys)) := fun M hR hH hnx v r => by
  subst hH
  simp only [RV] at r
  obtain ⟨hzz, g, hm, rfl⟩ := r.2.2 ob ho hs
  obtain ⟨vs, g1, g2, g3⟩ := hR.cells ho hzz hm 0 ob.cs.length (by omega)
  simp only [List.drop_zero, List.take_length] at g2
  have hrl := h.rl hR rfl hnx g2
  simp only [RV0]
  refine ⟨g, _, .agg vs.toArray, rfl, ⟨.inr ⟨(hR.lt hm).1, (hR.lt hm).2.1⟩, fun j hj e => by have := hR.inj j id g e hm; omega⟩, ⟨vs, rfl, hrl⟩, fun j u hu => ?_⟩
  have := g3 j u (by simpa [Value.cells] using hu)
  simpa using this
theorem Sle.agg {xs ys : List AV} (h : SleL xs ys) : Sle (.agg xs) (.agg ys) := fun M hR v r => by
  simp only [RV] at r
  obtain ⟨vs, h1, h2⟩ := r
  simp only [RV0]
  exact ⟨vs, h1, h.rl hR h2⟩
theorem sle_img0 {d : Int} : Sle (.agg [nilv, I d]) (imgA [] d) := Sle.agg ⟨_, _, rfl, Sle.nil 1, _, _, rfl, Sle.pure rfl, rfl⟩
theorem wf_start (data : Int) : Wf (startF data) := by
  refine ⟨fun k => ⟨by show (0 : Int) ≤ 0; omega, by show (0 : Int) < _; omega⟩, fun x hx => ?_⟩
  unfold startF at hx
  simp only at hx
  split at hx
  · rw [List.mem_replicate] at hx; rw [hx.2]; exact ⟨by omega, by omega⟩
  · cases hx
theorem start_len (data : Int) : (startF data).mem.length ≤ 32768 := by
  unfold startF
  simp only
  split
  · simp; omega
  · simp
end Go.Proofs.Ytjoldjcfabbekaa
