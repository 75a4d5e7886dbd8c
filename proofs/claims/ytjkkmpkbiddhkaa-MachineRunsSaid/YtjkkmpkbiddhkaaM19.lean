/-
  The document's machine: one step. No condition.
-/
import Derived.Test.YtjkkmpkbiddhkaaM18
namespace Go.Proofs.Ytjkkmpkbiddhkaa
set_option linter.unusedSimpArgs false
set_option linter.unusedVariables false
set_option maxRecDepth 10000
open Go.V

theorem refstep_c (code : List Int) (data : Int) (inp : ByteArray) (s : S) (hcode : ∀ x ∈ code, In32 x) (hcl : code.length ≤ 1000000) (hi : inp.size ≤ 1000000000) (hs : Wf s) (hl : s.mem.length ≤ 1000000) :
    Contract Try.prog 16 [imgA code data, strv inp, stA s] (fun r => r = stA (stepF code inp s)) := by
  refine Contract.of_call (VCall.of_body hmix f_scref09_Step (by simp) ?_)
  obtain ⟨pc, f, mem, rd, out, st, fin⟩ := s
  have hf : ∀ k, In32 (f k) := hs.reg
  simp only at hl
  by_cases h1 : fin = 0
  case neg =>
    have e1 : stepF code inp ⟨pc, f, mem, rd, out, st, fin⟩ = ⟨pc, f, mem, rd, out, st, fin⟩ := if_neg h1
    have h1' : (fin != 0) = true := by simp [h1]
    rw [e1]
    simp only [go_sem,Nat.reduceEqDiff,Nat.reduceAdd,Nat.reduceMul,↓reduceIte,↓dreduceIte,reduceCtorEq,Nat.reduceLeDiff,Nat.reduceLT,Nat.reduceSub,Int.reduceToNat,Int.reduceLE,Int.reduceLT, c_scref09_Step, s_zero, ss_pc, ss_st, s_pc, s_regs, s_mem, s_rd, s_out, s_st, s_fin, s_all, s_put, s_put', stc_length, stc_all, one_imm, one_ref, cellT_U32, Int.reduceEq, Int.reduceBEq, Int.reduceNe, Int.reduceBNe, h1', eq_false h1]
    exact ⟨_, Frz.pure rfl, rfl⟩
  subst h1
  have fin7 : ∀ k, Contract Try.prog 24 [.agg (stc pc f (words mem) rd out st 0), I k] (fun r => r = stA ⟨pc, f, mem, rd, out, st, k⟩) := fun k => refend_c ⟨pc, f, mem, rd, out, st, 0⟩ k
  by_cases h2 : pc < 0
  · have e1 : stepF code inp ⟨pc, f, mem, rd, out, st, 0⟩ = ⟨pc, f, mem, rd, out, st, 7⟩ := by unfold stepF; rw [if_pos rfl, if_pos (.inl h2)]
    rw [e1]
    simp only [go_sem,Nat.reduceEqDiff,Nat.reduceAdd,Nat.reduceMul,↓reduceIte,↓dreduceIte,reduceCtorEq,Nat.reduceLeDiff,Nat.reduceLT,Nat.reduceSub,Int.reduceToNat,Int.reduceLE,Int.reduceLT, c_scref09_Step, s_zero, ss_pc, ss_st, s_pc, s_regs, s_mem, s_rd, s_out, s_st, s_fin, s_all, s_put, s_put', stc_length, stc_all, one_imm, one_ref, cellT_U32, Int.reduceEq, Int.reduceBEq, Int.reduceNe, Int.reduceBNe, eq_true h2]
    refine VCall.of_contract (fin7 7) (SleL.pure rfl) fun x hx => ?_
    subst hx
    simp only [go_sem,Nat.reduceEqDiff,Nat.reduceAdd,Nat.reduceMul,↓reduceIte,↓dreduceIte,reduceCtorEq,Nat.reduceLeDiff,Nat.reduceLT,Nat.reduceSub,Int.reduceToNat,Int.reduceLE,Int.reduceLT, s_zero, ss_pc, ss_st, s_pc, s_regs, s_mem, s_rd, s_out, s_st, s_fin, s_all, s_put, s_put', stc_length, stc_all, one_imm, one_ref, cellT_U32, Int.reduceEq, Int.reduceBEq, Int.reduceNe, Int.reduceBNe]
    exact ⟨_, Frz.pure rfl, rfl⟩
  by_cases h3 : (code.length : Int) ≤ pc
  · have e1 : stepF code inp ⟨pc, f, mem, rd, out, st, 0⟩ = ⟨pc, f, mem, rd, out, st, 7⟩ := by unfold stepF; rw [if_pos rfl, if_pos (.inr h3)]
    rw [e1]
    simp only [go_sem,Nat.reduceEqDiff,Nat.reduceAdd,Nat.reduceMul,↓reduceIte,↓dreduceIte,reduceCtorEq,Nat.reduceLeDiff,Nat.reduceLT,Nat.reduceSub,Int.reduceToNat,Int.reduceLE,Int.reduceLT, c_scref09_Step, s_zero, ss_pc, ss_st, s_pc, s_regs, s_mem, s_rd, s_out, s_st, s_fin, s_all, s_put, s_put', stc_length, stc_all, one_imm, one_ref, cellT_U32, Int.reduceEq, Int.reduceBEq, Int.reduceNe, Int.reduceBNe, eq_false h2, eq_true h3]
    refine VCall.of_contract (fin7 7) (SleL.pure rfl) fun x hx => ?_
    subst hx
    simp only [go_sem,Nat.reduceEqDiff,Nat.reduceAdd,Nat.reduceMul,↓reduceIte,↓dreduceIte,reduceCtorEq,Nat.reduceLeDiff,Nat.reduceLT,Nat.reduceSub,Int.reduceToNat,Int.reduceLE,Int.reduceLT, s_zero, ss_pc, ss_st, s_pc, s_regs, s_mem, s_rd, s_out, s_st, s_fin, s_all, s_put, s_put', stc_length, stc_all, one_imm, one_ref, cellT_U32, Int.reduceEq, Int.reduceBEq, Int.reduceNe, Int.reduceBNe]
    exact ⟨_, Frz.pure rfl, rfl⟩
  obtain ⟨w, hw⟩ : ∃ w, code.getD pc.toNat default = w := ⟨_, rfl⟩
  have hw32 : In32 w := by
    rw [← hw]; exact hcode _ (mem_getD (by omega))
  obtain ⟨t, ht⟩ : ∃ t, IntKind.i64.wrap (st + 1) = t := ⟨_, rfl⟩
  have e1 : stepF code inp ⟨pc, f, mem, rd, out, st, 0⟩ = wordF code inp ⟨pc, f, mem, rd, out, t, 0⟩ w := by unfold stepF; rw [if_pos rfl, if_neg (fun q => q.elim h2 h3), hw, ← ht]
  have fin7 : ∀ k, Contract Try.prog 24 [.agg (stc pc f (words mem) rd out t 0), I k] (fun r => r = stA ⟨pc, f, mem, rd, out, t, k⟩) := fun k => refend_c ⟨pc, f, mem, rd, out, t, 0⟩ k
  rw [e1]
  simp only [go_sem,Nat.reduceEqDiff,Nat.reduceAdd,Nat.reduceMul,↓reduceIte,↓dreduceIte,reduceCtorEq,Nat.reduceLeDiff,Nat.reduceLT,Nat.reduceSub,Int.reduceToNat,Int.reduceLE,Int.reduceLT, c_scref09_Step, s_zero, ss_pc, ss_st, s_pc, s_regs, s_mem, s_rd, s_out, s_st, s_fin, s_all, s_put, s_put', stc_length, stc_all, one_imm, one_ref, cellT_U32, Int.reduceEq, Int.reduceBEq, Int.reduceNe, Int.reduceBNe, eq_false h2, eq_false h3, hw, ht]
  repeat (refine And.intro (by omega) ?_)
  refine VCall.of_contract (refdecode_c w hw32) (SleL.pure rfl) fun x hx => ?_
  subst hx
  unfold decA
  cases hok : okW w
  · have e3 : wordF code inp ⟨pc, f, mem, rd, out, t, 0⟩ w = ⟨pc, f, mem, rd, out, t, 6⟩ := by unfold wordF; rw [hok]; rfl
    rw [e3]
    simp only [go_sem,Nat.reduceEqDiff,Nat.reduceAdd,Nat.reduceMul,↓reduceIte,↓dreduceIte,reduceCtorEq,Nat.reduceLeDiff,Nat.reduceLT,Nat.reduceSub,Int.reduceToNat,Int.reduceLE,Int.reduceLT, s_zero, ss_pc, ss_st, s_pc, s_regs, s_mem, s_rd, s_out, s_st, s_fin, s_all, s_put, s_put', stc_length, stc_all, one_imm, one_ref, cellT_U32, Int.reduceEq, Int.reduceBEq, Int.reduceNe, Int.reduceBNe]
    refine VCall.of_contract (fin7 6) (SleL.pure rfl) fun x hx => ?_
    subst hx
    simp only [go_sem,Nat.reduceEqDiff,Nat.reduceAdd,Nat.reduceMul,↓reduceIte,↓dreduceIte,reduceCtorEq,Nat.reduceLeDiff,Nat.reduceLT,Nat.reduceSub,Int.reduceToNat,Int.reduceLE,Int.reduceLT, s_zero, ss_pc, ss_st, s_pc, s_regs, s_mem, s_rd, s_out, s_st, s_fin, s_all, s_put, s_put', stc_length, stc_all, one_imm, one_ref, cellT_U32, Int.reduceEq, Int.reduceBEq, Int.reduceNe, Int.reduceBNe]
    exact ⟨_, Frz.pure rfl, rfl⟩
  have e3 : wordF code inp ⟨pc, f, mem, rd, out, t, 0⟩ w = (if (insF code inp ⟨pc, f, mem, rd, out, t, 0⟩ (opW w) (raW w) (rbW w) (kW w)).1 = 0 then (insF code inp ⟨pc, f, mem, rd, out, t, 0⟩ (opW w) (raW w) (rbW w) (kW w)).2
      else { (insF code inp ⟨pc, f, mem, rd, out, t, 0⟩ (opW w) (raW w) (rbW w) (kW w)).2 with fin := (insF code inp ⟨pc, f, mem, rd, out, t, 0⟩ (opW w) (raW w) (rbW w) (kW w)).1 }) := by
    unfold wordF; rw [hok, if_pos rfl]
  rw [e3]
  have hok' := okI_in hok
  generalize opW w = op at *
  generalize raW w = a at *
  generalize rbW w = b at *
  generalize kW w = c at *
  obtain ⟨g1, g2, ga1, ga2, gb1, gb2, gc1, gc2, gc⟩ := hok'
  have ja : a.toNat < 16 := by omega
  have jb : b.toNat < 16 := by omega
  have ec : IntKind.u32.wrap c = c := w32_in ⟨by omega, by omega⟩
  clear e3 e1 hs
  by_cases hap : 4 ≤ op ∧ op ≤ 15
  · have hc15 : c ≤ 15 := gc (by unfold cK; rw [if_pos hap])
    have jc : c.toNat < 16 := by omega
    have hins : insF code inp ⟨pc, f, mem, rd, out, t, 0⟩ op a b c = (if (applyW op (f b.toNat) (f c.toNat)).2 = 0 then (0, setR ⟨pc, f, mem, rd, out, t, 0⟩ a (applyW op (f b.toNat) (f c.toNat)).1) else (2, ⟨pc, f, mem, rd, out, t, 0⟩)) := by
      unfold insF
      iterate 15 rw [if_neg (by omega)]
    rw [hins]
    simp only [go_sem,Nat.reduceEqDiff,Nat.reduceAdd,Nat.reduceMul,↓reduceIte,↓dreduceIte,reduceCtorEq,Nat.reduceLeDiff,Nat.reduceLT,Nat.reduceSub,Int.reduceToNat,Int.reduceLE,Int.reduceLT, s_zero, ss_pc, ss_st, s_pc, s_regs, s_mem, s_rd, s_out, s_st, s_fin, s_all, s_put, s_put', stc_length, stc_all, one_imm, one_ref, cellT_U32, Int.reduceEq, Int.reduceBEq, Int.reduceNe, Int.reduceBNe, s_reg ja, s_reg jb, s_reg jc, eq_true hap.1, eq_true hap.2]
    repeat (refine And.intro (by omega) ?_)
    refine ECall.of (refapply_c op (f b.toNat) (f c.toNat) (hf _) (hf _)) (SleL.pure rfl) ⟨_, fun _ => Iff.rfl⟩ fun x hx => ?_
    subst hx
    generalize applyW op (f b.toNat) (f c.toNat) = p
    by_cases hp : p.2 = 0
    · have hp' : (p.2 != 0) = false := by simp [hp]
      simp only [go_sem,Nat.reduceEqDiff,Nat.reduceAdd,Nat.reduceMul,↓reduceIte,↓dreduceIte,reduceCtorEq,Nat.reduceLeDiff,Nat.reduceLT,Nat.reduceSub,Int.reduceToNat,Int.reduceLE,Int.reduceLT, s_zero, ss_pc, ss_st, s_pc, s_regs, s_mem, s_rd, s_out, s_st, s_fin, s_all, s_put, s_put', stc_length, stc_all, one_imm, one_ref, cellT_U32, Int.reduceEq, Int.reduceBEq, Int.reduceNe, Int.reduceBNe, s_reg ja, s_reg jb, s_reg jc, hp', eq_true hp]
      repeat (refine And.intro (by omega) ?_)
      refine VCall.of_contract (refset_c ⟨pc, f, mem, rd, out, t, 0⟩ a p.1 ⟨by omega, by omega⟩) (SleL.pure rfl) fun x hx => ?_
      subst hx
      simp only [go_sem,Nat.reduceEqDiff,Nat.reduceAdd,Nat.reduceMul,↓reduceIte,↓dreduceIte,reduceCtorEq,Nat.reduceLeDiff,Nat.reduceLT,Nat.reduceSub,Int.reduceToNat,Int.reduceLE,Int.reduceLT, s_zero, ss_pc, ss_st, s_pc, s_regs, s_mem, s_rd, s_out, s_st, s_fin, s_all, s_put, s_put', stc_length, stc_all, one_imm, one_ref, cellT_U32, Int.reduceEq, Int.reduceBEq, Int.reduceNe, Int.reduceBNe]
      exact ⟨_, Frz.pure rfl, by rw [if_pos hp] <;> rfl⟩
    · have hp' : (p.2 != 0) = true := by simp [hp]
      simp only [go_sem,Nat.reduceEqDiff,Nat.reduceAdd,Nat.reduceMul,↓reduceIte,↓dreduceIte,reduceCtorEq,Nat.reduceLeDiff,Nat.reduceLT,Nat.reduceSub,Int.reduceToNat,Int.reduceLE,Int.reduceLT, s_zero, ss_pc, ss_st, s_pc, s_regs, s_mem, s_rd, s_out, s_st, s_fin, s_all, s_put, s_put', stc_length, stc_all, one_imm, one_ref, cellT_U32, Int.reduceEq, Int.reduceBEq, Int.reduceNe, Int.reduceBNe, s_reg ja, s_reg jb, s_reg jc, hp', eq_false hp]
      refine VCall.of_contract (fin7 2) (SleL.pure rfl) fun x hx => ?_
      subst hx
      simp only [go_sem,Nat.reduceEqDiff,Nat.reduceAdd,Nat.reduceMul,↓reduceIte,↓dreduceIte,reduceCtorEq,Nat.reduceLeDiff,Nat.reduceLT,Nat.reduceSub,Int.reduceToNat,Int.reduceLE,Int.reduceLT, s_zero, ss_pc, ss_st, s_pc, s_regs, s_mem, s_rd, s_out, s_st, s_fin, s_all, s_put, s_put', stc_length, stc_all, one_imm, one_ref, cellT_U32, Int.reduceEq, Int.reduceBEq, Int.reduceNe, Int.reduceBNe]
      exact ⟨_, Frz.pure rfl, by rw [if_neg hp] <;> rfl⟩
  have hcases : op = 1 ∨ op = 2 ∨ op = 3 ∨ op = 16 ∨ op = 27 ∨ op = 17 ∨ op = 18 ∨ op = 19 ∨ op = 20 ∨ op = 21 ∨ op = 22 ∨ op = 23 ∨ op = 24 ∨ op = 25 ∨ op = 26 := by omega
  rcases hcases with rfl | rfl | rfl | rfl | rfl | rfl | rfl | rfl | rfl | rfl | rfl | rfl | rfl | rfl | rfl
  · -- 1
    simp only [go_sem,Nat.reduceEqDiff,Nat.reduceAdd,Nat.reduceMul,↓reduceIte,↓dreduceIte,reduceCtorEq,Nat.reduceLeDiff,Nat.reduceLT,Nat.reduceSub,Int.reduceToNat,Int.reduceLE,Int.reduceLT, s_zero, ss_pc, ss_st, s_pc, s_regs, s_mem, s_rd, s_out, s_st, s_fin, s_all, s_put, s_put', stc_length, stc_all, one_imm, one_ref, cellT_U32, Int.reduceEq, Int.reduceBEq, Int.reduceNe, Int.reduceBNe, s_reg ja, s_reg jb, ec]
    repeat (refine And.intro (by omega) ?_)
    refine VCall.of_contract (refset_c ⟨pc, f, mem, rd, out, t, 0⟩ a c ⟨by omega, by omega⟩) (SleL.pure rfl) fun x hx => ?_
    subst hx
    simp only [go_sem,Nat.reduceEqDiff,Nat.reduceAdd,Nat.reduceMul,↓reduceIte,↓dreduceIte,reduceCtorEq,Nat.reduceLeDiff,Nat.reduceLT,Nat.reduceSub,Int.reduceToNat,Int.reduceLE,Int.reduceLT, s_zero, ss_pc, ss_st, s_pc, s_regs, s_mem, s_rd, s_out, s_st, s_fin, s_all, s_put, s_put', stc_length, stc_all, one_imm, one_ref, cellT_U32, Int.reduceEq, Int.reduceBEq, Int.reduceNe, Int.reduceBNe]
    exact ⟨_, Frz.pure rfl, rfl⟩
  · -- 2
    have hq : IntKind.u32.wrap ((f a.toNat).tmod 65536 + IntKind.u32.wrap (c * 65536)) = f a.toNat % 65536 + c * 65536 := by
      have h0 := (hf a.toNat).1
      have h1 := (hf a.toNat).2
      rw [Int.tmod_eq_emod_of_nonneg h0, IntKind.wrap_u32, IntKind.wrap_u32]; omega
    simp only [go_sem,Nat.reduceEqDiff,Nat.reduceAdd,Nat.reduceMul,↓reduceIte,↓dreduceIte,reduceCtorEq,Nat.reduceLeDiff,Nat.reduceLT,Nat.reduceSub,Int.reduceToNat,Int.reduceLE,Int.reduceLT, s_zero, ss_pc, ss_st, s_pc, s_regs, s_mem, s_rd, s_out, s_st, s_fin, s_all, s_put, s_put', stc_length, stc_all, one_imm, one_ref, cellT_U32, Int.reduceEq, Int.reduceBEq, Int.reduceNe, Int.reduceBNe, s_reg ja, s_reg jb, ec, hq]
    repeat (refine And.intro (by omega) ?_)
    refine VCall.of_contract (refset_c ⟨pc, f, mem, rd, out, t, 0⟩ a (f a.toNat % 65536 + c * 65536) ⟨by omega, by omega⟩) (SleL.pure rfl) fun x hx => ?_
    subst hx
    simp only [go_sem,Nat.reduceEqDiff,Nat.reduceAdd,Nat.reduceMul,↓reduceIte,↓dreduceIte,reduceCtorEq,Nat.reduceLeDiff,Nat.reduceLT,Nat.reduceSub,Int.reduceToNat,Int.reduceLE,Int.reduceLT, s_zero, s_put, s_put', stc_length, stc_all, s_all, one_imm]
    exact ⟨_, Frz.pure rfl, rfl⟩
  · -- 3
    simp only [go_sem,Nat.reduceEqDiff,Nat.reduceAdd,Nat.reduceMul,↓reduceIte,↓dreduceIte,reduceCtorEq,Nat.reduceLeDiff,Nat.reduceLT,Nat.reduceSub,Int.reduceToNat,Int.reduceLE,Int.reduceLT, s_zero, ss_pc, ss_st, s_pc, s_regs, s_mem, s_rd, s_out, s_st, s_fin, s_all, s_put, s_put', stc_length, stc_all, one_imm, one_ref, cellT_U32, Int.reduceEq, Int.reduceBEq, Int.reduceNe, Int.reduceBNe, s_reg ja, s_reg jb, ec]
    repeat (refine And.intro (by omega) ?_)
    refine VCall.of_contract (refset_c ⟨pc, f, mem, rd, out, t, 0⟩ a (f b.toNat) ⟨by omega, by omega⟩) (SleL.pure rfl) fun x hx => ?_
    subst hx
    simp only [go_sem,Nat.reduceEqDiff,Nat.reduceAdd,Nat.reduceMul,↓reduceIte,↓dreduceIte,reduceCtorEq,Nat.reduceLeDiff,Nat.reduceLT,Nat.reduceSub,Int.reduceToNat,Int.reduceLE,Int.reduceLT, s_zero, ss_pc, ss_st, s_pc, s_regs, s_mem, s_rd, s_out, s_st, s_fin, s_all, s_put, s_put', stc_length, stc_all, one_imm, one_ref, cellT_U32, Int.reduceEq, Int.reduceBEq, Int.reduceNe, Int.reduceBNe]
    exact ⟨_, Frz.pure rfl, rfl⟩
  · -- 16
    simp only [go_sem,Nat.reduceEqDiff,Nat.reduceAdd,Nat.reduceMul,↓reduceIte,↓dreduceIte,reduceCtorEq,Nat.reduceLeDiff,Nat.reduceLT,Nat.reduceSub,Int.reduceToNat,Int.reduceLE,Int.reduceLT, s_zero, ss_pc, ss_st, s_pc, s_regs, s_mem, s_rd, s_out, s_st, s_fin, s_all, s_put, s_put', stc_length, stc_all, one_imm, one_ref, cellT_U32, Int.reduceEq, Int.reduceBEq, Int.reduceNe, Int.reduceBNe, s_reg ja, s_reg jb, ec]
    repeat (refine And.intro (by omega) ?_)
    refine ECall.of (refword_c mem (f b.toNat) c (hf _) ⟨gc1, gc2⟩ hl) (SleL.pure rfl) ⟨_, fun _ => Iff.rfl⟩ fun x hx => ?_
    subst hx
    by_cases h : w32 (f b.toNat + c) < (mem.length : Int)
    · have hins : insF code inp ⟨pc, f, mem, rd, out, t, 0⟩ 16 a b c = (0, setR ⟨pc, f, mem, rd, out, t, 0⟩ a (mem.getD (w32 (f b.toNat + c)).toNat default)) := if_pos h
      rw [hins]
      simp only [go_sem,Nat.reduceEqDiff,Nat.reduceAdd,Nat.reduceMul,↓reduceIte,↓dreduceIte,reduceCtorEq,Nat.reduceLeDiff,Nat.reduceLT,Nat.reduceSub,Int.reduceToNat,Int.reduceLE,Int.reduceLT, s_zero, ss_pc, ss_st, s_pc, s_regs, s_mem, s_rd, s_out, s_st, s_fin, s_all, s_put, s_put', stc_length, stc_all, one_imm, one_ref, cellT_U32, Int.reduceEq, Int.reduceBEq, Int.reduceNe, Int.reduceBNe, s_reg ja, s_reg jb, eq_true h, if_pos]
      repeat (refine And.intro (by omega) ?_)
      refine VCall.of_contract (refset_c ⟨pc, f, mem, rd, out, t, 0⟩ a (mem.getD (w32 (f b.toNat + c)).toNat default) ⟨by omega, by omega⟩) (SleL.pure rfl) fun x hx => ?_
      subst hx
      simp only [go_sem,Nat.reduceEqDiff,Nat.reduceAdd,Nat.reduceMul,↓reduceIte,↓dreduceIte,reduceCtorEq,Nat.reduceLeDiff,Nat.reduceLT,Nat.reduceSub,Int.reduceToNat,Int.reduceLE,Int.reduceLT, s_zero, ss_pc, ss_st, s_pc, s_regs, s_mem, s_rd, s_out, s_st, s_fin, s_all, s_put, s_put', stc_length, stc_all, one_imm, one_ref, cellT_U32, Int.reduceEq, Int.reduceBEq, Int.reduceNe, Int.reduceBNe]
      exact ⟨_, Frz.pure rfl, rfl⟩
    · have hins : insF code inp ⟨pc, f, mem, rd, out, t, 0⟩ 16 a b c = (8, ⟨pc, f, mem, rd, out, t, 0⟩) := if_neg h
      rw [hins]
      simp only [go_sem,Nat.reduceEqDiff,Nat.reduceAdd,Nat.reduceMul,↓reduceIte,↓dreduceIte,reduceCtorEq,Nat.reduceLeDiff,Nat.reduceLT,Nat.reduceSub,Int.reduceToNat,Int.reduceLE,Int.reduceLT, s_zero, ss_pc, ss_st, s_pc, s_regs, s_mem, s_rd, s_out, s_st, s_fin, s_all, s_put, s_put', stc_length, stc_all, one_imm, one_ref, cellT_U32, Int.reduceEq, Int.reduceBEq, Int.reduceNe, Int.reduceBNe, s_reg ja, s_reg jb, eq_false h]
      refine VCall.of_contract (fin7 8) (SleL.pure rfl) fun x hx => ?_
      subst hx
      simp only [go_sem,Nat.reduceEqDiff,Nat.reduceAdd,Nat.reduceMul,↓reduceIte,↓dreduceIte,reduceCtorEq,Nat.reduceLeDiff,Nat.reduceLT,Nat.reduceSub,Int.reduceToNat,Int.reduceLE,Int.reduceLT, s_zero, ss_pc, ss_st, s_pc, s_regs, s_mem, s_rd, s_out, s_st, s_fin, s_all, s_put, s_put', stc_length, stc_all, one_imm, one_ref, cellT_U32, Int.reduceEq, Int.reduceBEq, Int.reduceNe, Int.reduceBNe]
      exact ⟨_, Frz.pure rfl, rfl⟩
  · -- 27
    simp only [go_sem,Nat.reduceEqDiff,Nat.reduceAdd,Nat.reduceMul,↓reduceIte,↓dreduceIte,reduceCtorEq,Nat.reduceLeDiff,Nat.reduceLT,Nat.reduceSub,Int.reduceToNat,Int.reduceLE,Int.reduceLT, s_zero, ss_pc, ss_st, s_pc, s_regs, s_mem, s_rd, s_out, s_st, s_fin, s_all, s_put, s_put', stc_length, stc_all, one_imm, one_ref, cellT_U32, Int.reduceEq, Int.reduceBEq, Int.reduceNe, Int.reduceBNe, s_reg ja, s_reg jb, ec]
    repeat (refine And.intro (by omega) ?_)
    refine ECall.of (refword_c code (f b.toNat) c (hf _) ⟨gc1, gc2⟩ hcl) (SleL.pure rfl) ⟨_, fun _ => Iff.rfl⟩ fun x hx => ?_
    subst hx
    by_cases h : w32 (f b.toNat + c) < (code.length : Int)
    · have hins : insF code inp ⟨pc, f, mem, rd, out, t, 0⟩ 27 a b c = (0, setR ⟨pc, f, mem, rd, out, t, 0⟩ a (code.getD (w32 (f b.toNat + c)).toNat default)) := if_pos h
      rw [hins]
      simp only [go_sem,Nat.reduceEqDiff,Nat.reduceAdd,Nat.reduceMul,↓reduceIte,↓dreduceIte,reduceCtorEq,Nat.reduceLeDiff,Nat.reduceLT,Nat.reduceSub,Int.reduceToNat,Int.reduceLE,Int.reduceLT, s_zero, ss_pc, ss_st, s_pc, s_regs, s_mem, s_rd, s_out, s_st, s_fin, s_all, s_put, s_put', stc_length, stc_all, one_imm, one_ref, cellT_U32, Int.reduceEq, Int.reduceBEq, Int.reduceNe, Int.reduceBNe, s_reg ja, s_reg jb, eq_true h, if_pos]
      repeat (refine And.intro (by omega) ?_)
      refine VCall.of_contract (refset_c ⟨pc, f, mem, rd, out, t, 0⟩ a (code.getD (w32 (f b.toNat + c)).toNat default) ⟨by omega, by omega⟩) (SleL.pure rfl) fun x hx => ?_
      subst hx
      simp only [go_sem,Nat.reduceEqDiff,Nat.reduceAdd,Nat.reduceMul,↓reduceIte,↓dreduceIte,reduceCtorEq,Nat.reduceLeDiff,Nat.reduceLT,Nat.reduceSub,Int.reduceToNat,Int.reduceLE,Int.reduceLT, s_zero, ss_pc, ss_st, s_pc, s_regs, s_mem, s_rd, s_out, s_st, s_fin, s_all, s_put, s_put', stc_length, stc_all, one_imm, one_ref, cellT_U32, Int.reduceEq, Int.reduceBEq, Int.reduceNe, Int.reduceBNe]
      exact ⟨_, Frz.pure rfl, rfl⟩
    · have hins : insF code inp ⟨pc, f, mem, rd, out, t, 0⟩ 27 a b c = (8, ⟨pc, f, mem, rd, out, t, 0⟩) := if_neg h
      rw [hins]
      simp only [go_sem,Nat.reduceEqDiff,Nat.reduceAdd,Nat.reduceMul,↓reduceIte,↓dreduceIte,reduceCtorEq,Nat.reduceLeDiff,Nat.reduceLT,Nat.reduceSub,Int.reduceToNat,Int.reduceLE,Int.reduceLT, s_zero, ss_pc, ss_st, s_pc, s_regs, s_mem, s_rd, s_out, s_st, s_fin, s_all, s_put, s_put', stc_length, stc_all, one_imm, one_ref, cellT_U32, Int.reduceEq, Int.reduceBEq, Int.reduceNe, Int.reduceBNe, s_reg ja, s_reg jb, eq_false h]
      refine VCall.of_contract (fin7 8) (SleL.pure rfl) fun x hx => ?_
      subst hx
      simp only [go_sem,Nat.reduceEqDiff,Nat.reduceAdd,Nat.reduceMul,↓reduceIte,↓dreduceIte,reduceCtorEq,Nat.reduceLeDiff,Nat.reduceLT,Nat.reduceSub,Int.reduceToNat,Int.reduceLE,Int.reduceLT, s_zero, ss_pc, ss_st, s_pc, s_regs, s_mem, s_rd, s_out, s_st, s_fin, s_all, s_put, s_put', stc_length, stc_all, one_imm, one_ref, cellT_U32, Int.reduceEq, Int.reduceBEq, Int.reduceNe, Int.reduceBNe]
      exact ⟨_, Frz.pure rfl, rfl⟩
  · -- 17
    simp only [go_sem,Nat.reduceEqDiff,Nat.reduceAdd,Nat.reduceMul,↓reduceIte,↓dreduceIte,reduceCtorEq,Nat.reduceLeDiff,Nat.reduceLT,Nat.reduceSub,Int.reduceToNat,Int.reduceLE,Int.reduceLT, s_zero, ss_pc, ss_st, s_pc, s_regs, s_mem, s_rd, s_out, s_st, s_fin, s_all, s_put, s_put', stc_length, stc_all, one_imm, one_ref, cellT_U32, Int.reduceEq, Int.reduceBEq, Int.reduceNe, Int.reduceBNe, s_reg ja, s_reg jb, ec]
    repeat (refine And.intro (by omega) ?_)
    by_cases h : w32 (f b.toNat + c) < (mem.length : Int)
    · have hins : insF code inp ⟨pc, f, mem, rd, out, t, 0⟩ 17 a b c = (0, ⟨nxt ⟨pc, f, mem, rd, out, t, 0⟩, f, mem.set (w32 (f b.toNat + c)).toNat (f a.toNat), rd, out, t, 0⟩) := if_pos h
      rw [hins]
      have hst := refstore_c ⟨pc, f, mem, rd, out, t, 0⟩ (f b.toNat) c (f a.toNat) (hf _) ⟨gc1, gc2⟩ hl
      rw [if_pos h] at hst
      refine VCall.of_contract (hst) (SleL.pure rfl) fun x hx => ?_
      subst hx
      simp only [go_sem,Nat.reduceEqDiff,Nat.reduceAdd,Nat.reduceMul,↓reduceIte,↓dreduceIte,reduceCtorEq,Nat.reduceLeDiff,Nat.reduceLT,Nat.reduceSub,Int.reduceToNat,Int.reduceLE,Int.reduceLT, s_zero, ss_pc, ss_st, s_pc, s_regs, s_mem, s_rd, s_out, s_st, s_fin, s_all, s_put, s_put', stc_length, stc_all, one_imm, one_ref, cellT_U32, Int.reduceEq, Int.reduceBEq, Int.reduceNe, Int.reduceBNe]
      exact ⟨_, Frz.pure rfl, rfl⟩
    · have hins : insF code inp ⟨pc, f, mem, rd, out, t, 0⟩ 17 a b c = (8, ⟨pc, f, mem, rd, out, t, 0⟩) := if_neg h
      rw [hins]
      have hst := refstore_c ⟨pc, f, mem, rd, out, t, 0⟩ (f b.toNat) c (f a.toNat) (hf _) ⟨gc1, gc2⟩ hl
      rw [if_neg h] at hst
      refine VCall.of_contract (hst) (SleL.pure rfl) fun x hx => ?_
      subst hx
      simp only [go_sem,Nat.reduceEqDiff,Nat.reduceAdd,Nat.reduceMul,↓reduceIte,↓dreduceIte,reduceCtorEq,Nat.reduceLeDiff,Nat.reduceLT,Nat.reduceSub,Int.reduceToNat,Int.reduceLE,Int.reduceLT, s_zero, ss_pc, ss_st, s_pc, s_regs, s_mem, s_rd, s_out, s_st, s_fin, s_all, s_put, s_put', stc_length, stc_all, one_imm, one_ref, cellT_U32, Int.reduceEq, Int.reduceBEq, Int.reduceNe, Int.reduceBNe]
      exact ⟨_, Frz.pure rfl, rfl⟩
  · -- 18
    simp only [go_sem,Nat.reduceEqDiff,Nat.reduceAdd,Nat.reduceMul,↓reduceIte,↓dreduceIte,reduceCtorEq,Nat.reduceLeDiff,Nat.reduceLT,Nat.reduceSub,Int.reduceToNat,Int.reduceLE,Int.reduceLT, s_zero, ss_pc, ss_st, s_pc, s_regs, s_mem, s_rd, s_out, s_st, s_fin, s_all, s_put, s_put', stc_length, stc_all, one_imm, one_ref, cellT_U32, Int.reduceEq, Int.reduceBEq, Int.reduceNe, Int.reduceBNe, s_reg ja, s_reg jb, ec]
    repeat (refine And.intro (by omega) ?_)
    refine VCall.of_contract (refjump_c ⟨pc, f, mem, rd, out, t, 0⟩ c) (SleL.pure rfl) fun x hx => ?_
    subst hx
    simp only [go_sem,Nat.reduceEqDiff,Nat.reduceAdd,Nat.reduceMul,↓reduceIte,↓dreduceIte,reduceCtorEq,Nat.reduceLeDiff,Nat.reduceLT,Nat.reduceSub,Int.reduceToNat,Int.reduceLE,Int.reduceLT, s_zero, ss_pc, ss_st, s_pc, s_regs, s_mem, s_rd, s_out, s_st, s_fin, s_all, s_put, s_put', stc_length, stc_all, one_imm, one_ref, cellT_U32, Int.reduceEq, Int.reduceBEq, Int.reduceNe, Int.reduceBNe]
    exact ⟨_, Frz.pure rfl, rfl⟩
  · -- 19
    by_cases h : f a.toNat = 0
    · have hins : insF code inp ⟨pc, f, mem, rd, out, t, 0⟩ 19 a b c = (0, ⟨c, f, mem, rd, out, t, 0⟩) := by show (0, S.mk (if f a.toNat = 0 then _ else _) f mem rd out t 0) = _; rw [if_pos h] <;> rfl
      rw [hins]
      have h' : (f a.toNat != 0) = false := by simp [h]
      simp only [go_sem,Nat.reduceEqDiff,Nat.reduceAdd,Nat.reduceMul,↓reduceIte,↓dreduceIte,reduceCtorEq,Nat.reduceLeDiff,Nat.reduceLT,Nat.reduceSub,Int.reduceToNat,Int.reduceLE,Int.reduceLT, s_zero, ss_pc, ss_st, s_pc, s_regs, s_mem, s_rd, s_out, s_st, s_fin, s_all, s_put, s_put', stc_length, stc_all, one_imm, one_ref, cellT_U32, Int.reduceEq, Int.reduceBEq, Int.reduceNe, Int.reduceBNe, s_reg ja, s_reg jb, ec, eq_true h, h']
      repeat (refine And.intro (by omega) ?_)
      refine VCall.of_contract (refjump_c ⟨pc, f, mem, rd, out, t, 0⟩ c) (SleL.pure rfl) fun x hx => ?_
      subst hx
      simp only [go_sem,Nat.reduceEqDiff,Nat.reduceAdd,Nat.reduceMul,↓reduceIte,↓dreduceIte,reduceCtorEq,Nat.reduceLeDiff,Nat.reduceLT,Nat.reduceSub,Int.reduceToNat,Int.reduceLE,Int.reduceLT, s_zero, ss_pc, ss_st, s_pc, s_regs, s_mem, s_rd, s_out, s_st, s_fin, s_all, s_put, s_put', stc_length, stc_all, one_imm, one_ref, cellT_U32, Int.reduceEq, Int.reduceBEq, Int.reduceNe, Int.reduceBNe]
      exact ⟨_, Frz.pure rfl, rfl⟩
    · have hins : insF code inp ⟨pc, f, mem, rd, out, t, 0⟩ 19 a b c = (0, ⟨(IntKind.i64.wrap (pc + 1)), f, mem, rd, out, t, 0⟩) := by show (0, S.mk (if f a.toNat = 0 then _ else _) f mem rd out t 0) = _; rw [if_neg h] <;> rfl
      rw [hins]
      have h' : (f a.toNat != 0) = true := by simp [h]
      simp only [go_sem,Nat.reduceEqDiff,Nat.reduceAdd,Nat.reduceMul,↓reduceIte,↓dreduceIte,reduceCtorEq,Nat.reduceLeDiff,Nat.reduceLT,Nat.reduceSub,Int.reduceToNat,Int.reduceLE,Int.reduceLT, s_zero, ss_pc, ss_st, s_pc, s_regs, s_mem, s_rd, s_out, s_st, s_fin, s_all, s_put, s_put', stc_length, stc_all, one_imm, one_ref, cellT_U32, Int.reduceEq, Int.reduceBEq, Int.reduceNe, Int.reduceBNe, s_reg ja, s_reg jb, ec, eq_false h, h']
      repeat (refine And.intro (by omega) ?_)
      refine VCall.of_contract (refjump_c ⟨pc, f, mem, rd, out, t, 0⟩ (IntKind.i64.wrap (pc + 1))) (SleL.pure rfl) fun x hx => ?_
      subst hx
      simp only [go_sem,Nat.reduceEqDiff,Nat.reduceAdd,Nat.reduceMul,↓reduceIte,↓dreduceIte,reduceCtorEq,Nat.reduceLeDiff,Nat.reduceLT,Nat.reduceSub,Int.reduceToNat,Int.reduceLE,Int.reduceLT, s_zero, ss_pc, ss_st, s_pc, s_regs, s_mem, s_rd, s_out, s_st, s_fin, s_all, s_put, s_put', stc_length, stc_all, one_imm, one_ref, cellT_U32, Int.reduceEq, Int.reduceBEq, Int.reduceNe, Int.reduceBNe]
      exact ⟨_, Frz.pure rfl, rfl⟩
  · -- 20
    by_cases h : f a.toNat = 0
    · have hins : insF code inp ⟨pc, f, mem, rd, out, t, 0⟩ 20 a b c = (0, ⟨(IntKind.i64.wrap (pc + 1)), f, mem, rd, out, t, 0⟩) := by show (0, S.mk (if f a.toNat = 0 then _ else _) f mem rd out t 0) = _; rw [if_pos h] <;> rfl
      rw [hins]
      have h' : (f a.toNat != 0) = false := by simp [h]
      simp only [go_sem,Nat.reduceEqDiff,Nat.reduceAdd,Nat.reduceMul,↓reduceIte,↓dreduceIte,reduceCtorEq,Nat.reduceLeDiff,Nat.reduceLT,Nat.reduceSub,Int.reduceToNat,Int.reduceLE,Int.reduceLT, s_zero, ss_pc, ss_st, s_pc, s_regs, s_mem, s_rd, s_out, s_st, s_fin, s_all, s_put, s_put', stc_length, stc_all, one_imm, one_ref, cellT_U32, Int.reduceEq, Int.reduceBEq, Int.reduceNe, Int.reduceBNe, s_reg ja, s_reg jb, ec, eq_true h, h']
      repeat (refine And.intro (by omega) ?_)
      refine VCall.of_contract (refjump_c ⟨pc, f, mem, rd, out, t, 0⟩ (IntKind.i64.wrap (pc + 1))) (SleL.pure rfl) fun x hx => ?_
      subst hx
      simp only [go_sem,Nat.reduceEqDiff,Nat.reduceAdd,Nat.reduceMul,↓reduceIte,↓dreduceIte,reduceCtorEq,Nat.reduceLeDiff,Nat.reduceLT,Nat.reduceSub,Int.reduceToNat,Int.reduceLE,Int.reduceLT, s_zero, ss_pc, ss_st, s_pc, s_regs, s_mem, s_rd, s_out, s_st, s_fin, s_all, s_put, s_put', stc_length, stc_all, one_imm, one_ref, cellT_U32, Int.reduceEq, Int.reduceBEq, Int.reduceNe, Int.reduceBNe]
      exact ⟨_, Frz.pure rfl, rfl⟩
    · have hins : insF code inp ⟨pc, f, mem, rd, out, t, 0⟩ 20 a b c = (0, ⟨c, f, mem, rd, out, t, 0⟩) := by show (0, S.mk (if f a.toNat = 0 then _ else _) f mem rd out t 0) = _; rw [if_neg h] <;> rfl
      rw [hins]
      have h' : (f a.toNat != 0) = true := by simp [h]
      simp only [go_sem,Nat.reduceEqDiff,Nat.reduceAdd,Nat.reduceMul,↓reduceIte,↓dreduceIte,reduceCtorEq,Nat.reduceLeDiff,Nat.reduceLT,Nat.reduceSub,Int.reduceToNat,Int.reduceLE,Int.reduceLT, s_zero, ss_pc, ss_st, s_pc, s_regs, s_mem, s_rd, s_out, s_st, s_fin, s_all, s_put, s_put', stc_length, stc_all, one_imm, one_ref, cellT_U32, Int.reduceEq, Int.reduceBEq, Int.reduceNe, Int.reduceBNe, s_reg ja, s_reg jb, ec, eq_false h, h']
      repeat (refine And.intro (by omega) ?_)
      refine VCall.of_contract (refjump_c ⟨pc, f, mem, rd, out, t, 0⟩ c) (SleL.pure rfl) fun x hx => ?_
      subst hx
      simp only [go_sem,Nat.reduceEqDiff,Nat.reduceAdd,Nat.reduceMul,↓reduceIte,↓dreduceIte,reduceCtorEq,Nat.reduceLeDiff,Nat.reduceLT,Nat.reduceSub,Int.reduceToNat,Int.reduceLE,Int.reduceLT, s_zero, ss_pc, ss_st, s_pc, s_regs, s_mem, s_rd, s_out, s_st, s_fin, s_all, s_put, s_put', stc_length, stc_all, one_imm, one_ref, cellT_U32, Int.reduceEq, Int.reduceBEq, Int.reduceNe, Int.reduceBNe]
      exact ⟨_, Frz.pure rfl, rfl⟩
  · -- 21
    have hq : IntKind.u32.wrap (IntKind.u32.wrap pc + 1) = w32 (nxt ⟨pc, f, mem, rd, out, t, 0⟩) := by
      simp only [w32, nxt]; rw [IntKind.wrap_u32, IntKind.wrap_u32, IntKind.wrap_u32, IntKind.wrap_i64]; omega
    simp only [go_sem,Nat.reduceEqDiff,Nat.reduceAdd,Nat.reduceMul,↓reduceIte,↓dreduceIte,reduceCtorEq,Nat.reduceLeDiff,Nat.reduceLT,Nat.reduceSub,Int.reduceToNat,Int.reduceLE,Int.reduceLT, s_zero, ss_pc, ss_st, s_pc, s_regs, s_mem, s_rd, s_out, s_st, s_fin, s_all, s_put, s_put', stc_length, stc_all, one_imm, one_ref, cellT_U32, Int.reduceEq, Int.reduceBEq, Int.reduceNe, Int.reduceBNe, s_reg ja, s_reg jb, ec, hq]
    repeat (refine And.intro (by omega) ?_)
    refine ECall.of (refset_c ⟨pc, f, mem, rd, out, t, 0⟩ a (w32 (nxt ⟨pc, f, mem, rd, out, t, 0⟩)) ⟨by omega, by omega⟩) (SleL.pure rfl) ⟨_, fun _ => Iff.rfl⟩ fun x hx => ?_
    subst hx
    simp only [go_sem,Nat.reduceEqDiff,Nat.reduceAdd,Nat.reduceMul,↓reduceIte,↓dreduceIte,reduceCtorEq,Nat.reduceLeDiff,Nat.reduceLT,Nat.reduceSub,Int.reduceToNat,Int.reduceLE,Int.reduceLT, s_zero, ss_pc, ss_st, s_pc, s_regs, s_mem, s_rd, s_out, s_st, s_fin, s_all, s_put, s_put', stc_length, stc_all, one_imm, one_ref, cellT_U32, Int.reduceEq, Int.reduceBEq, Int.reduceNe, Int.reduceBNe]
    refine ECall.of (refjump_c (setR ⟨pc, f, mem, rd, out, t, 0⟩ a (w32 (nxt ⟨pc, f, mem, rd, out, t, 0⟩))) c) (SleL.pure rfl) ⟨_, fun _ => Iff.rfl⟩ fun x hx => ?_
    subst hx
    simp only [go_sem,Nat.reduceEqDiff,Nat.reduceAdd,Nat.reduceMul,↓reduceIte,↓dreduceIte,reduceCtorEq,Nat.reduceLeDiff,Nat.reduceLT,Nat.reduceSub,Int.reduceToNat,Int.reduceLE,Int.reduceLT, s_zero, ss_pc, ss_st, s_pc, s_regs, s_mem, s_rd, s_out, s_st, s_fin, s_all, s_put, s_put', stc_length, stc_all, one_imm, one_ref, cellT_U32, Int.reduceEq, Int.reduceBEq, Int.reduceNe, Int.reduceBNe]
    exact ⟨_, Frz.pure rfl, rfl⟩
  · -- 22
    have hq : IntKind.i64.wrap (f a.toNat) = f a.toNat := by
      have := hf a.toNat
      exact i64_in (by have := this.1; omega) (by have := this.2; omega)
    simp only [go_sem,Nat.reduceEqDiff,Nat.reduceAdd,Nat.reduceMul,↓reduceIte,↓dreduceIte,reduceCtorEq,Nat.reduceLeDiff,Nat.reduceLT,Nat.reduceSub,Int.reduceToNat,Int.reduceLE,Int.reduceLT, s_zero, ss_pc, ss_st, s_pc, s_regs, s_mem, s_rd, s_out, s_st, s_fin, s_all, s_put, s_put', stc_length, stc_all, one_imm, one_ref, cellT_U32, Int.reduceEq, Int.reduceBEq, Int.reduceNe, Int.reduceBNe, s_reg ja, s_reg jb, ec, hq]
    repeat (refine And.intro (by omega) ?_)
    refine VCall.of_contract (refjump_c ⟨pc, f, mem, rd, out, t, 0⟩ (f a.toNat)) (SleL.pure rfl) fun x hx => ?_
    subst hx
    simp only [go_sem,Nat.reduceEqDiff,Nat.reduceAdd,Nat.reduceMul,↓reduceIte,↓dreduceIte,reduceCtorEq,Nat.reduceLeDiff,Nat.reduceLT,Nat.reduceSub,Int.reduceToNat,Int.reduceLE,Int.reduceLT, s_zero, ss_pc, ss_st, s_pc, s_regs, s_mem, s_rd, s_out, s_st, s_fin, s_all, s_put, s_put', stc_length, stc_all, one_imm, one_ref, cellT_U32, Int.reduceEq, Int.reduceBEq, Int.reduceNe, Int.reduceBNe]
    exact ⟨_, Frz.pure rfl, rfl⟩
  · -- 23
    simp only [go_sem,Nat.reduceEqDiff,Nat.reduceAdd,Nat.reduceMul,↓reduceIte,↓dreduceIte,reduceCtorEq,Nat.reduceLeDiff,Nat.reduceLT,Nat.reduceSub,Int.reduceToNat,Int.reduceLE,Int.reduceLT, s_zero, ss_pc, ss_st, s_pc, s_regs, s_mem, s_rd, s_out, s_st, s_fin, s_all, s_put, s_put', stc_length, stc_all, one_imm, one_ref, cellT_U32, Int.reduceEq, Int.reduceBEq, Int.reduceNe, Int.reduceBNe, s_reg ja, s_reg jb, ec]
    repeat (refine And.intro (by omega) ?_)
    refine VCall.of_contract (refget_c inp ⟨pc, f, mem, rd, out, t, 0⟩ a ⟨by omega, by omega⟩ hi) (SleL.pure rfl) fun x hx => ?_
    subst hx
    simp only [go_sem,Nat.reduceEqDiff,Nat.reduceAdd,Nat.reduceMul,↓reduceIte,↓dreduceIte,reduceCtorEq,Nat.reduceLeDiff,Nat.reduceLT,Nat.reduceSub,Int.reduceToNat,Int.reduceLE,Int.reduceLT, s_zero, ss_pc, ss_st, s_pc, s_regs, s_mem, s_rd, s_out, s_st, s_fin, s_all, s_put, s_put', stc_length, stc_all, one_imm, one_ref, cellT_U32, Int.reduceEq, Int.reduceBEq, Int.reduceNe, Int.reduceBNe]
    exact ⟨_, Frz.pure rfl, rfl⟩
  · -- 24
    simp only [go_sem,Nat.reduceEqDiff,Nat.reduceAdd,Nat.reduceMul,↓reduceIte,↓dreduceIte,reduceCtorEq,Nat.reduceLeDiff,Nat.reduceLT,Nat.reduceSub,Int.reduceToNat,Int.reduceLE,Int.reduceLT, s_zero, ss_pc, ss_st, s_pc, s_regs, s_mem, s_rd, s_out, s_st, s_fin, s_all, s_put, s_put', stc_length, stc_all, one_imm, one_ref, cellT_U32, Int.reduceEq, Int.reduceBEq, Int.reduceNe, Int.reduceBNe, s_reg ja, s_reg jb, ec]
    repeat (refine And.intro (by omega) ?_)
    by_cases h : 65536 ≤ out.size
    · have hins : insF code inp ⟨pc, f, mem, rd, out, t, 0⟩ 24 a b c = (4, ⟨pc, f, mem, rd, out, t, 0⟩) := if_pos h
      rw [hins]
      have hst := refput_c ⟨pc, f, mem, rd, out, t, 0⟩ (f a.toNat)
      rw [if_pos h] at hst
      refine VCall.of_contract (hst) (SleL.pure rfl) fun x hx => ?_
      subst hx
      simp only [go_sem,Nat.reduceEqDiff,Nat.reduceAdd,Nat.reduceMul,↓reduceIte,↓dreduceIte,reduceCtorEq,Nat.reduceLeDiff,Nat.reduceLT,Nat.reduceSub,Int.reduceToNat,Int.reduceLE,Int.reduceLT, s_zero, ss_pc, ss_st, s_pc, s_regs, s_mem, s_rd, s_out, s_st, s_fin, s_all, s_put, s_put', stc_length, stc_all, one_imm, one_ref, cellT_U32, Int.reduceEq, Int.reduceBEq, Int.reduceNe, Int.reduceBNe]
      exact ⟨_, Frz.pure rfl, rfl⟩
    · have hins : insF code inp ⟨pc, f, mem, rd, out, t, 0⟩ 24 a b c = (0, ⟨nxt ⟨pc, f, mem, rd, out, t, 0⟩, f, mem, rd, out.push (byteOf (f a.toNat)), t, 0⟩) := if_neg h
      rw [hins]
      have hst := refput_c ⟨pc, f, mem, rd, out, t, 0⟩ (f a.toNat)
      rw [if_neg h] at hst
      refine VCall.of_contract (hst) (SleL.pure rfl) fun x hx => ?_
      subst hx
      simp only [go_sem,Nat.reduceEqDiff,Nat.reduceAdd,Nat.reduceMul,↓reduceIte,↓dreduceIte,reduceCtorEq,Nat.reduceLeDiff,Nat.reduceLT,Nat.reduceSub,Int.reduceToNat,Int.reduceLE,Int.reduceLT, s_zero, ss_pc, ss_st, s_pc, s_regs, s_mem, s_rd, s_out, s_st, s_fin, s_all, s_put, s_put', stc_length, stc_all, one_imm, one_ref, cellT_U32, Int.reduceEq, Int.reduceBEq, Int.reduceNe, Int.reduceBNe]
      exact ⟨_, Frz.pure rfl, rfl⟩
  · -- 25
    by_cases h : f a.toNat < c
    · have hins : insF code inp ⟨pc, f, mem, rd, out, t, 0⟩ 25 a b c = (0, ⟨nxt ⟨pc, f, mem, rd, out, t, 0⟩, f, mem, rd, out, t, 0⟩) := if_pos h
      rw [hins]
      simp only [go_sem,Nat.reduceEqDiff,Nat.reduceAdd,Nat.reduceMul,↓reduceIte,↓dreduceIte,reduceCtorEq,Nat.reduceLeDiff,Nat.reduceLT,Nat.reduceSub,Int.reduceToNat,Int.reduceLE,Int.reduceLT, s_zero, ss_pc, ss_st, s_pc, s_regs, s_mem, s_rd, s_out, s_st, s_fin, s_all, s_put, s_put', stc_length, stc_all, one_imm, one_ref, cellT_U32, Int.reduceEq, Int.reduceBEq, Int.reduceNe, Int.reduceBNe, s_reg ja, s_reg jb, ec, eq_true h]
      repeat (refine And.intro (by omega) ?_)
      refine VCall.of_contract (refjump_c ⟨pc, f, mem, rd, out, t, 0⟩ (IntKind.i64.wrap (pc + 1))) (SleL.pure rfl) fun x hx => ?_
      subst hx
      simp only [go_sem,Nat.reduceEqDiff,Nat.reduceAdd,Nat.reduceMul,↓reduceIte,↓dreduceIte,reduceCtorEq,Nat.reduceLeDiff,Nat.reduceLT,Nat.reduceSub,Int.reduceToNat,Int.reduceLE,Int.reduceLT, s_zero, ss_pc, ss_st, s_pc, s_regs, s_mem, s_rd, s_out, s_st, s_fin, s_all, s_put, s_put', stc_length, stc_all, one_imm, one_ref, cellT_U32, Int.reduceEq, Int.reduceBEq, Int.reduceNe, Int.reduceBNe]
      exact ⟨_, Frz.pure rfl, rfl⟩
    · have hins : insF code inp ⟨pc, f, mem, rd, out, t, 0⟩ 25 a b c = (3, ⟨pc, f, mem, rd, out, t, 0⟩) := if_neg h
      rw [hins]
      simp only [go_sem,Nat.reduceEqDiff,Nat.reduceAdd,Nat.reduceMul,↓reduceIte,↓dreduceIte,reduceCtorEq,Nat.reduceLeDiff,Nat.reduceLT,Nat.reduceSub,Int.reduceToNat,Int.reduceLE,Int.reduceLT, s_zero, ss_pc, ss_st, s_pc, s_regs, s_mem, s_rd, s_out, s_st, s_fin, s_all, s_put, s_put', stc_length, stc_all, one_imm, one_ref, cellT_U32, Int.reduceEq, Int.reduceBEq, Int.reduceNe, Int.reduceBNe, s_reg ja, s_reg jb, ec, eq_false h]
      repeat (refine And.intro (by omega) ?_)
      refine VCall.of_contract (fin7 3) (SleL.pure rfl) fun x hx => ?_
      subst hx
      simp only [go_sem,Nat.reduceEqDiff,Nat.reduceAdd,Nat.reduceMul,↓reduceIte,↓dreduceIte,reduceCtorEq,Nat.reduceLeDiff,Nat.reduceLT,Nat.reduceSub,Int.reduceToNat,Int.reduceLE,Int.reduceLT, s_zero, ss_pc, ss_st, s_pc, s_regs, s_mem, s_rd, s_out, s_st, s_fin, s_all, s_put, s_put', stc_length, stc_all, one_imm, one_ref, cellT_U32, Int.reduceEq, Int.reduceBEq, Int.reduceNe, Int.reduceBNe]
      exact ⟨_, Frz.pure rfl, rfl⟩
  · -- 26
    simp only [go_sem,Nat.reduceEqDiff,Nat.reduceAdd,Nat.reduceMul,↓reduceIte,↓dreduceIte,reduceCtorEq,Nat.reduceLeDiff,Nat.reduceLT,Nat.reduceSub,Int.reduceToNat,Int.reduceLE,Int.reduceLT, s_zero, ss_pc, ss_st, s_pc, s_regs, s_mem, s_rd, s_out, s_st, s_fin, s_all, s_put, s_put', stc_length, stc_all, one_imm, one_ref, cellT_U32, Int.reduceEq, Int.reduceBEq, Int.reduceNe, Int.reduceBNe, s_reg ja, s_reg jb, ec]
    repeat (refine And.intro (by omega) ?_)
    refine VCall.of_contract (fin7 1) (SleL.pure rfl) fun x hx => ?_
    subst hx
    simp only [go_sem,Nat.reduceEqDiff,Nat.reduceAdd,Nat.reduceMul,↓reduceIte,↓dreduceIte,reduceCtorEq,Nat.reduceLeDiff,Nat.reduceLT,Nat.reduceSub,Int.reduceToNat,Int.reduceLE,Int.reduceLT, s_zero, ss_pc, ss_st, s_pc, s_regs, s_mem, s_rd, s_out, s_st, s_fin, s_all, s_put, s_put', stc_length, stc_all, one_imm, one_ref, cellT_U32, Int.reduceEq, Int.reduceBEq, Int.reduceNe, Int.reduceBNe]
    exact ⟨_, Frz.pure rfl, rfl⟩
end Go.Proofs.Ytjkkmpkbiddhkaa
