/-
  The machine's runner: contracts, part 4: a step. No condition.
-/
import Derived.Test.YtjoldjcfabbekaaM11
namespace Go.Proofs.Ytjoldjcfabbekaa
set_option linter.unusedSimpArgs false
set_option linter.unusedVariables false
set_option maxRecDepth 10000
open Go.V

/-- The state behind the word at its place. -/
def wordF (code : List Int) (inp : ByteArray) (s : S) (w : Int) : S :=
  if okW w then (if (insF code inp s (opW w) (raW w) (rbW w) (kW w)).1 = 0 then (insF code inp s (opW w) (raW w) (rbW w) (kW w)).2
    else { (insF code inp s (opW w) (raW w) (rbW w) (kW w)).2 with fin := (insF code inp s (opW w) (raW w) (rbW w) (kW w)).1 })
  else { s with fin := 6 }
/-- Is a word done? -/
def doneF (code : List Int) (s : S) : Bool := decide (s.fin = 0) && (decide (0 ≤ s.pc) && decide (s.pc < code.length))
/-- THE NEXT STATE. -/
def stepF (code : List Int) (inp : ByteArray) (s : S) : S :=
  if s.fin = 0 then (if s.pc < 0 ∨ (code.length : Int) ≤ s.pc then { s with fin := 7 } else wordF code inp { s with st := IntKind.i64.wrap (s.st + 1) } (code.getD s.pc.toNat default)) else s

theorem ite_ind {α : Type} {P : α → Prop} {c : Prop} [Decidable c] {x y : α} (h1 : c → P x) (h2 : ¬ c → P y) : P (if c then x else y) := by
  by_cases h : c
  · rw [if_pos h]; exact h1 h
  · rw [if_neg h]; exact h2 h

def keepsS (s : S) (p : Int × S) : Prop := p.2.fin = s.fin ∧ p.2.st = s.st
/-- What an instruction leaves as it is. -/
theorem insF_keeps (code : List Int) (inp : ByteArray) (s : S) (op a b c : Int) : keepsS s (insF code inp s op a b c) := by
  unfold insF
  iterate 8 (refine ite_ind (P := keepsS s) (fun _ => ⟨rfl, rfl⟩) fun _ => ?_)
  iterate 3 (refine ite_ind (P := keepsS s) (fun _ => ite_ind (P := keepsS s) (fun _ => ⟨rfl, rfl⟩) fun _ => ⟨rfl, rfl⟩) fun _ => ?_)
  refine ite_ind (P := keepsS s) (fun _ => ?_) fun _ => ?_
  · exact ite_ind (P := fun x : S => x.fin = s.fin ∧ x.st = s.st) (fun _ => ⟨rfl, rfl⟩) fun _ => ⟨rfl, rfl⟩
  iterate 2 (refine ite_ind (P := keepsS s) (fun _ => ite_ind (P := keepsS s) (fun _ => ⟨rfl, rfl⟩) fun _ => ⟨rfl, rfl⟩) fun _ => ?_)
  refine ite_ind (P := keepsS s) (fun _ => ⟨rfl, rfl⟩) fun _ => ?_
  exact ite_ind (P := keepsS s) (fun _ => ⟨rfl, rfl⟩) fun _ => ⟨rfl, rfl⟩

theorem applyW_in (op a b : Int) (ha : In32 a) (hb : In32 b) : In32 (applyW op a b).1 := by
  have z : In32 0 := ⟨by omega, by omega⟩
  have one : In32 1 := ⟨by omega, by omega⟩
  unfold applyW
  refine ite_ind (P := fun p : Int × Int => In32 p.1) (fun _ => w32_ok _) fun _ => ?_
  refine ite_ind (P := fun p : Int × Int => In32 p.1) (fun _ => w32_ok _) fun _ => ?_
  refine ite_ind (P := fun p : Int × Int => In32 p.1) (fun _ => w32_ok _) fun _ => ?_
  refine ite_ind (P := fun p : Int × Int => In32 p.1) (fun _ => ite_ind (P := fun p : Int × Int => In32 p.1) (fun _ => z) fun _ => w32_ok _) fun _ => ?_
  refine ite_ind (P := fun p : Int × Int => In32 p.1) (fun _ => ite_ind (P := fun p : Int × Int => In32 p.1) (fun _ => z) fun h => ?_) fun _ => ?_
  · show In32 (a.tmod b)
    rw [Int.tmod_eq_emod_of_nonneg ha.1]
    have h1 : 0 ≤ a % b := Int.emod_nonneg _ h
    have h2 : a % b < b := Int.emod_lt_of_pos _ (by have := hb.1; omega)
    exact ⟨h1, by have := hb.2; omega⟩
  refine ite_ind (P := fun p : Int × Int => In32 p.1) (fun _ => w32_ok _) fun _ => ?_
  refine ite_ind (P := fun p : Int × Int => In32 p.1) (fun _ => w32_ok _) fun _ => ?_
  refine ite_ind (P := fun p : Int × Int => In32 p.1) (fun _ => w32_ok _) fun _ => ?_
  refine ite_ind (P := fun p : Int × Int => In32 p.1) (fun _ => ite_ind (P := In32) (fun _ => z) fun _ => w32_ok _) fun _ => ?_
  refine ite_ind (P := fun p : Int × Int => In32 p.1) (fun _ => ite_ind (P := In32) (fun _ => z) fun h => ?_) fun _ => ?_
  · have := shrW_eq ha b.toNat (by have := hb.1; omega)
    rw [show ((b.toNat : Nat) : Int) = b by have := hb.1; omega] at this
    rw [this]
    have h2 := Nat.div_le_self a.toNat (2 ^ b.toNat)
    have h3 := ha.2
    have h4 := ha.1
    generalize a.toNat / 2 ^ b.toNat = q at *
    exact ⟨by omega, by omega⟩
  refine ite_ind (P := fun p : Int × Int => In32 p.1) (fun _ => ite_ind (P := In32) (fun _ => one) fun _ => z) fun _ => ?_
  refine ite_ind (P := fun p : Int × Int => In32 p.1) (fun _ => ite_ind (P := In32) (fun _ => one) fun _ => z) fun _ => z

/-- What is known of a state that is little. -/
structure Wf (s : S) : Prop where
  reg : ∀ k, In32 (s.reg k)
  mem : ∀ x ∈ s.mem, In32 x
def wfS (s : S) (p : Int × S) : Prop := Wf p.2 ∧ p.2.mem.length = s.mem.length ∧ s.out.size ≤ p.2.out.size ∧ p.2.out.size ≤ s.out.size + 1

theorem updR_in {f : Nat → Int} (h : ∀ k, In32 (f k)) {j : Nat} {v : Int} (hv : In32 v) : ∀ k, In32 (updR f j v k) := fun k => by
  unfold updR; split
  · exact hv
  · exact h k

theorem insF_wf (code : List Int) (inp : ByteArray) (s : S) (op a b c : Int) (hcode : ∀ x ∈ code, In32 x) (hs : Wf s) (hc : 0 ≤ c ∧ c ≤ 65535) : wfS s (insF code inp s op a b c) := by
  have same : wfS s (0, s) := ⟨hs, rfl, Nat.le_refl _, Nat.le_succ _⟩
  have pcs : ∀ e x, wfS s (e, { s with pc := x }) := fun e x => ⟨⟨hs.reg, hs.mem⟩, rfl, Nat.le_refl _, Nat.le_succ _⟩
  have ends : ∀ e, wfS s (e, s) := fun e => ⟨hs, rfl, Nat.le_refl _, Nat.le_succ _⟩
  have regs_ : ∀ x v, In32 v → wfS s (0, setR s x v) := fun x v hv => ⟨⟨updR_in hs.reg hv, hs.mem⟩, rfl, Nat.le_refl _, Nat.le_succ _⟩
  have hR := hs.reg a.toNat
  unfold insF
  refine ite_ind (P := wfS s) (fun _ => pcs _ _) fun _ => ?_
  refine ite_ind (P := wfS s) (fun _ => pcs _ _) fun _ => ?_
  refine ite_ind (P := wfS s) (fun _ => pcs _ _) fun _ => ?_
  refine ite_ind (P := wfS s) (fun _ => ⟨⟨updR_in hs.reg (w32_ok _), hs.mem⟩, rfl, Nat.le_refl _, Nat.le_succ _⟩) fun _ => ?_
  refine ite_ind (P := wfS s) (fun _ => pcs _ _) fun _ => ?_
  refine ite_ind (P := wfS s) (fun _ => regs_ _ _ ⟨by omega, by omega⟩) fun _ => ?_
  refine ite_ind (P := wfS s) (fun _ => regs_ _ _ ⟨by omega, by omega⟩) fun _ => ?_
  refine ite_ind (P := wfS s) (fun _ => regs_ _ _ (hs.reg _)) fun _ => ?_
  have hat : In32 (atW s b c) := w32_ok _
  refine ite_ind (P := wfS s) (fun _ => ite_ind (P := wfS s) (fun h => regs_ _ _ (hs.mem _ (mem_getD (by have := hat.1; omega)))) fun _ => ends _) fun _ => ?_
  refine ite_ind (P := wfS s) (fun _ => ite_ind (P := wfS s) (fun h => ⟨⟨hs.reg, fun x hx => ?_⟩, by simp, Nat.le_refl _, Nat.le_succ _⟩) fun _ => ends _) fun _ => ?_
  · rcases List.mem_or_eq_of_mem_set hx with h | h
    · exact hs.mem x h
    · rw [h]; exact hR
  refine ite_ind (P := wfS s) (fun _ => ite_ind (P := wfS s) (fun h => regs_ _ _ (hcode _ (mem_getD (by have := hat.1; omega)))) fun _ => ends _) fun _ => ?_
  refine ite_ind (P := wfS s) (fun _ => ?_) fun _ => ?_
  · refine ite_ind (P := fun x : S => wfS s (0, x)) (fun _ => regs_ _ _ ⟨by omega, by omega⟩) fun _ => ⟨⟨updR_in hs.reg ⟨?_, ?_⟩, hs.mem⟩, rfl, Nat.le_refl _, Nat.le_succ _⟩ <;> unfold byteAt
    · omega
    · have := (inp.data.toList.getD s.rd.toNat 0).toNat_lt; omega
  refine ite_ind (P := wfS s) (fun _ => ite_ind (P := wfS s) (fun _ => ends _) fun _ => ⟨⟨hs.reg, hs.mem⟩, rfl, by simp [ByteArray.size_push], by simp [ByteArray.size_push]⟩) fun _ => ?_
  refine ite_ind (P := wfS s) (fun _ => ite_ind (P := wfS s) (fun _ => pcs _ _) fun _ => ends _) fun _ => ?_
  refine ite_ind (P := wfS s) (fun _ => ends _) fun _ => ?_
  exact ite_ind (P := wfS s) (fun _ => regs_ _ _ (applyW_in _ _ _ (hs.reg _) (hs.reg _))) fun _ => ends _

theorem stepF_wf (code : List Int) (inp : ByteArray) (s : S) (hcode : ∀ x ∈ code, In32 x) (hs : Wf s) : wfS s (0, stepF code inp s) := by
  have ends : ∀ x : S, x.reg = s.reg → x.mem = s.mem → x.out = s.out → wfS s (0, x) := fun x h1 h2 h3 => ⟨⟨by show ∀ k, In32 (x.reg k); rw [h1]; exact hs.reg, by show ∀ y ∈ x.mem, In32 y; rw [h2]; exact hs.mem⟩, by show x.mem.length = _; rw [h2], by show s.out.size ≤ x.out.size; rw [h3]; exact Nat.le_refl _, by show x.out.size ≤ _; rw [h3]; exact Nat.le_succ _⟩
  refine ite_ind (P := fun x : S => wfS s (0, x)) (fun _ => ?_) fun _ => ends _ rfl rfl rfl
  refine ite_ind (P := fun x : S => wfS s (0, x)) (fun _ => ends _ rfl rfl rfl) fun _ => ?_
  unfold wordF
  generalize code.getD s.pc.toNat default = w
  have hk : 0 ≤ kW w ∧ kW w ≤ 65535 := by unfold kW; omega
  have h := insF_wf code inp { s with st := IntKind.i64.wrap (s.st + 1) } (opW w) (raW w) (rbW w) (kW w) hcode ⟨hs.reg, hs.mem⟩ hk
  refine ite_ind (P := fun x : S => wfS s (0, x)) (fun _ => ?_) fun _ => ends _ rfl rfl rfl
  generalize insF code inp { s with st := IntKind.i64.wrap (s.st + 1) } (opW w) (raW w) (rbW w) (kW w) = p at *
  refine ite_ind (P := fun x : S => wfS s (0, x)) (fun _ => h) fun _ => ?_
  exact ⟨⟨h.1.reg, h.1.mem⟩, h.2⟩

section
variable (code : List Int) (inp : ByteArray) (pc : Int) (f : Nat → Int) (m : AV) (mem : List Int) (rd : Int) (out outT : ByteArray) (st fin : Int) (own : Bool) (more : AV) (bs : List UInt8) (L T : List VObj) (s nx : Nat)

theorem rstep_v (hcode : ∀ x ∈ code, In32 x) (hcl : code.length ≤ 1000000) (hf : ∀ k, In32 (f k)) (hi : inp.size ≤ 1000000000) (hm : MemAt L T m own mem) (hl : mem.length ≤ 1000000) (hmo : MoreAt L T more bs) (hout : outT.data.toList = out.data.toList ++ bs) (hol : outT.size ≤ 1000000) (C : AV → List VObj → Nat → Prop)
    (hC : ∀ T' m' own' more' bs' nx', MemAt L T' m' own' (stepF code inp ⟨pc, f, mem, rd, outT, st, fin⟩).mem → MoreAt L T' more' bs' → (stepF code inp ⟨pc, f, mem, rd, outT, st, fin⟩).out.data.toList = out.data.toList ++ bs' → Keep T T' →
      C (B (doneF code ⟨pc, f, mem, rd, outT, st, fin⟩)) (L ++ rob s (rnc (words code) inp (stepF code inp ⟨pc, f, mem, rd, outT, st, fin⟩).pc (stepF code inp ⟨pc, f, mem, rd, outT, st, fin⟩).reg m' (stepF code inp ⟨pc, f, mem, rd, outT, st, fin⟩).rd out (stepF code inp ⟨pc, f, mem, rd, outT, st, fin⟩).st (stepF code inp ⟨pc, f, mem, rd, outT, st, fin⟩).fin own' more') :: T') nx') :
    VCall Try.prog 36 [.ptr L.length s 0] (L ++ rob s (rnc (words code) inp pc f m rd out st fin own more) :: T) nx C := by
  refine VCall.of_body hmix f_machine_Runner_Step (by simp) ?_
  by_cases h1 : fin = 0
  case neg =>
    have e1 : stepF code inp ⟨pc, f, mem, rd, outT, st, fin⟩ = ⟨pc, f, mem, rd, outT, st, fin⟩ := if_neg h1
    have e2 : doneF code ⟨pc, f, mem, rd, outT, st, fin⟩ = false := by simp [doneF, h1]
    have h1' : (fin != 0) = true := by simp [h1]
    rw [e1, e2] at hC
    simp only [go_sem,Nat.reduceEqDiff,Nat.reduceAdd,Nat.reduceMul,↓reduceIte,↓dreduceIte,reduceCtorEq,Nat.reduceLeDiff,Nat.reduceLT,Nat.reduceSub,Int.reduceToNat,Int.reduceLE,Int.reduceLT, c_machine_Runner_Step, olen, oadd, og0, os0, ogk, osk, ogn, osn, onx, rnc_length, r_pc, r_code, r_own, r_out, r_more, r_st, r_fin, r_mem, cellT_U32, rs_pc, rs_mem, rs_own, rs_more, rs_st, rs_fin, one_imm, one_ref, Int.reduceEq, Int.reduceBEq, h1']
    exact hC _ _ _ _ _ _ hm hmo hout (Keep.refl _)
  subst h1
  have hone := hm.one
  by_cases h2 : pc < 0
  · have e1 : stepF code inp ⟨pc, f, mem, rd, outT, st, 0⟩ = ⟨pc, f, mem, rd, outT, st, 7⟩ := by unfold stepF; rw [if_pos rfl, if_pos (.inl h2)]
    have e2 : doneF code ⟨pc, f, mem, rd, outT, st, 0⟩ = false := by simp [doneF]; omega
    rw [e1, e2] at hC
    simp only [go_sem,Nat.reduceEqDiff,Nat.reduceAdd,Nat.reduceMul,↓reduceIte,↓dreduceIte,reduceCtorEq,Nat.reduceLeDiff,Nat.reduceLT,Nat.reduceSub,Int.reduceToNat,Int.reduceLE,Int.reduceLT, c_machine_Runner_Step, olen, oadd, og0, os0, ogk, osk, ogn, osn, onx, rnc_length, r_pc, r_code, r_own, r_out, r_more, r_st, r_fin, r_mem, cellT_U32, rs_pc, rs_mem, rs_own, rs_more, rs_st, rs_fin, one_imm, one_ref, Int.reduceEq, Int.reduceBEq, Int.reduceBNe, eq_true h2]
    repeat (refine And.intro (by omega) ?_)
    exact hC _ _ _ _ _ _ hm hmo hout (Keep.refl _)
  by_cases h3 : (code.length : Int) ≤ pc
  · have e1 : stepF code inp ⟨pc, f, mem, rd, outT, st, 0⟩ = ⟨pc, f, mem, rd, outT, st, 7⟩ := by unfold stepF; rw [if_pos rfl, if_pos (.inr h3)]
    have e2 : doneF code ⟨pc, f, mem, rd, outT, st, 0⟩ = false := by simp [doneF]; omega
    rw [e1, e2] at hC
    simp only [go_sem,Nat.reduceEqDiff,Nat.reduceAdd,Nat.reduceMul,↓reduceIte,↓dreduceIte,reduceCtorEq,Nat.reduceLeDiff,Nat.reduceLT,Nat.reduceSub,Int.reduceToNat,Int.reduceLE,Int.reduceLT, c_machine_Runner_Step, olen, oadd, og0, os0, ogk, osk, ogn, osn, onx, rnc_length, r_pc, r_code, r_own, r_out, r_more, r_st, r_fin, r_mem, cellT_U32, rs_pc, rs_mem, rs_own, rs_more, rs_st, rs_fin, one_imm, one_ref, Int.reduceEq, Int.reduceBEq, Int.reduceBNe, eq_false h2, eq_true h3]
    repeat (refine And.intro (by omega) ?_)
    exact hC _ _ _ _ _ _ hm hmo hout (Keep.refl _)
  have e2 : doneF code ⟨pc, f, mem, rd, outT, st, 0⟩ = true := by simp [doneF]; omega
  obtain ⟨w, hw⟩ : ∃ w, code.getD pc.toNat default = w := ⟨_, rfl⟩
  have e1 : stepF code inp ⟨pc, f, mem, rd, outT, st, 0⟩ = wordF code inp ⟨pc, f, mem, rd, outT, IntKind.i64.wrap (st + 1), 0⟩ w := by unfold stepF; rw [if_pos rfl, if_neg (fun q => q.elim h2 h3), hw]
  have hw32 : In32 w := by
    rw [← hw]; exact hcode _ (mem_getD (by omega))
  rw [e1, e2] at hC
  simp only [go_sem,Nat.reduceEqDiff,Nat.reduceAdd,Nat.reduceMul,↓reduceIte,↓dreduceIte,reduceCtorEq,Nat.reduceLeDiff,Nat.reduceLT,Nat.reduceSub,Int.reduceToNat,Int.reduceLE,Int.reduceLT, c_machine_Runner_Step, olen, oadd, og0, os0, ogk, osk, ogn, osn, onx, rnc_length, r_pc, r_code, r_own, r_out, r_more, r_st, r_fin, r_mem, cellT_U32, rs_pc, rs_mem, rs_own, rs_more, rs_st, rs_fin, one_imm, one_ref, Int.reduceEq, Int.reduceBEq, Int.reduceBNe, eq_false h2, eq_false h3, hw]
  repeat (refine And.intro (by omega) ?_)
  refine ECall.of (decode_c w hw32) (SleL.pure rfl) ⟨_, fun _ => Iff.rfl⟩ fun x hx => ?_
  subst hx
  unfold decA
  cases hok : okW w
  · have e3 : wordF code inp ⟨pc, f, mem, rd, outT, IntKind.i64.wrap (st + 1), 0⟩ w = ⟨pc, f, mem, rd, outT, IntKind.i64.wrap (st + 1), 6⟩ := by unfold wordF; rw [hok]; rfl
    rw [e3] at hC
    simp only [go_sem,Nat.reduceEqDiff,Nat.reduceAdd,Nat.reduceMul,↓reduceIte,↓dreduceIte,reduceCtorEq,Nat.reduceLeDiff,Nat.reduceLT,Nat.reduceSub,Int.reduceToNat,Int.reduceLE,Int.reduceLT, olen, oadd, og0, os0, ogk, osk, ogn, osn, onx, rnc_length, r_pc, r_code, r_own, r_out, r_more, r_st, r_fin, r_mem, cellT_U32, rs_pc, rs_mem, rs_own, rs_more, rs_st, rs_fin, one_imm, one_ref, Int.reduceEq, Int.reduceBEq, Int.reduceBNe]
    exact hC _ _ _ _ _ _ (hm.add _) (hmo.add _) hout (Keep.add _)
  · have e3 : wordF code inp ⟨pc, f, mem, rd, outT, IntKind.i64.wrap (st + 1), 0⟩ w = (if (insF code inp ⟨pc, f, mem, rd, outT, IntKind.i64.wrap (st + 1), 0⟩ (opW w) (raW w) (rbW w) (kW w)).1 = 0 then (insF code inp ⟨pc, f, mem, rd, outT, IntKind.i64.wrap (st + 1), 0⟩ (opW w) (raW w) (rbW w) (kW w)).2
      else { (insF code inp ⟨pc, f, mem, rd, outT, IntKind.i64.wrap (st + 1), 0⟩ (opW w) (raW w) (rbW w) (kW w)).2 with fin := (insF code inp ⟨pc, f, mem, rd, outT, IntKind.i64.wrap (st + 1), 0⟩ (opW w) (raW w) (rbW w) (kW w)).1 }) := by unfold wordF; rw [hok]; rfl
    rw [e3] at hC
    have hk := insF_keeps code inp ⟨pc, f, mem, rd, outT, IntKind.i64.wrap (st + 1), 0⟩ (opW w) (raW w) (rbW w) (kW w)
    simp only [go_sem,Nat.reduceEqDiff,Nat.reduceAdd,Nat.reduceMul,↓reduceIte,↓dreduceIte,reduceCtorEq,Nat.reduceLeDiff,Nat.reduceLT,Nat.reduceSub,Int.reduceToNat,Int.reduceLE,Int.reduceLT, olen, oadd, og0, os0, ogk, osk, ogn, osn, onx, rnc_length, r_pc, r_code, r_own, r_out, r_more, r_st, r_fin, r_mem, cellT_U32, rs_pc, rs_mem, rs_own, rs_more, rs_st, rs_fin, one_imm, one_ref, Int.reduceEq, Int.reduceBEq, Int.reduceBNe]
    refine do_v code inp pc f m mem rd out outT (IntKind.i64.wrap (st + 1)) 0 own more bs L _ s _ (opW w) (raW w) (rbW w) (kW w) hok hf hi (hm.add _) hl (hmo.add _) hout hol _ fun T' m' own' more' bs' nx' g1 g2 g3 g4 => ?_
    generalize insF code inp ⟨pc, f, mem, rd, outT, IntKind.i64.wrap (st + 1), 0⟩ (opW w) (raW w) (rbW w) (kW w) = p at *
    have hk : p.2.fin = 0 ∧ p.2.st = IntKind.i64.wrap (st + 1) := hk
    by_cases h : p.1 = 0
    · rw [if_pos h] at hC
      simp only [go_sem,Nat.reduceEqDiff,Nat.reduceAdd,Nat.reduceMul,↓reduceIte,↓dreduceIte,reduceCtorEq,Nat.reduceLeDiff,Nat.reduceLT,Nat.reduceSub,Int.reduceToNat,Int.reduceLE,Int.reduceLT, olen, oadd, og0, os0, ogk, osk, ogn, osn, onx, rnc_length, r_pc, r_code, r_own, r_out, r_more, r_st, r_fin, r_mem, cellT_U32, rs_pc, rs_mem, rs_own, rs_more, rs_st, rs_fin, one_imm, one_ref, Int.reduceEq, Int.reduceBEq, h, bne_self_eq_false]
      have := hC T' m' own' more' bs' nx' g1 g2 g3 ((Keep.add _).trans g4)
      rw [hk.1, hk.2] at this
      exact this
    · rw [if_neg h] at hC
      have h' : (p.1 != 0) = true := by simp [h]
      simp only [go_sem,Nat.reduceEqDiff,Nat.reduceAdd,Nat.reduceMul,↓reduceIte,↓dreduceIte,reduceCtorEq,Nat.reduceLeDiff,Nat.reduceLT,Nat.reduceSub,Int.reduceToNat,Int.reduceLE,Int.reduceLT, olen, oadd, og0, os0, ogk, osk, ogn, osn, onx, rnc_length, r_pc, r_code, r_own, r_out, r_more, r_st, r_fin, r_mem, cellT_U32, rs_pc, rs_mem, rs_own, rs_more, rs_st, rs_fin, one_imm, one_ref, Int.reduceEq, Int.reduceBEq, h']
      repeat (refine And.intro (by omega) ?_)
      have := hC T' m' own' more' bs' nx' g1 g2 g3 ((Keep.add _).trans g4)
      simp only [hk.2] at this
      exact this
end
end Go.Proofs.Ytjoldjcfabbekaa
