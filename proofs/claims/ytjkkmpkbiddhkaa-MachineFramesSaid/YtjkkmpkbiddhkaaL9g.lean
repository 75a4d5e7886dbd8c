/-
  MachineFrames: the row. No condition.
-/
import Derived.Test.YtjkkmpkbiddhkaaCodeB
import Derived.Test.YtjkkmpkbiddhkaaM17
namespace Go.Proofs.Ytjkkmpkbiddhkaa
set_option linter.unusedSimpArgs false
set_option linter.unusedVariables false
set_option maxRecDepth 10000
open Go.V Go.ChangeShapes Go.WideShapes Go.ChangeAt Go.RowKit

/-- How many of the first k have it. -/
def cnt (p : Nat → Bool) : Nat → Nat
  | 0 => 0
  | k + 1 => cnt p k + (if p k then 1 else 0)
theorem cnt_le (p : Nat → Bool) : ∀ k, cnt p k ≤ k
  | 0 => Nat.le_refl _
  | k + 1 => by have := cnt_le p k; simp only [cnt]; split <;> omega
theorem cnt_zero {p : Nat → Bool} : ∀ {k : Nat}, (∀ j, j < k → p j = false) → cnt p k = 0
  | 0, _ => rfl
  | k + 1, h => by simp only [cnt, h k (Nat.lt_succ_self _), cnt_zero (fun j hj => h j (Nat.lt_succ_of_lt hj))]; rfl
theorem cnt_one {p : Nat → Bool} {i : Nat} : ∀ {k : Nat}, (∀ j, j < k → p j = true → j = i) → cnt p k ≤ 1
  | 0, _ => Nat.zero_le _
  | k + 1, h => by
    simp only [cnt]
    by_cases hk : p k = true
    · have hi := h k (Nat.lt_succ_self _) hk
      rw [cnt_zero (p := p) (k := k) (fun j hj => by
        cases hp : p j
        · rfl
        · have := h j (Nat.lt_succ_of_lt hj) hp; omega)]
      simp [hk]
    · have := cnt_one (p := p) (k := k) (i := i) (fun j hj => h j (Nat.lt_succ_of_lt hj))
      simp [hk]; exact this
def difR (s t : S) (k : Nat) : Bool := !decide (s.reg k = t.reg k)
def difM (s t : S) (k : Nat) : Bool := !decide (s.mem.getD k default = t.mem.getD k default)

/-- What a step may change: a register and the input's place, or a word, or the output. -/
def Fr (s t : S) : Prop :=
  (∃ j v, t.reg = updR s.reg j v ∧ t.mem = s.mem ∧ t.out = s.out ∧ (t.rd = s.rd ∨ t.rd = IntKind.i64.wrap (s.rd + 1))) ∨
  (∃ j v, t.reg = s.reg ∧ t.mem = s.mem.set j v ∧ t.out = s.out ∧ t.rd = s.rd) ∨
  (∃ b, t.reg = s.reg ∧ t.mem = s.mem ∧ t.out = s.out.push b ∧ t.rd = s.rd)
theorem updR_same (f : Nat → Int) : f = updR f 0 (f 0) := by
  funext k; unfold updR; split
  · rename_i h; rw [h]
  · rfl
theorem Fr.same {s t : S} (h1 : t.reg = s.reg) (h2 : t.mem = s.mem) (h3 : t.out = s.out) (h4 : t.rd = s.rd) : Fr s t :=
  .inl ⟨0, s.reg 0, by rw [h1]; exact updR_same _, h2, h3, .inl h4⟩
theorem insF_fr (code : List Int) (inp : ByteArray) (s : S) (op a b c : Int) : Fr s (insF code inp s op a b c).2 := by
  have same : ∀ x, Fr s { s with pc := x } := fun x => Fr.same rfl rfl rfl rfl
  have self : Fr s s := Fr.same rfl rfl rfl rfl
  have reg : ∀ x v, Fr s (setR s x v) := fun x v => .inl ⟨_, _, rfl, rfl, rfl, .inl rfl⟩
  unfold insF
  refine ite_ind (P := fun p : Int × S => Fr s p.2) (fun _ => same _) fun _ => ?_
  refine ite_ind (P := fun p : Int × S => Fr s p.2) (fun _ => same _) fun _ => ?_
  refine ite_ind (P := fun p : Int × S => Fr s p.2) (fun _ => same _) fun _ => ?_
  refine ite_ind (P := fun p : Int × S => Fr s p.2) (fun _ => .inl ⟨_, _, rfl, rfl, rfl, .inl rfl⟩) fun _ => ?_
  refine ite_ind (P := fun p : Int × S => Fr s p.2) (fun _ => same _) fun _ => ?_
  refine ite_ind (P := fun p : Int × S => Fr s p.2) (fun _ => reg _ _) fun _ => ?_
  refine ite_ind (P := fun p : Int × S => Fr s p.2) (fun _ => reg _ _) fun _ => ?_
  refine ite_ind (P := fun p : Int × S => Fr s p.2) (fun _ => reg _ _) fun _ => ?_
  refine ite_ind (P := fun p : Int × S => Fr s p.2) (fun _ => ite_ind (P := fun p : Int × S => Fr s p.2) (fun _ => reg _ _) fun _ => self) fun _ => ?_
  refine ite_ind (P := fun p : Int × S => Fr s p.2) (fun _ => ite_ind (P := fun p : Int × S => Fr s p.2) (fun _ => .inr (.inl ⟨_, _, rfl, rfl, rfl, rfl⟩)) fun _ => self) fun _ => ?_
  refine ite_ind (P := fun p : Int × S => Fr s p.2) (fun _ => ite_ind (P := fun p : Int × S => Fr s p.2) (fun _ => reg _ _) fun _ => self) fun _ => ?_
  refine ite_ind (P := fun p : Int × S => Fr s p.2) (fun _ => ?_) fun _ => ?_
  · exact ite_ind (P := fun x : S => Fr s x) (fun _ => reg _ _) fun _ => .inl ⟨_, _, rfl, rfl, rfl, .inr rfl⟩
  refine ite_ind (P := fun p : Int × S => Fr s p.2) (fun _ => ite_ind (P := fun p : Int × S => Fr s p.2) (fun _ => self) fun _ => .inr (.inr ⟨_, rfl, rfl, rfl, rfl⟩)) fun _ => ?_
  refine ite_ind (P := fun p : Int × S => Fr s p.2) (fun _ => ite_ind (P := fun p : Int × S => Fr s p.2) (fun _ => same _) fun _ => self) fun _ => ?_
  refine ite_ind (P := fun p : Int × S => Fr s p.2) (fun _ => self) fun _ => ?_
  exact ite_ind (P := fun p : Int × S => Fr s p.2) (fun _ => reg _ _) fun _ => self

theorem stepF_fr (code : List Int) (inp : ByteArray) (s : S) : Fr s (stepF code inp s) ∧ ((stepF code inp s).st = s.st ∨ (stepF code inp s).st = IntKind.i64.wrap (s.st + 1)) := by
  refine ite_ind (P := fun x : S => Fr s x ∧ (x.st = s.st ∨ x.st = IntKind.i64.wrap (s.st + 1))) (fun _ => ?_) fun _ => ⟨Fr.same rfl rfl rfl rfl, .inl rfl⟩
  refine ite_ind (P := fun x : S => Fr s x ∧ (x.st = s.st ∨ x.st = IntKind.i64.wrap (s.st + 1))) (fun _ => ⟨Fr.same rfl rfl rfl rfl, .inl rfl⟩) fun _ => ?_
  unfold wordF
  generalize code.getD s.pc.toNat default = w
  have h := insF_fr code inp { s with st := IntKind.i64.wrap (s.st + 1) } (opW w) (raW w) (rbW w) (kW w)
  have k := insF_keeps code inp { s with st := IntKind.i64.wrap (s.st + 1) } (opW w) (raW w) (rbW w) (kW w)
  refine ite_ind (P := fun x : S => Fr s x ∧ (x.st = s.st ∨ x.st = IntKind.i64.wrap (s.st + 1))) (fun _ => ?_) fun _ => ⟨Fr.same rfl rfl rfl rfl, .inr rfl⟩
  generalize insF code inp { s with st := IntKind.i64.wrap (s.st + 1) } (opW w) (raW w) (rbW w) (kW w) = p at *
  refine ite_ind (P := fun x : S => Fr s x ∧ (x.st = s.st ∨ x.st = IntKind.i64.wrap (s.st + 1))) (fun _ => ⟨h, .inr k.2⟩) fun _ => ⟨h, .inr k.2⟩

theorem extract_push (a : ByteArray) (b : UInt8) : (a.push b).extract 0 a.size = a := bytes_ext (by
  rw [ByteArray.data_extract, Array.toList_extract]
  show List.extract (a.data.push b).toList 0 a.data.toList.length = _
  simp)
theorem extract_self (a : ByteArray) : a.extract 0 a.size = a := bytes_ext (by
  rw [ByteArray.data_extract, Array.toList_extract]
  show List.extract a.data.toList 0 a.data.toList.length = _
  rw [List.extract_eq_take_drop]
  exact List.take_of_length_le (Nat.le_refl _))

/-- The frame as numbers. -/
theorem Fr.nums {s t : S} (h : Fr s t) : t.mem.length = s.mem.length ∧ (t.out.size = s.out.size ∨ t.out.size = s.out.size + 1) ∧ t.out.extract 0 s.out.size = s.out ∧
    cnt (difR s t) 16 + cnt (difM s t) s.mem.length + (t.out.size - s.out.size) ≤ 1 ∧ (t.rd = s.rd ∨ (t.rd = IntKind.i64.wrap (s.rd + 1) ∧ cnt (difM s t) s.mem.length + (t.out.size - s.out.size) = 0)) := by
  have r0 : t.reg = s.reg → cnt (difR s t) 16 = 0 := fun h => cnt_zero fun j _ => by simp [difR, h]
  have m0 : t.mem = s.mem → cnt (difM s t) s.mem.length = 0 := fun h => cnt_zero fun j _ => by simp [difM, h]
  rcases h with ⟨j, v, h1, h2, h3, h4⟩ | ⟨j, v, h1, h2, h3, h4⟩ | ⟨b, h1, h2, h3, h4⟩
  · have hr : cnt (difR s t) 16 ≤ 1 := cnt_one (i := j) fun i _ hi => by
      rw [difR, h1, updR] at hi
      by_cases e : i = j
      · exact e
      · rw [if_neg e] at hi; simp at hi
    rw [m0 h2, h2, h3]
    refine ⟨rfl, .inl rfl, extract_self _, by omega, ?_⟩
    rcases h4 with h4 | h4
    · exact .inl h4
    · exact .inr ⟨h4, by omega⟩
  · have hm : cnt (difM s t) s.mem.length ≤ 1 := cnt_one (i := j) fun i _ hi => by
      rw [difM, h2] at hi
      by_cases e : i = j
      · exact e
      · rw [List.getD_eq_getElem?_getD, List.getD_eq_getElem?_getD, List.getElem?_set_ne (fun h => e h.symm)] at hi; simp at hi
    rw [r0 h1, h3]
    exact ⟨by rw [h2, List.length_set], .inl rfl, extract_self _, by omega, .inl h4⟩
  · rw [r0 h1, m0 h2, h2, h3]
    exact ⟨rfl, .inr (ByteArray.size_push ..), extract_push _ _, by rw [ByteArray.size_push]; omega, .inl h4⟩

theorem machineframes_c (code : List Int) (data : Int) (inp : ByteArray) (s : S) (h : Im code data) (k : StF s) : Contract Try.prog 7 [askA code data inp s] (fun r => r = B true) := by
  refine Contract.of_call (VCall.of_body hmix f_sclaw09_MachineFrames (by simp) ?_)
  simp only [go_sem,Nat.reduceEqDiff,Nat.reduceAdd,Nat.reduceMul,↓reduceIte,↓dreduceIte,reduceCtorEq,Nat.reduceLeDiff,Nat.reduceLT,Nat.reduceSub,Int.reduceToNat,Int.reduceLE,Int.reduceLT, c_sclaw09_MachineFrames, a_im, a_inp, a_st, a_fin, askC_length, askC_all, one_imm]
  refine VCall.of_contract (small_c code data inp s) (SleL.pure rfl) fun x hx => ?_
  subst hx
  cases hb : smallB code inp s
  · simp only [go_sem,Nat.reduceEqDiff,Nat.reduceAdd,Nat.reduceMul,↓reduceIte,↓dreduceIte,reduceCtorEq,Nat.reduceLeDiff,Nat.reduceLT,Nat.reduceSub,Int.reduceToNat,Int.reduceLE,Int.reduceLT, a_im, a_inp, a_st, a_fin, askC_length, askC_all, one_imm]
    refine VCall.of_contract awake_c (SleL.pure rfl) fun x hx => ?_
    subst hx
    simp only [go_sem,Nat.reduceEqDiff,Nat.reduceAdd,Nat.reduceMul,↓reduceIte,↓dreduceIte,reduceCtorEq,Nat.reduceLeDiff,Nat.reduceLT,Nat.reduceSub,Int.reduceToNat,Int.reduceLE,Int.reduceLT]
    exact ⟨_, Frz.pure rfl, rfl⟩
  obtain ⟨b1, b2, b3, b4, b5⟩ := smallB_iff.1 hb
  simp only [go_sem,Nat.reduceEqDiff,Nat.reduceAdd,Nat.reduceMul,↓reduceIte,↓dreduceIte,reduceCtorEq,Nat.reduceLeDiff,Nat.reduceLT,Nat.reduceSub,Int.reduceToNat,Int.reduceLE,Int.reduceLT, a_im, a_inp, a_st, a_fin, askC_length, askC_all, one_imm]
  refine ECall.of (step_c code data inp s h.fit (by omega) (by omega) k.wf (by omega) (by omega)) (SleL.pure rfl) ⟨_, fun _ => Iff.rfl⟩ fun x hx => ?_
  subst hx
  obtain ⟨hfr, hstp⟩ := stepF_fr code inp s
  obtain ⟨t, ht⟩ : ∃ t, stepF code inp s = t := ⟨_, rfl⟩
  rw [ht] at hfr hstp ⊢
  obtain ⟨hlen, hout, hex, hsum, hrd⟩ := hfr.nums
  obtain ⟨d, hd⟩ : ∃ d : Nat, t.out.size = s.out.size + d ∧ d ≤ 1 := by
    rcases hout with h | h
    · exact ⟨0, by omega, by omega⟩
    · exact ⟨1, by omega, by omega⟩
  have hcR := cnt_le (difR s t) 16
  have hcM := cnt_le (difM s t) s.mem.length
  have hO : IntKind.i64.wrap ((t.out.size : Int) - (s.out.size : Int)) = d := by rw [i64_in (by omega) (by omega)]; omega
  have o1 : ¬ (d : Int) < 0 := by omega
  have o2 : ¬ (1 : Int) < (d : Int) := by omega
  have hRW : IntKind.i64.wrap (((cnt (difR s t) 16 : Nat) : Int) + ((cnt (difM s t) s.mem.length : Nat) : Int)) = ((cnt (difR s t) 16 + cnt (difM s t) s.mem.length : Nat) : Int) := by rw [i64_in (by omega) (by omega)]; omega
  have hRWO : IntKind.i64.wrap (((cnt (difR s t) 16 + cnt (difM s t) s.mem.length : Nat) : Int) + (d : Int)) = ((cnt (difR s t) 16 + cnt (difM s t) s.mem.length + d : Nat) : Int) := by rw [i64_in (by omega) (by omega)]; omega
  have o4 : ¬ (1 : Int) < ((cnt (difR s t) 16 + cnt (difM s t) s.mem.length + d : Nat) : Int) := by omega
  have o3 : (t.out.extract 0 s.out.size).toList = s.out.toList := by rw [hex]
  simp only [go_sem,Nat.reduceEqDiff,Nat.reduceAdd,Nat.reduceMul,↓reduceIte,↓dreduceIte,reduceCtorEq,Nat.reduceLeDiff,Nat.reduceLT,Nat.reduceSub,Int.reduceToNat,Int.reduceLE,Int.reduceLT, s_all, s_zero, s_put, s_put', stc_length, stc_all, one_imm]
  refine ⟨?_, ?_⟩
  ·
    refine VW_loop (fun k : Nat => ⟨[(2, B false), (3, .ptr 1 1 0), (4, .ptr 2 2 0), (5, I (cnt (difR s t) k)), (6, I 0), (7, I k)], [⟨0, 34, 1, askC (words code) data inp s.pc s.reg (words s.mem) s.rd s.out s.st s.fin⟩, ⟨1, 30, 1, stc s.pc s.reg (words s.mem) s.rd s.out s.st s.fin⟩, ⟨2, 30, 1, stc t.pc t.reg (words t.mem) t.rd t.out t.st t.fin⟩], 3⟩)
      (fun k => k ≤ 16) (fun k => 16 - k) 0 (Wk.mk (by simp [get_cons, cnt]) ⟨[], rfl⟩ (Nat.le_refl _)) (Nat.zero_le _) ?_
    intro k hk
    by_cases hk2 : (k : Int) < 16
    · have hk3 : k < 16 := by omega
      have hc := cnt_le (difR s t) k
      by_cases he : s.reg k = t.reg k
      · simp only [go_sem,Nat.reduceEqDiff,Nat.reduceAdd,Nat.reduceMul,↓reduceIte,↓dreduceIte,reduceCtorEq,Nat.reduceLeDiff,Nat.reduceLT,Nat.reduceSub,Int.reduceToNat,Int.reduceLE,Int.reduceLT, eq_true hk2, eq_true he, s_regs, s_reg hk3, s_all, s_zero, s_put, s_put', stc_length, stc_all, one_imm]
        repeat (refine And.intro (by omega) ?_)
        rw [i64_in (by omega) (by omega)]
        exact ⟨k + 1, by omega, by omega, Wk.mk (by simp [get_cons, cnt, difR, he]) ⟨[], rfl⟩ (Nat.le_refl _)⟩
      · simp only [go_sem,Nat.reduceEqDiff,Nat.reduceAdd,Nat.reduceMul,↓reduceIte,↓dreduceIte,reduceCtorEq,Nat.reduceLeDiff,Nat.reduceLT,Nat.reduceSub,Int.reduceToNat,Int.reduceLE,Int.reduceLT, eq_true hk2, eq_false he, s_regs, s_reg hk3, s_all, s_zero, s_put, s_put', stc_length, stc_all, one_imm]
        repeat (refine And.intro (by omega) ?_)
        rw [i64_in (by omega) (by omega), i64_in (by omega) (by omega)]
        exact ⟨k + 1, by omega, by omega, Wk.mk (by simp [get_cons, cnt, difR, he]) ⟨[], rfl⟩ (Nat.le_refl _)⟩
    have hk16 : k = 16 := by omega
    subst hk16
    simp only [go_sem,Nat.reduceEqDiff,Nat.reduceAdd,Nat.reduceMul,↓reduceIte,↓dreduceIte,reduceCtorEq,Nat.reduceLeDiff,Nat.reduceLT,Nat.reduceSub,Int.reduceToNat,Int.reduceLE,Int.reduceLT, eq_false hk2, hlen, s_mem, s_all, s_zero, s_put, s_put', stc_length, stc_all, one_imm]
    refine VW_loop (fun k : Nat => ⟨[(2, B false), (3, .ptr 1 1 0), (4, .ptr 2 2 0), (5, I (cnt (difR s t) 16)), (6, I (cnt (difM s t) k)), (8, I k)], [⟨0, 34, 1, askC (words code) data inp s.pc s.reg (words s.mem) s.rd s.out s.st s.fin⟩, ⟨1, 30, 1, stc s.pc s.reg (words s.mem) s.rd s.out s.st s.fin⟩, ⟨2, 30, 1, stc t.pc t.reg (words t.mem) t.rd t.out t.st t.fin⟩], 3⟩)
      (fun k => k ≤ s.mem.length) (fun k => s.mem.length - k) 0 (Wk.mk (by simp [get_cons, cnt]) ⟨[], rfl⟩ (Nat.le_refl _)) (Nat.zero_le _) ?_
    intro k hk
    by_cases hk2 : (k : Int) < s.mem.length
    · have hc := cnt_le (difM s t) k
      by_cases he : s.mem.getD k default = t.mem.getD k default
      · have hcs : cnt (difM s t) (k + 1) = cnt (difM s t) k := by simp only [cnt, difM, he]; simp
        simp only [go_sem,Nat.reduceEqDiff,Nat.reduceAdd,Nat.reduceMul,↓reduceIte,↓dreduceIte,reduceCtorEq,Nat.reduceLeDiff,Nat.reduceLT,Nat.reduceSub,Int.reduceToNat,Int.reduceLE,Int.reduceLT, eq_true hk2, eq_true he, s_mem, cellT_U32, s_all, s_zero, s_put, s_put', stc_length, stc_all, one_imm]
        repeat (refine And.intro (by omega) ?_)
        rw [i64_in (by omega) (by omega)]
        exact ⟨k + 1, by omega, by omega, Wk.mk (by simp [get_cons, hcs]) ⟨[], rfl⟩ (Nat.le_refl _)⟩
      · have hcs : cnt (difM s t) (k + 1) = cnt (difM s t) k + 1 := by simp only [cnt, difM, eq_false he]; simp
        simp only [go_sem,Nat.reduceEqDiff,Nat.reduceAdd,Nat.reduceMul,↓reduceIte,↓dreduceIte,reduceCtorEq,Nat.reduceLeDiff,Nat.reduceLT,Nat.reduceSub,Int.reduceToNat,Int.reduceLE,Int.reduceLT, eq_true hk2, eq_false he, s_mem, cellT_U32, s_all, s_zero, s_put, s_put', stc_length, stc_all, one_imm]
        repeat (refine And.intro (by omega) ?_)
        rw [i64_in (by omega) (by omega), i64_in (by omega) (by omega)]
        exact ⟨k + 1, by omega, by omega, Wk.mk (by simp [get_cons, hcs]) ⟨[], rfl⟩ (Nat.le_refl _)⟩
    have hkm : k = s.mem.length := by omega
    subst hkm
    simp only [go_sem,Nat.reduceEqDiff,Nat.reduceAdd,Nat.reduceMul,↓reduceIte,↓dreduceIte,reduceCtorEq,Nat.reduceLeDiff,Nat.reduceLT,Nat.reduceSub,Int.reduceToNat,Int.reduceLE,Int.reduceLT, eq_false hk2, s_mem, s_out, hO, eq_false o1, eq_false o2, eq_false o4, eq_true o3, hRW, hRWO, s_all, s_zero, s_put, s_put', stc_length, stc_all, one_imm]
    repeat (refine And.intro (by omega) ?_)
    refine VCall.of_contract awake_c (SleL.pure rfl) fun x hx => ?_
    subst hx
    by_cases q1 : t.rd = s.rd
    · by_cases q2 : t.st = s.st
      · simp only [go_sem,Nat.reduceEqDiff,Nat.reduceAdd,Nat.reduceMul,↓reduceIte,↓dreduceIte,reduceCtorEq,Nat.reduceLeDiff,Nat.reduceLT,Nat.reduceSub,Int.reduceToNat,Int.reduceLE,Int.reduceLT, s_rd, s_st, s_all, s_zero, s_put, s_put', stc_length, stc_all, one_imm, eq_true q1, eq_true q2]
        exact ⟨_, Frz.pure rfl, rfl⟩
      · have q3 : t.st = IntKind.i64.wrap (s.st + 1) := hstp.resolve_left q2
        simp only [go_sem,Nat.reduceEqDiff,Nat.reduceAdd,Nat.reduceMul,↓reduceIte,↓dreduceIte,reduceCtorEq,Nat.reduceLeDiff,Nat.reduceLT,Nat.reduceSub,Int.reduceToNat,Int.reduceLE,Int.reduceLT, s_rd, s_st, s_all, s_zero, s_put, s_put', stc_length, stc_all, one_imm, eq_true q1, eq_false q2, eq_true q3]
        exact ⟨_, Frz.pure rfl, by simp [q3]⟩
    · obtain ⟨q4, hw0⟩ : t.rd = IntKind.i64.wrap (s.rd + 1) ∧ cnt (difM s t) s.mem.length + (t.out.size - s.out.size) = 0 := hrd.resolve_left q1
      have hw1 : IntKind.i64.wrap (((cnt (difM s t) s.mem.length : Nat) : Int) + IntKind.i64.wrap ((t.out.size : Int) - (s.out.size : Int))) = 0 := by
        rw [hO, i64_in (by omega) (by omega)]; omega
      by_cases q2 : t.st = s.st
      · simp only [go_sem,Nat.reduceEqDiff,Nat.reduceAdd,Nat.reduceMul,↓reduceIte,↓dreduceIte,reduceCtorEq,Nat.reduceLeDiff,Nat.reduceLT,Nat.reduceSub,Int.reduceToNat,Int.reduceLE,Int.reduceLT, s_rd, s_st, s_all, s_zero, s_put, s_put', stc_length, stc_all, one_imm, eq_false q1, eq_true q4, eq_true hw1, eq_true q2]
        exact ⟨_, Frz.pure rfl, rfl⟩
      · have q3 : t.st = IntKind.i64.wrap (s.st + 1) := hstp.resolve_left q2
        simp only [go_sem,Nat.reduceEqDiff,Nat.reduceAdd,Nat.reduceMul,↓reduceIte,↓dreduceIte,reduceCtorEq,Nat.reduceLeDiff,Nat.reduceLT,Nat.reduceSub,Int.reduceToNat,Int.reduceLE,Int.reduceLT, s_rd, s_st, s_all, s_zero, s_put, s_put', stc_length, stc_all, one_imm, eq_false q1, eq_true q4, eq_true hw1, eq_false q2, eq_true q3]
        exact ⟨_, Frz.pure rfl, by simp [q3]⟩
  ·
    refine VW_loop (fun k : Nat => ⟨[(2, B false), (3, .ptr 2 2 0), (4, .ptr 1 1 0), (5, I (cnt (difR s t) k)), (6, I 0), (7, I k)], [⟨0, 34, 1, askC (words code) data inp s.pc s.reg (words s.mem) s.rd s.out s.st s.fin⟩, ⟨1, 30, 1, stc t.pc t.reg (words t.mem) t.rd t.out t.st t.fin⟩, ⟨2, 30, 1, stc s.pc s.reg (words s.mem) s.rd s.out s.st s.fin⟩], 3⟩)
      (fun k => k ≤ 16) (fun k => 16 - k) 0 (Wk.mk (by simp [get_cons, cnt]) ⟨[], rfl⟩ (Nat.le_refl _)) (Nat.zero_le _) ?_
    intro k hk
    by_cases hk2 : (k : Int) < 16
    · have hk3 : k < 16 := by omega
      have hc := cnt_le (difR s t) k
      by_cases he : s.reg k = t.reg k
      · simp only [go_sem,Nat.reduceEqDiff,Nat.reduceAdd,Nat.reduceMul,↓reduceIte,↓dreduceIte,reduceCtorEq,Nat.reduceLeDiff,Nat.reduceLT,Nat.reduceSub,Int.reduceToNat,Int.reduceLE,Int.reduceLT, eq_true hk2, eq_true he, s_regs, s_reg hk3, s_all, s_zero, s_put, s_put', stc_length, stc_all, one_imm]
        repeat (refine And.intro (by omega) ?_)
        rw [i64_in (by omega) (by omega)]
        exact ⟨k + 1, by omega, by omega, Wk.mk (by simp [get_cons, cnt, difR, he]) ⟨[], rfl⟩ (Nat.le_refl _)⟩
      · simp only [go_sem,Nat.reduceEqDiff,Nat.reduceAdd,Nat.reduceMul,↓reduceIte,↓dreduceIte,reduceCtorEq,Nat.reduceLeDiff,Nat.reduceLT,Nat.reduceSub,Int.reduceToNat,Int.reduceLE,Int.reduceLT, eq_true hk2, eq_false he, s_regs, s_reg hk3, s_all, s_zero, s_put, s_put', stc_length, stc_all, one_imm]
        repeat (refine And.intro (by omega) ?_)
        rw [i64_in (by omega) (by omega), i64_in (by omega) (by omega)]
        exact ⟨k + 1, by omega, by omega, Wk.mk (by simp [get_cons, cnt, difR, he]) ⟨[], rfl⟩ (Nat.le_refl _)⟩
    have hk16 : k = 16 := by omega
    subst hk16
    simp only [go_sem,Nat.reduceEqDiff,Nat.reduceAdd,Nat.reduceMul,↓reduceIte,↓dreduceIte,reduceCtorEq,Nat.reduceLeDiff,Nat.reduceLT,Nat.reduceSub,Int.reduceToNat,Int.reduceLE,Int.reduceLT, eq_false hk2, hlen, s_mem, s_all, s_zero, s_put, s_put', stc_length, stc_all, one_imm]
    refine VW_loop (fun k : Nat => ⟨[(2, B false), (3, .ptr 2 2 0), (4, .ptr 1 1 0), (5, I (cnt (difR s t) 16)), (6, I (cnt (difM s t) k)), (8, I k)], [⟨0, 34, 1, askC (words code) data inp s.pc s.reg (words s.mem) s.rd s.out s.st s.fin⟩, ⟨1, 30, 1, stc t.pc t.reg (words t.mem) t.rd t.out t.st t.fin⟩, ⟨2, 30, 1, stc s.pc s.reg (words s.mem) s.rd s.out s.st s.fin⟩], 3⟩)
      (fun k => k ≤ s.mem.length) (fun k => s.mem.length - k) 0 (Wk.mk (by simp [get_cons, cnt]) ⟨[], rfl⟩ (Nat.le_refl _)) (Nat.zero_le _) ?_
    intro k hk
    by_cases hk2 : (k : Int) < s.mem.length
    · have hc := cnt_le (difM s t) k
      by_cases he : s.mem.getD k default = t.mem.getD k default
      · have hcs : cnt (difM s t) (k + 1) = cnt (difM s t) k := by simp only [cnt, difM, he]; simp
        simp only [go_sem,Nat.reduceEqDiff,Nat.reduceAdd,Nat.reduceMul,↓reduceIte,↓dreduceIte,reduceCtorEq,Nat.reduceLeDiff,Nat.reduceLT,Nat.reduceSub,Int.reduceToNat,Int.reduceLE,Int.reduceLT, eq_true hk2, eq_true he, s_mem, cellT_U32, s_all, s_zero, s_put, s_put', stc_length, stc_all, one_imm]
        repeat (refine And.intro (by omega) ?_)
        rw [i64_in (by omega) (by omega)]
        exact ⟨k + 1, by omega, by omega, Wk.mk (by simp [get_cons, hcs]) ⟨[], rfl⟩ (Nat.le_refl _)⟩
      · have hcs : cnt (difM s t) (k + 1) = cnt (difM s t) k + 1 := by simp only [cnt, difM, eq_false he]; simp
        simp only [go_sem,Nat.reduceEqDiff,Nat.reduceAdd,Nat.reduceMul,↓reduceIte,↓dreduceIte,reduceCtorEq,Nat.reduceLeDiff,Nat.reduceLT,Nat.reduceSub,Int.reduceToNat,Int.reduceLE,Int.reduceLT, eq_true hk2, eq_false he, s_mem, cellT_U32, s_all, s_zero, s_put, s_put', stc_length, stc_all, one_imm]
        repeat (refine And.intro (by omega) ?_)
        rw [i64_in (by omega) (by omega), i64_in (by omega) (by omega)]
        exact ⟨k + 1, by omega, by omega, Wk.mk (by simp [get_cons, hcs]) ⟨[], rfl⟩ (Nat.le_refl _)⟩
    have hkm : k = s.mem.length := by omega
    subst hkm
    simp only [go_sem,Nat.reduceEqDiff,Nat.reduceAdd,Nat.reduceMul,↓reduceIte,↓dreduceIte,reduceCtorEq,Nat.reduceLeDiff,Nat.reduceLT,Nat.reduceSub,Int.reduceToNat,Int.reduceLE,Int.reduceLT, eq_false hk2, s_mem, s_out, hO, eq_false o1, eq_false o2, eq_false o4, eq_true o3, hRW, hRWO, s_all, s_zero, s_put, s_put', stc_length, stc_all, one_imm]
    repeat (refine And.intro (by omega) ?_)
    refine VCall.of_contract awake_c (SleL.pure rfl) fun x hx => ?_
    subst hx
    by_cases q1 : t.rd = s.rd
    · by_cases q2 : t.st = s.st
      · simp only [go_sem,Nat.reduceEqDiff,Nat.reduceAdd,Nat.reduceMul,↓reduceIte,↓dreduceIte,reduceCtorEq,Nat.reduceLeDiff,Nat.reduceLT,Nat.reduceSub,Int.reduceToNat,Int.reduceLE,Int.reduceLT, s_rd, s_st, s_all, s_zero, s_put, s_put', stc_length, stc_all, one_imm, eq_true q1, eq_true q2]
        exact ⟨_, Frz.pure rfl, rfl⟩
      · have q3 : t.st = IntKind.i64.wrap (s.st + 1) := hstp.resolve_left q2
        simp only [go_sem,Nat.reduceEqDiff,Nat.reduceAdd,Nat.reduceMul,↓reduceIte,↓dreduceIte,reduceCtorEq,Nat.reduceLeDiff,Nat.reduceLT,Nat.reduceSub,Int.reduceToNat,Int.reduceLE,Int.reduceLT, s_rd, s_st, s_all, s_zero, s_put, s_put', stc_length, stc_all, one_imm, eq_true q1, eq_false q2, eq_true q3]
        exact ⟨_, Frz.pure rfl, by simp [q3]⟩
    · obtain ⟨q4, hw0⟩ : t.rd = IntKind.i64.wrap (s.rd + 1) ∧ cnt (difM s t) s.mem.length + (t.out.size - s.out.size) = 0 := hrd.resolve_left q1
      have hw1 : IntKind.i64.wrap (((cnt (difM s t) s.mem.length : Nat) : Int) + IntKind.i64.wrap ((t.out.size : Int) - (s.out.size : Int))) = 0 := by
        rw [hO, i64_in (by omega) (by omega)]; omega
      by_cases q2 : t.st = s.st
      · simp only [go_sem,Nat.reduceEqDiff,Nat.reduceAdd,Nat.reduceMul,↓reduceIte,↓dreduceIte,reduceCtorEq,Nat.reduceLeDiff,Nat.reduceLT,Nat.reduceSub,Int.reduceToNat,Int.reduceLE,Int.reduceLT, s_rd, s_st, s_all, s_zero, s_put, s_put', stc_length, stc_all, one_imm, eq_false q1, eq_true q4, eq_true hw1, eq_true q2]
        exact ⟨_, Frz.pure rfl, rfl⟩
      · have q3 : t.st = IntKind.i64.wrap (s.st + 1) := hstp.resolve_left q2
        simp only [go_sem,Nat.reduceEqDiff,Nat.reduceAdd,Nat.reduceMul,↓reduceIte,↓dreduceIte,reduceCtorEq,Nat.reduceLeDiff,Nat.reduceLT,Nat.reduceSub,Int.reduceToNat,Int.reduceLE,Int.reduceLT, s_rd, s_st, s_all, s_zero, s_put, s_put', stc_length, stc_all, one_imm, eq_false q1, eq_true q4, eq_true hw1, eq_false q2, eq_true q3]
        exact ⟨_, Frz.pure rfl, by simp [q3]⟩


set_option maxRecDepth 100000 in
theorem machineframes_lifted (os : Os) (started : os.Started) (H : Type) (enc : TypeId × Value → H) :
    ReturnsInHanded {} Try.checked os 7 .any (Rows.machineFramesSpec.pre6 enc Try.prog Try.f7 Rows.machineFramesRow.domain false) (Rows.machineFramesSpec.post enc Try.prog Try.f7 false true false false) := by
  refine returnsInHanded_of_change_sized (C := Try.checked) Try.own started (by kernel_rfl) Try.func7
    (ChangeSpec.witness6 (enc := enc) (C := Try.checked) false ⟨#[], #[.agg #[.slice none 0 0, .int .i64 0, .string ⟨#[]⟩, .int .i64 0, .int .u32 0, .int .u32 0, .int .u32 0, .int .u32 0, .int .u32 0, .int .u32 0, .int .u32 0, .int .u32 0, .int .u32 0, .int .u32 0, .int .u32 0, .int .u32 0, .int .u32 0, .int .u32 0, .int .u32 0, .int .u32 0, .slice none 0 0, .int .i64 0, .string ⟨#[]⟩, .int .i64 0, .int .i64 0]], []⟩ 8 (by kernel_rfl) (by kernel_rfl) (by kernel_rfl) (by kernel_rfl)) ?_
  intro W base args ds gs before hval hW _ hwt _
  refine law_calls (P := Try.prog) (n := 20) (shs := [askSh]) (tb := 4) Try.laidOut rfl (by kernel_rfl) (by kernel_rfl) (by decide +kernel) (by kernel_rfl) (fun ds h => ?_) (fun xs hx => ?_) hval hW hwt
  · match ds, h with
    | [d1], _ => rfl
  · simp only [Sh.fitL] at hx
    obtain ⟨x, xs', rfl, hx, rfl⟩ := hx
    obtain ⟨code, data, inp, s, rfl, h, k⟩ := ask_of hx
    exact machineframes_c code data inp s h k

theorem machineframes_holds : Rows.MachineFramesSaid :=
  OpenClaim.holds_of_wide 7 Try.f7 rfl rfl rfl rfl rfl rfl rfl ⟨rfl, rfl, rfl, rfl, rfl⟩ rfl rfl rfl rfl rfl (by kernel_rfl) Try.func7 (by kernel_rfl)
    (of_decide_eq_true (by kernel_rfl)) (by unfold Func.isWrapper; first | (rw [if_pos (by decide +kernel)]; kernel_rfl) | (rw [if_neg (by decide +kernel)]; exact ⟨rfl, rfl⟩))
    (fun os started H enc _ => machineframes_lifted os started H enc)
end Go.Proofs.Ytjkkmpkbiddhkaa
