/-
  The document's machine: its small functions. No condition.
-/
import Derived.Test.YtjkkmpkbiddhkaaCodeB
import Derived.Test.YtjkkmpkbiddhkaaM17
namespace Go.Proofs.Ytjkkmpkbiddhkaa
set_option linter.unusedSimpArgs false
set_option linter.unusedVariables false
set_option maxRecDepth 10000
open Go.V

theorem refend_c (s : S) (k : Int) : Contract Try.prog 24 [stA s, I k] (fun r => r = stA { s with fin := k }) := by
  refine Contract.of_call (VCall.of_body hmix f_scref09_end (by simp) ?_)
  simp only [go_sem,Nat.reduceEqDiff,Nat.reduceAdd,Nat.reduceMul,↓reduceIte,↓dreduceIte,reduceCtorEq,Nat.reduceLeDiff,Nat.reduceLT,Nat.reduceSub,Int.reduceToNat,Int.reduceLE,Int.reduceLT, c_scref09_end, s_zero, ss_fin, s_put, s_put', stc_length, stc_all, s_all, one_imm]
  exact ⟨_, Frz.pure rfl, rfl⟩

theorem refjump_c (s : S) (k : Int) : Contract Try.prog 29 [stA s, I k] (fun r => r = stA { s with pc := k }) := by
  refine Contract.of_call (VCall.of_body hmix f_scref09_jump (by simp) ?_)
  simp only [go_sem,Nat.reduceEqDiff,Nat.reduceAdd,Nat.reduceMul,↓reduceIte,↓dreduceIte,reduceCtorEq,Nat.reduceLeDiff,Nat.reduceLT,Nat.reduceSub,Int.reduceToNat,Int.reduceLE,Int.reduceLT, c_scref09_jump, s_zero, ss_pc, s_put, s_put', stc_length, stc_all, s_all, one_imm]
  exact ⟨_, Frz.pure rfl, rfl⟩

theorem refset_c (s : S) (a v : Int) (ha : 0 ≤ a ∧ a ≤ 15) : Contract Try.prog 26 [stA s, I a, U32 v] (fun r => r = stA (setR s a v)) := by
  refine Contract.of_call (VCall.of_body hmix f_scref09_set (by simp) ?_)
  obtain ⟨ha1, ha2⟩ := ha
  have hj : a.toNat < 16 := by omega
  simp only [go_sem,Nat.reduceEqDiff,Nat.reduceAdd,Nat.reduceMul,↓reduceIte,↓dreduceIte,reduceCtorEq,Nat.reduceLeDiff,Nat.reduceLT,Nat.reduceSub,Int.reduceToNat,Int.reduceLE,Int.reduceLT, c_scref09_set, s_zero, ss_pc, ss_reg hj, s_reg hj, s_pc, s_put, s_put', stc_length, stc_all, s_all, one_imm]
  repeat (refine And.intro (by omega) ?_)
  exact ⟨_, Frz.pure rfl, rfl⟩

theorem refword_c (l : List Int) (b k : Int) (hb : In32 b) (hk : 0 ≤ k ∧ k ≤ 65535) (hl : l.length ≤ 1000000) : Contract Try.prog 27 [words l, U32 b, I k]
    (fun r => r = .tup [U32 (if w32 (b + k) < l.length then l.getD (w32 (b + k)).toNat default else 0), B (decide (w32 (b + k) < l.length))]) := by
  refine Contract.of_call (VCall.of_body hmix f_scref09_word (by simp) ?_)
  have e1 : IntKind.u32.wrap k = k := w32_in ⟨by omega, by omega⟩
  obtain ⟨at_, hat⟩ : ∃ x, IntKind.u32.wrap (b + k) = x := ⟨_, rfl⟩
  have hin : In32 at_ := by rw [← hat, IntKind.wrap_u32]; exact ⟨by omega, by omega⟩
  obtain ⟨p1, p2⟩ := hin
  have e2 : IntKind.u64.wrap at_ = at_ := by rw [IntKind.wrap_u64]; omega
  have e3 : IntKind.u64.wrap (l.length : Int) = l.length := by rw [IntKind.wrap_u64]; omega
  simp only [hat]
  by_cases h : at_ < l.length
  · simp only [go_sem,Nat.reduceEqDiff,Nat.reduceAdd,Nat.reduceMul,↓reduceIte,↓dreduceIte,reduceCtorEq,Nat.reduceLeDiff,Nat.reduceLT,Nat.reduceSub,Int.reduceToNat,Int.reduceLE,Int.reduceLT, c_scref09_word, e1, hat, e2, e3, eq_false (show ¬ (l.length : Int) ≤ at_ by omega), if_pos h]
    repeat (refine And.intro (by omega) ?_)
    exact ⟨_, Frz.pure rfl, by simp [h]⟩
  · simp only [go_sem,Nat.reduceEqDiff,Nat.reduceAdd,Nat.reduceMul,↓reduceIte,↓dreduceIte,reduceCtorEq,Nat.reduceLeDiff,Nat.reduceLT,Nat.reduceSub,Int.reduceToNat,Int.reduceLE,Int.reduceLT, c_scref09_word, e1, hat, e2, e3, eq_true (show (l.length : Int) ≤ at_ by omega), if_neg h]
    exact ⟨_, Frz.pure rfl, by simp [h]⟩

theorem refstore_c (s : S) (b k v : Int) (hb : In32 b) (hk : 0 ≤ k ∧ k ≤ 65535) (hl : s.mem.length ≤ 1000000) : Contract Try.prog 28 [stA s, U32 b, I k, U32 v]
    (fun r => r = stA (if w32 (b + k) < s.mem.length then { s with mem := s.mem.set (w32 (b + k)).toNat v, pc := nxt s } else { s with fin := 8 })) := by
  refine Contract.of_call (VCall.of_body hmix f_scref09_store (by simp) ?_)
  have e1 : IntKind.u32.wrap k = k := w32_in ⟨by omega, by omega⟩
  obtain ⟨at_, hat⟩ : ∃ x, IntKind.u32.wrap (b + k) = x := ⟨_, rfl⟩
  have hin : In32 at_ := by rw [← hat, IntKind.wrap_u32]; exact ⟨by omega, by omega⟩
  obtain ⟨p1, p2⟩ := hin
  have e2 : IntKind.u64.wrap at_ = at_ := by rw [IntKind.wrap_u64]; omega
  have e3 : IntKind.u64.wrap (s.mem.length : Int) = s.mem.length := by rw [IntKind.wrap_u64]; omega
  have hall : allCells (s.mem.map U32) = s.mem.map U32 := allCells_map1 (fun _ => rfl) s.mem
  have hmx : (2000000 : Nat) ≤ maxLen := by decide
  simp only [hat]
  by_cases h : at_ < s.mem.length
  · simp only [go_sem,Nat.reduceEqDiff,Nat.reduceAdd,Nat.reduceMul,↓reduceIte,↓dreduceIte,reduceCtorEq,Nat.reduceLeDiff,Nat.reduceLT,Nat.reduceSub,Int.reduceToNat,Int.reduceLE,Int.reduceLT, c_scref09_store, s_zero, s_pc, s_mem, s_all, ss_mem, ss_pc, s_put, s_put', stc_length, stc_all, one_imm, one_ref, e1, hat, e2, e3, eq_false (show ¬ (s.mem.length : Int) ≤ at_ by omega), if_pos h, hall, set_map]
    repeat (refine And.intro (by first | omega | (intro y hy; obtain ⟨x, _, rfl⟩ := List.mem_map.1 hy; rfl)) ?_)
    refine ⟨_, stA_frz' (Frz.ref (Nat.zero_le _) rfl rfl rfl ?_ ?_), rfl⟩
    · rw [List.all_eq_true]; intro y hy; obtain ⟨x, _, rfl⟩ := List.mem_map.1 hy; rfl
    · rw [List.drop_zero, List.take_of_length_le (by simp)]
      exact FrzL.pure (by rw [List.all_eq_true]; intro y hy; obtain ⟨x, _, rfl⟩ := List.mem_map.1 hy; rfl)
  · simp only [go_sem,Nat.reduceEqDiff,Nat.reduceAdd,Nat.reduceMul,↓reduceIte,↓dreduceIte,reduceCtorEq,Nat.reduceLeDiff,Nat.reduceLT,Nat.reduceSub,Int.reduceToNat,Int.reduceLE,Int.reduceLT, c_scref09_store, s_zero, s_pc, s_mem, s_all, ss_mem, ss_pc, s_put, s_put', stc_length, stc_all, one_imm, one_ref, e1, hat, e2, e3, eq_true (show (s.mem.length : Int) ≤ at_ by omega), if_neg h]
    refine VCall.of_contract (refend_c s 8) (SleL.pure rfl) fun x hx => ?_
    subst hx
    simp only [go_sem,Nat.reduceEqDiff,Nat.reduceAdd,Nat.reduceMul,↓reduceIte,↓dreduceIte,reduceCtorEq,Nat.reduceLeDiff,Nat.reduceLT,Nat.reduceSub,Int.reduceToNat,Int.reduceLE,Int.reduceLT, s_put, s_put', stc_length, stc_all, s_all, one_imm]
    exact ⟨_, Frz.pure rfl, rfl⟩

def getF (inp : ByteArray) (s : S) (a : Int) : S := if s.rd < 0 ∨ (inp.size : Int) ≤ s.rd then setR s a 256 else setR { s with rd := IntKind.i64.wrap (s.rd + 1) } a (byteAt inp s.rd.toNat)
theorem refget_c (inp : ByteArray) (s : S) (a : Int) (ha : 0 ≤ a ∧ a ≤ 15) (hi : inp.size ≤ 1000000000) : Contract Try.prog 30 [stA s, strv inp, I a] (fun r => r = stA (getF inp s a)) := by
  refine Contract.of_call (VCall.of_body hmix f_scref09_get (by simp) ?_)
  unfold getF
  by_cases h1 : s.rd < 0
  · simp only [if_pos (show s.rd < 0 ∨ (inp.size : Int) ≤ s.rd from .inl h1)]
    simp only [go_sem,Nat.reduceEqDiff,Nat.reduceAdd,Nat.reduceMul,↓reduceIte,↓dreduceIte,reduceCtorEq,Nat.reduceLeDiff,Nat.reduceLT,Nat.reduceSub,Int.reduceToNat,Int.reduceLE,Int.reduceLT, c_scref09_get, s_zero, s_rd, s_all, ss_rd, s_put, s_put', stc_length, stc_all, one_imm, eq_true h1]
    refine VCall.of_contract (refset_c s a 256 ha) (SleL.pure rfl) fun x hx => ?_
    subst hx
    simp only [go_sem,Nat.reduceEqDiff,Nat.reduceAdd,Nat.reduceMul,↓reduceIte,↓dreduceIte,reduceCtorEq,Nat.reduceLeDiff,Nat.reduceLT,Nat.reduceSub,Int.reduceToNat,Int.reduceLE,Int.reduceLT, s_put, s_put', stc_length, stc_all, s_all, one_imm]
    exact ⟨_, Frz.pure rfl, rfl⟩
  by_cases h2 : (inp.size : Int) ≤ s.rd
  · simp only [if_pos (show s.rd < 0 ∨ (inp.size : Int) ≤ s.rd from .inr h2)]
    simp only [go_sem,Nat.reduceEqDiff,Nat.reduceAdd,Nat.reduceMul,↓reduceIte,↓dreduceIte,reduceCtorEq,Nat.reduceLeDiff,Nat.reduceLT,Nat.reduceSub,Int.reduceToNat,Int.reduceLE,Int.reduceLT, c_scref09_get, s_zero, s_rd, s_all, ss_rd, s_put, s_put', stc_length, stc_all, one_imm, eq_false h1, eq_true h2]
    refine VCall.of_contract (refset_c s a 256 ha) (SleL.pure rfl) fun x hx => ?_
    subst hx
    simp only [go_sem,Nat.reduceEqDiff,Nat.reduceAdd,Nat.reduceMul,↓reduceIte,↓dreduceIte,reduceCtorEq,Nat.reduceLeDiff,Nat.reduceLT,Nat.reduceSub,Int.reduceToNat,Int.reduceLE,Int.reduceLT, s_put, s_put', stc_length, stc_all, s_all, one_imm]
    exact ⟨_, Frz.pure rfl, rfl⟩
  · simp only [if_neg (show ¬ (s.rd < 0 ∨ (inp.size : Int) ≤ s.rd) by omega)]
    have hb : IntKind.u32.wrap (byteAt inp s.rd.toNat) = byteAt inp s.rd.toNat := by
      refine w32_in ⟨?_, ?_⟩ <;> unfold byteAt
      · omega
      · have := (inp.data.toList.getD s.rd.toNat 0).toNat_lt; omega
    simp only [go_sem,Nat.reduceEqDiff,Nat.reduceAdd,Nat.reduceMul,↓reduceIte,↓dreduceIte,reduceCtorEq,Nat.reduceLeDiff,Nat.reduceLT,Nat.reduceSub,Int.reduceToNat,Int.reduceLE,Int.reduceLT, c_scref09_get, s_zero, s_rd, s_all, ss_rd, s_put, s_put', stc_length, stc_all, one_imm, eq_false h1, eq_false h2, hb]
    repeat (refine And.intro (by omega) ?_)
    refine VCall.of_contract (refset_c { s with rd := IntKind.i64.wrap (s.rd + 1) } a (byteAt inp s.rd.toNat) ha) (SleL.pure rfl) fun x hx => ?_
    subst hx
    simp only [go_sem,Nat.reduceEqDiff,Nat.reduceAdd,Nat.reduceMul,↓reduceIte,↓dreduceIte,reduceCtorEq,Nat.reduceLeDiff,Nat.reduceLT,Nat.reduceSub,Int.reduceToNat,Int.reduceLE,Int.reduceLT, s_put, s_put', stc_length, stc_all, s_all, one_imm]
    exact ⟨_, Frz.pure rfl, rfl⟩

theorem refput_c (s : S) (v : Int) : Contract Try.prog 31 [stA s, U32 v] (fun r => r = stA (if 65536 ≤ s.out.size then { s with fin := 4 } else { s with out := s.out.push (byteOf v), pc := nxt s })) := by
  refine Contract.of_call (VCall.of_body hmix f_scref09_put (by simp) ?_)
  by_cases h : 65536 ≤ s.out.size
  · simp only [go_sem,Nat.reduceEqDiff,Nat.reduceAdd,Nat.reduceMul,↓reduceIte,↓dreduceIte,reduceCtorEq,Nat.reduceLeDiff,Nat.reduceLT,Nat.reduceSub,Int.reduceToNat,Int.reduceLE,Int.reduceLT, c_scref09_put, s_zero, s_out, s_pc, s_all, ss_out, ss_pc, s_put, s_put', stc_length, stc_all, one_imm, eq_true (show (65536 : Int) ≤ (s.out.size : Int) by omega), if_pos h]
    refine VCall.of_contract (refend_c s 4) (SleL.pure rfl) fun x hx => ?_
    subst hx
    simp only [go_sem,Nat.reduceEqDiff,Nat.reduceAdd,Nat.reduceMul,↓reduceIte,↓dreduceIte,reduceCtorEq,Nat.reduceLeDiff,Nat.reduceLT,Nat.reduceSub,Int.reduceToNat,Int.reduceLE,Int.reduceLT, s_put, s_put', stc_length, stc_all, s_all, one_imm]
    exact ⟨_, Frz.pure rfl, rfl⟩
  · have hU8 : (AV.val (.int .u8 (IntKind.u8.wrap v))) = U8 (byteOf v) := by
      rw [← byteOf_eq]
    have hp : s.out ++ ⟨#[byteOf v]⟩ = s.out.push (byteOf v) := bytes_ext (by simp)
    simp only [go_sem,Nat.reduceEqDiff,Nat.reduceAdd,Nat.reduceMul,↓reduceIte,↓dreduceIte,reduceCtorEq,Nat.reduceLeDiff,Nat.reduceLT,Nat.reduceSub,Int.reduceToNat,Int.reduceLE,Int.reduceLT, c_scref09_put, s_zero, s_out, s_pc, s_all, ss_out, ss_pc, s_put, s_put', stc_length, stc_all, one_imm, eq_false (show ¬ (65536 : Int) ≤ (s.out.size : Int) by omega), if_neg h, hU8]
    have hb2 : ∀ C, b2sT [U8 (byteOf v)] C .mk = C ⟨#[byteOf v]⟩ := fun C => b2sT_U8 (l := [byteOf v])
    simp only [go_sem,Nat.reduceEqDiff,Nat.reduceAdd,Nat.reduceMul,↓reduceIte,↓dreduceIte,reduceCtorEq,Nat.reduceLeDiff,Nat.reduceLT,Nat.reduceSub,Int.reduceToNat,Int.reduceLE,Int.reduceLT, s_zero, s_out, s_pc, s_all, ss_out, ss_pc, s_put, s_put', stc_length, stc_all, one_imm, hb2, hp]
    have hsz : (⟨#[byteOf v]⟩ : ByteArray).size = 1 := rfl
    have hsz3 : (#[byteOf v] : Array UInt8).size = 1 := rfl
    have hmx : (2000000 : Nat) ≤ maxLen := by decide
    repeat (refine And.intro (by omega) ?_)
    exact ⟨_, Frz.pure rfl, rfl⟩
end Go.Proofs.Ytjkkmpkbiddhkaa
