/-
  The machine's runner: contracts, part 2: memory. No condition.
-/
import Derived.Test.YtjoldjcfabbekaaM9
namespace Go.Proofs.Ytjoldjcfabbekaa
set_option linter.unusedSimpArgs false
set_option linter.unusedVariables false
set_option maxRecDepth 10000
open Go.V

/-- The memory is somebody's, or one of its own. -/
def MemAt (L T : List VObj) (m : AV) (own : Bool) (mem : List Int) : Prop :=
  (own = false ∧ m = words mem) ∨ (own = true ∧ ∃ k sm, m = .ref (L.length + (k + 1)) sm 0 mem.length ∧ T[k]? = some ⟨sm, 34, 1, mem.map U32⟩)
/-- What was put out behind the state's. -/
def MoreAt (L T : List VObj) (m : AV) (bs : List UInt8) : Prop :=
  (m = nilv ∧ bs = []) ∨ ∃ k sm, m = .ref (L.length + (k + 1)) sm 0 bs.length ∧ T[k]? = some ⟨sm, 5, 1, bs.map U8⟩

theorem MemAt.add {L T : List VObj} {m : AV} {own : Bool} {mem : List Int} (h : MemAt L T m own mem) (R : List VObj) : MemAt L (T ++ R) m own mem := by
  rcases h with h | ⟨h1, k, sm, h2, h3⟩
  · exact .inl h
  · exact .inr ⟨h1, k, sm, h2, by rw [List.getElem?_append_left (List.getElem?_eq_some_iff.1 h3).1]; exact h3⟩
theorem MoreAt.add {L T : List VObj} {m : AV} {bs : List UInt8} (h : MoreAt L T m bs) (R : List VObj) : MoreAt L (T ++ R) m bs := by
  rcases h with h | ⟨k, sm, h2, h3⟩
  · exact .inl h
  · exact .inr ⟨k, sm, h2, by rw [List.getElem?_append_left (List.getElem?_eq_some_iff.1 h3).1]; exact h3⟩
/-- All objects but lists of words and of bytes stay. -/
def Keep (T T' : List VObj) : Prop := ∀ (k : Nat) (ob : VObj), T[k]? = some ob → (ob.sz = 0 ∨ (ob.ty ≠ 34 ∧ ob.ty ≠ 5)) → T'[k]? = some ob
theorem Keep.refl (T : List VObj) : Keep T T := fun _ _ h _ => h
theorem Keep.add {T : List VObj} (R : List VObj) : Keep T (T ++ R) := fun k ob h _ => by rw [List.getElem?_append_left (List.getElem?_eq_some_iff.1 h).1]; exact h
theorem Keep.trans {T T' T'' : List VObj} (h : Keep T T') (k : Keep T' T'') : Keep T T'' := fun i ob h1 h2 => k i ob (h i ob h1 h2) h2
theorem Keep.put {T : List VObj} {k : Nat} {ob ob' : VObj} (h : T[k]? = some ob) (hz : ob.sz ≠ 0) (ht : ob.ty = 34 ∨ ob.ty = 5) (R : List VObj) : Keep T ((T ++ R).set k ob') := fun i o h1 h2 => by
  have hne : k ≠ i := fun e => by
    subst e; rw [h] at h1; cases h1
    rcases h2 with h2 | ⟨h2, h3⟩
    · exact hz h2
    rcases ht with e | e
    · exact h2 e
    · exact h3 e
  rw [List.getElem?_set, if_neg hne, List.getElem?_append_left (List.getElem?_eq_some_iff.1 h1).1]; exact h1

theorem MemAt.one {L T : List VObj} {m : AV} {own : Bool} {mem : List Int} (h : MemAt L T m own mem) : m.one = true := by
  rcases h with ⟨_, h⟩ | ⟨_, k, sm, h, _⟩ <;> rw [h] <;> rfl
theorem MoreAt.one {L T : List VObj} {m : AV} {bs : List UInt8} (h : MoreAt L T m bs) : m.one = true := by
  rcases h with ⟨h, _⟩ | ⟨k, sm, h, _⟩ <;> rw [h] <;> rfl

theorem cellT_U32 {xs : List Int} {off : Nat} {C : AV → Prop} : cellT (xs.map U32) off false 1 C .mk = (off < xs.length ∧ C (U32 (xs.getD off default))) := cellT_map fun _ => rfl
theorem MoreAt.put {L T : List VObj} {m : AV} {bs : List UInt8} (h : MoreAt L T m bs) {k sm : Nat} {cs cs' : List AV} (hk : T[k]? = some ⟨sm, 34, 1, cs⟩) (R : List VObj) : MoreAt L ((T ++ R).set k ⟨sm, 34, 1, cs'⟩) m bs := by
  rcases h with h | ⟨j, s2, h2, h3⟩
  · exact .inl h
  · refine .inr ⟨j, s2, h2, ?_⟩
    have hne : k ≠ j := fun e => by
      subst e; rw [hk] at h3
      simp only [Option.some.injEq, VObj.mk.injEq] at h3
      exact absurd h3.2.1 (by decide)
    rw [List.getElem?_set, if_neg hne, List.getElem?_append_left (List.getElem?_eq_some_iff.1 h3).1]; exact h3

theorem clone_v (l : List Int) (hl : l ≠ []) (hn : l.length ≤ 1000000) (H : List VObj) (nx : Nat) (C : AV → List VObj → Nat → Prop)
    (hC : ∀ sm nx', C (.ref H.length sm 0 l.length) (H ++ [⟨sm, 34, 1, l.map U32⟩]) nx') : VCall Try.prog 68 [words l] H nx C := by
  refine VCall.of_body hmix f_slices_Clone__uint32uint32 (by simp) ?_
  have hall : allCells (l.map U32) = l.map U32 := allCells_map1 (fun _ => rfl) l
  have hmx : (2000000 : Nat) ≤ maxLen := by decide
  simp only [go_sem,Nat.reduceEqDiff,Nat.reduceAdd,Nat.reduceMul,↓reduceIte,↓dreduceIte,reduceCtorEq,Nat.reduceLeDiff,Nat.reduceLT,Nat.reduceSub,Int.reduceToNat,Int.reduceLE,Int.reduceLT, c_slices_Clone__uint32uint32, ogn, osn, hall]
  refine ⟨by simpa using hl, ?_⟩
  repeat (refine And.intro (by first | omega | (intro y hy; obtain ⟨x, _, rfl⟩ := List.mem_map.1 hy; rfl)) ?_)
  exact hC _ _

section
variable (code : List Int) (inp : ByteArray) (pc : Int) (f : Nat → Int) (m : AV) (mem : List Int) (rd : Int) (out outT : ByteArray) (st fin : Int) (own : Bool) (more : AV) (L T : List VObj) (s nx : Nat)

theorem move_v (op a b c : Int) (ho : op = 16 ∨ op = 17 ∨ op = 27) (ha : 0 ≤ a ∧ a ≤ 15) (hb : 0 ≤ b ∧ b ≤ 15) (hc : 0 ≤ c ∧ c ≤ 65535) (hm : MemAt L T m own mem) (hl : mem.length ≤ 1000000) (C : AV → List VObj → Nat → Prop)
    (hC : ∀ T' m' own' nx', MemAt L T' m' own' (insF code inp ⟨pc, f, mem, rd, outT, st, fin⟩ op a b c).2.mem → (∀ mo bs, MoreAt L T mo bs → MoreAt L T' mo bs) → Keep T T' →
      C (B (decide ((insF code inp ⟨pc, f, mem, rd, outT, st, fin⟩ op a b c).1 = 0))) (L ++ rob s (rnc (words code) inp pc (insF code inp ⟨pc, f, mem, rd, outT, st, fin⟩ op a b c).2.reg m' rd out st fin own' more) :: T') nx') :
    VCall Try.prog 57 [.ptr L.length s 0, insA op a b c] (L ++ rob s (rnc (words code) inp pc f m rd out st fin own more) :: T) nx C := by
  refine VCall.of_body hmix f_machine_Runner_move (by simp) ?_
  obtain ⟨ha1, ha2⟩ := ha
  obtain ⟨hb1, hb2⟩ := hb
  obtain ⟨hc1, hc2⟩ := hc
  have hj : a.toNat < 16 := by omega
  have hk : b.toNat < 16 := by omega
  have e1 : IntKind.u32.wrap c = c := w32_in ⟨by omega, by omega⟩
  obtain ⟨at_, hat⟩ : ∃ x, IntKind.u32.wrap (f b.toNat + c) = x := ⟨_, rfl⟩
  have hatW : atW ⟨pc, f, mem, rd, outT, st, fin⟩ b c = at_ := hat
  have h32 : In32 at_ := hat ▸ w32_ok _
  have e2 : IntKind.i64.wrap at_ = at_ := i64_in (by have := h32.1; omega) (by have := h32.2; omega)
  have h0 := h32.1
  have hone := hm.one
  have hs3 : 26 = (rnc (words code) inp pc f m rd out st fin own more).length := rfl
  have hT' : ∀ {k : Nat} {ob : VObj}, T[k]? = some ob → ∀ R, (T ++ R)[k]? = some ob := fun h R => by rw [List.getElem?_append_left (List.getElem?_eq_some_iff.1 h).1]; exact h
  rcases ho with rfl | rfl | rfl
  · -- ld
    have hins : insF code inp ⟨pc, f, mem, rd, outT, st, fin⟩ 16 a b c = if at_ < mem.length then (0, setR ⟨pc, f, mem, rd, outT, st, fin⟩ a (mem.getD at_.toNat default)) else (8, ⟨pc, f, mem, rd, outT, st, fin⟩) := by
      show (if atW ⟨pc, f, mem, rd, outT, st, fin⟩ b c < mem.length then _ else _) = _
      rw [hatW]
    rw [hins] at hC
    by_cases h1 : at_ < mem.length
    · rw [if_pos h1] at hC
      have h1' := eq_false (show ¬ (mem.length : Int) ≤ at_ by omega)
      rcases hm with ⟨rfl, rfl⟩ | ⟨rfl, k, sm, rfl, hT⟩
      · simp only [go_sem,Nat.reduceEqDiff,Nat.reduceAdd,Nat.reduceMul,↓reduceIte,↓dreduceIte,reduceCtorEq,Nat.reduceLeDiff,Nat.reduceLT,Nat.reduceSub,Int.reduceToNat,Int.reduceLE,Int.reduceLT, c_machine_Runner_move, olen, oadd, og0, os0, ogk, osk, ogn, osn, onx, rnc_length, r_pc, r_code, r_own, r_reg hj, r_reg hk, r_mem, cellT_U32, rs_reg hj, rs_mem, rs_own, one_imm, one_ref, Int.reduceEq, Int.reduceBEq, e1, hat, e2, h1']
        repeat (refine And.intro (by omega) ?_)
        exact hC _ _ _ _ (.inl ⟨rfl, rfl⟩) (fun _ _ h => h.add _) (Keep.add _)
      · have hT2 := hT' hT
        simp only [go_sem,Nat.reduceEqDiff,Nat.reduceAdd,Nat.reduceMul,↓reduceIte,↓dreduceIte,reduceCtorEq,Nat.reduceLeDiff,Nat.reduceLT,Nat.reduceSub,Int.reduceToNat,Int.reduceLE,Int.reduceLT, c_machine_Runner_move, olen, oadd, og0, os0, ogk, osk, ogn, osn, onx, rnc_length, r_pc, r_code, r_own, r_reg hj, r_reg hk, r_mem, cellT_U32, rs_reg hj, rs_mem, rs_own, one_imm, one_ref, Int.reduceEq, Int.reduceBEq, e1, hat, e2, hT2, h1']
        repeat (refine And.intro (by first | omega | simp) ?_)
        exact hC _ _ _ _ (.inr ⟨rfl, k, sm, rfl, hT2 _⟩) (fun _ _ h => h.add _) (Keep.add _)
    · rw [if_neg h1] at hC
      have h1' := eq_true (show (mem.length : Int) ≤ at_ by omega)
      rcases hm with ⟨rfl, rfl⟩ | ⟨rfl, k, sm, rfl, hT⟩
      · simp only [go_sem,Nat.reduceEqDiff,Nat.reduceAdd,Nat.reduceMul,↓reduceIte,↓dreduceIte,reduceCtorEq,Nat.reduceLeDiff,Nat.reduceLT,Nat.reduceSub,Int.reduceToNat,Int.reduceLE,Int.reduceLT, c_machine_Runner_move, olen, oadd, og0, os0, ogk, osk, ogn, osn, onx, rnc_length, r_pc, r_code, r_own, r_reg hj, r_reg hk, r_mem, cellT_U32, rs_reg hj, rs_mem, rs_own, one_imm, one_ref, Int.reduceEq, Int.reduceBEq, e1, hat, e2, h1']
        repeat (refine And.intro (by omega) ?_)
        exact hC _ _ _ _ (.inl ⟨rfl, rfl⟩) (fun _ _ h => h.add _) (Keep.add _)
      · have hT2 := hT' hT
        simp only [go_sem,Nat.reduceEqDiff,Nat.reduceAdd,Nat.reduceMul,↓reduceIte,↓dreduceIte,reduceCtorEq,Nat.reduceLeDiff,Nat.reduceLT,Nat.reduceSub,Int.reduceToNat,Int.reduceLE,Int.reduceLT, c_machine_Runner_move, olen, oadd, og0, os0, ogk, osk, ogn, osn, onx, rnc_length, r_pc, r_code, r_own, r_reg hj, r_reg hk, r_mem, cellT_U32, rs_reg hj, rs_mem, rs_own, one_imm, one_ref, Int.reduceEq, Int.reduceBEq, e1, hat, e2, hT2, h1']
        repeat (refine And.intro (by first | omega | simp) ?_)
        exact hC _ _ _ _ (.inr ⟨rfl, k, sm, rfl, hT2 _⟩) (fun _ _ h => h.add _) (Keep.add _)
  · -- st
    have hins : insF code inp ⟨pc, f, mem, rd, outT, st, fin⟩ 17 a b c = if at_ < mem.length then (0, ⟨nxt ⟨pc, f, mem, rd, outT, st, fin⟩, f, mem.set at_.toNat (f a.toNat), rd, outT, st, fin⟩) else (8, ⟨pc, f, mem, rd, outT, st, fin⟩) := by
      show (if atW ⟨pc, f, mem, rd, outT, st, fin⟩ b c < mem.length then _ else _) = _
      rw [hatW]
    rw [hins] at hC
    by_cases h1 : at_ < mem.length
    · rw [if_pos h1] at hC
      have h1' := eq_false (show ¬ (mem.length : Int) ≤ at_ by omega)
      rcases hm with ⟨rfl, rfl⟩ | ⟨rfl, k, sm, rfl, hT⟩
      · simp only [go_sem,Nat.reduceEqDiff,Nat.reduceAdd,Nat.reduceMul,↓reduceIte,↓dreduceIte,reduceCtorEq,Nat.reduceLeDiff,Nat.reduceLT,Nat.reduceSub,Int.reduceToNat,Int.reduceLE,Int.reduceLT, c_machine_Runner_move, olen, oadd, og0, os0, ogk, osk, ogn, osn, onx, rnc_length, r_pc, r_code, r_own, r_reg hj, r_reg hk, r_mem, cellT_U32, rs_reg hj, rs_mem, rs_own, one_imm, one_ref, Int.reduceEq, Int.reduceBEq, e1, hat, e2, h1']
        repeat (refine And.intro (by omega) ?_)
        refine clone_v mem (fun e => by subst e; simp at h1; omega) hl _ _ _ fun sm nx' => ?_
        simp only [go_sem,Nat.reduceEqDiff,Nat.reduceAdd,Nat.reduceMul,↓reduceIte,↓dreduceIte,reduceCtorEq,Nat.reduceLeDiff,Nat.reduceLT,Nat.reduceSub,Int.reduceToNat,Int.reduceLE,Int.reduceLT, olen, oadd, og0, os0, ogk, osk, ogn, osn, onx, rnc_length, r_pc, r_code, r_own, r_reg hj, r_reg hk, r_mem, cellT_U32, rs_reg hj, rs_mem, rs_own, one_imm, one_ref, Int.reduceEq, Int.reduceBEq, e1, hat, e2]
        repeat (refine And.intro (by first | omega | simp) ?_)
        have hcs : (mem.map U32).set at_.toNat (U32 (f a.toNat)) = (mem.set at_.toNat (f a.toNat)).map U32 := set_map U32 _ _ _
        rw [hcs]
        refine hC _ _ true _ (.inr ⟨rfl, T.length + 1, sm, ?_, ?_⟩) (fun _ _ h => h.add _) (Keep.add _)
        · simp
        · rw [List.getElem?_append_right (by omega)]; simp
      · have hT2 := hT' hT
        simp only [go_sem,Nat.reduceEqDiff,Nat.reduceAdd,Nat.reduceMul,↓reduceIte,↓dreduceIte,reduceCtorEq,Nat.reduceLeDiff,Nat.reduceLT,Nat.reduceSub,Int.reduceToNat,Int.reduceLE,Int.reduceLT, c_machine_Runner_move, olen, oadd, og0, os0, ogk, osk, ogn, osn, onx, rnc_length, r_pc, r_code, r_own, r_reg hj, r_reg hk, r_mem, cellT_U32, rs_reg hj, rs_mem, rs_own, one_imm, one_ref, Int.reduceEq, Int.reduceBEq, e1, hat, e2, hT2, h1']
        repeat (refine And.intro (by first | omega | simp) ?_)
        have hcs : (mem.map U32).set at_.toNat (U32 (f a.toNat)) = (mem.set at_.toNat (f a.toNat)).map U32 := set_map U32 _ _ _
        rw [hcs]
        have hkl := (List.getElem?_eq_some_iff.1 hT).1
        refine hC _ _ true _ (.inr ⟨rfl, k, sm, ?_, ?_⟩) (fun _ _ h => h.put hT _) (Keep.put hT (by show (1 : Nat) ≠ 0; omega) (.inl rfl) _)
        · simp
        · rw [List.getElem?_set, if_pos rfl, if_pos (by simp; omega)]
    · rw [if_neg h1] at hC
      have h1' := eq_true (show (mem.length : Int) ≤ at_ by omega)
      rcases hm with ⟨rfl, rfl⟩ | ⟨rfl, k, sm, rfl, hT⟩
      · simp only [go_sem,Nat.reduceEqDiff,Nat.reduceAdd,Nat.reduceMul,↓reduceIte,↓dreduceIte,reduceCtorEq,Nat.reduceLeDiff,Nat.reduceLT,Nat.reduceSub,Int.reduceToNat,Int.reduceLE,Int.reduceLT, c_machine_Runner_move, olen, oadd, og0, os0, ogk, osk, ogn, osn, onx, rnc_length, r_pc, r_code, r_own, r_reg hj, r_reg hk, r_mem, cellT_U32, rs_reg hj, rs_mem, rs_own, one_imm, one_ref, Int.reduceEq, Int.reduceBEq, e1, hat, e2, h1']
        repeat (refine And.intro (by omega) ?_)
        exact hC _ _ _ _ (.inl ⟨rfl, rfl⟩) (fun _ _ h => h.add _) (Keep.add _)
      · have hT2 := hT' hT
        simp only [go_sem,Nat.reduceEqDiff,Nat.reduceAdd,Nat.reduceMul,↓reduceIte,↓dreduceIte,reduceCtorEq,Nat.reduceLeDiff,Nat.reduceLT,Nat.reduceSub,Int.reduceToNat,Int.reduceLE,Int.reduceLT, c_machine_Runner_move, olen, oadd, og0, os0, ogk, osk, ogn, osn, onx, rnc_length, r_pc, r_code, r_own, r_reg hj, r_reg hk, r_mem, cellT_U32, rs_reg hj, rs_mem, rs_own, one_imm, one_ref, Int.reduceEq, Int.reduceBEq, e1, hat, e2, hT2, h1']
        repeat (refine And.intro (by first | omega | simp) ?_)
        exact hC _ _ _ _ (.inr ⟨rfl, k, sm, rfl, hT2 _⟩) (fun _ _ h => h.add _) (Keep.add _)
  · -- ldc
    have hins : insF code inp ⟨pc, f, mem, rd, outT, st, fin⟩ 27 a b c = if at_ < code.length then (0, setR ⟨pc, f, mem, rd, outT, st, fin⟩ a (code.getD at_.toNat default)) else (8, ⟨pc, f, mem, rd, outT, st, fin⟩) := by
      show (if atW ⟨pc, f, mem, rd, outT, st, fin⟩ b c < code.length then _ else _) = _
      rw [hatW]
    rw [hins] at hC
    have hmm : ∀ R, MemAt L (T ++ R) m own mem := fun R => hm.add R
    by_cases h1 : at_ < code.length
    · rw [if_pos h1] at hC
      have h1' := eq_false (show ¬ (code.length : Int) ≤ at_ by omega)
      simp only [go_sem,Nat.reduceEqDiff,Nat.reduceAdd,Nat.reduceMul,↓reduceIte,↓dreduceIte,reduceCtorEq,Nat.reduceLeDiff,Nat.reduceLT,Nat.reduceSub,Int.reduceToNat,Int.reduceLE,Int.reduceLT, c_machine_Runner_move, olen, oadd, og0, os0, ogk, osk, ogn, osn, onx, rnc_length, r_pc, r_code, r_own, r_reg hj, r_reg hk, r_mem, cellT_U32, rs_reg hj, rs_mem, rs_own, one_imm, one_ref, Int.reduceEq, Int.reduceBEq, e1, hat, e2, h1']
      repeat (refine And.intro (by omega) ?_)
      exact hC _ _ _ _ (hmm _) (fun _ _ h => h.add _) (Keep.add _)
    · rw [if_neg h1] at hC
      have h1' := eq_true (show (code.length : Int) ≤ at_ by omega)
      simp only [go_sem,Nat.reduceEqDiff,Nat.reduceAdd,Nat.reduceMul,↓reduceIte,↓dreduceIte,reduceCtorEq,Nat.reduceLeDiff,Nat.reduceLT,Nat.reduceSub,Int.reduceToNat,Int.reduceLE,Int.reduceLT, c_machine_Runner_move, olen, oadd, og0, os0, ogk, osk, ogn, osn, onx, rnc_length, r_pc, r_code, r_own, r_reg hj, r_reg hk, r_mem, cellT_U32, rs_reg hj, rs_mem, rs_own, one_imm, one_ref, Int.reduceEq, Int.reduceBEq, e1, hat, e2, h1']
      repeat (refine And.intro (by omega) ?_)
      exact hC _ _ _ _ (hmm _) (fun _ _ h => h.add _) (Keep.add _)
end
end Go.Proofs.Ytjoldjcfabbekaa
