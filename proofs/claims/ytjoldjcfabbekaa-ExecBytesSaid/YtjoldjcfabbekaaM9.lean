/-
  The machine's runner: contracts, part 1: jumps, the input. No condition.
-/
import Derived.Test.YtjoldjcfabbekaaM8
namespace Go.Proofs.Ytjoldjcfabbekaa
set_option linter.unusedSimpArgs false
set_option linter.unusedVariables false
set_option maxRecDepth 10000
open Go.V

section
variable {α : Type}
theorem og0 (L : List α) (o : α) (T : List α) : (L ++ o :: T)[L.length]? = some o := by simp
theorem os0 (L : List α) (o x : α) (T : List α) : (L ++ o :: T).set L.length x = L ++ x :: T := by
  rw [List.set_append_right _ _ (Nat.le_refl _)]; simp
theorem ogk (L : List α) (o : α) (T : List α) (k : Nat) : (L ++ o :: T)[L.length + (k + 1)]? = T[k]? := by
  rw [List.getElem?_append_right (by omega)]; simp
theorem osk (L : List α) (o x : α) (T : List α) (k : Nat) : (L ++ o :: T).set (L.length + (k + 1)) x = L ++ o :: T.set k x := by
  rw [List.set_append_right _ _ (by omega)]; simp
theorem ogn (T : List α) (x : α) (R : List α) : (T ++ x :: R)[T.length]? = some x := by simp
theorem osn (T : List α) (x y : α) (R : List α) : (T ++ x :: R).set T.length y = T ++ y :: R := by
  rw [List.set_append_right _ _ (Nat.le_refl _)]; simp
theorem oadd (L : List α) (o : α) (T : List α) (x : α) : (L ++ o :: T) ++ [x] = L ++ o :: (T ++ [x]) := by simp
theorem olen (L : List α) (o : α) (T : List α) : (L ++ o :: T).length = L.length + (T.length + 1) := by simp
theorem onx (T : List α) (x : α) : (T ++ [x]).length = T.length + 1 := by simp
end

def nxt (s : S) : Int := IntKind.i64.wrap (s.pc + 1)
def setR (s : S) (a v : Int) : S := { s with reg := updR s.reg a.toNat v, pc := nxt s }
def atW (s : S) (b c : Int) : Int := w32 (s.reg b.toNat + c)
def byteOf (r : Int) : UInt8 := UInt8.ofNat (IntKind.u8.wrap r).toNat
/-- What an instruction does: the end, or 0, and the state behind it. -/
def insF (code : List Int) (inp : ByteArray) (s : S) (op a b c : Int) : Int × S :=
  if op = 18 then (0, { s with pc := c })
  else if op = 19 then (0, { s with pc := if s.reg a.toNat = 0 then c else nxt s })
  else if op = 20 then (0, { s with pc := if s.reg a.toNat = 0 then nxt s else c })
  else if op = 21 then (0, { s with reg := updR s.reg a.toNat (w32 (nxt s)), pc := c })
  else if op = 22 then (0, { s with pc := s.reg a.toNat })
  else if op = 1 then (0, setR s a c)
  else if op = 2 then (0, setR s a (s.reg a.toNat % 65536 + c * 65536))
  else if op = 3 then (0, setR s a (s.reg b.toNat))
  else if op = 16 then (if atW s b c < s.mem.length then (0, setR s a (s.mem.getD (atW s b c).toNat default)) else (8, s))
  else if op = 17 then (if atW s b c < s.mem.length then (0, { s with mem := s.mem.set (atW s b c).toNat (s.reg a.toNat), pc := nxt s }) else (8, s))
  else if op = 27 then (if atW s b c < code.length then (0, setR s a (code.getD (atW s b c).toNat default)) else (8, s))
  else if op = 23 then (0, if s.rd < 0 ∨ (inp.size : Int) ≤ s.rd then setR s a 256 else setR { s with rd := IntKind.i64.wrap (s.rd + 1) } a (byteAt inp s.rd.toNat))
  else if op = 24 then (if 65536 ≤ s.out.size then (4, s) else (0, { s with out := s.out.push (byteOf (s.reg a.toNat)), pc := nxt s }))
  else if op = 25 then (if s.reg a.toNat < c then (0, { s with pc := nxt s }) else (3, s))
  else if op = 26 then (1, s)
  else if (applyW op (s.reg b.toNat) (s.reg c.toNat)).2 = 0 then (0, setR s a (applyW op (s.reg b.toNat) (s.reg c.toNat)).1) else (2, s)

section
variable (code : List Int) (inp : ByteArray) (pc : Int) (f : Nat → Int) (m : AV) (rd : Int) (out : ByteArray) (st fin : Int) (own : Bool) (more : AV) (L T : List VObj) (s nx : Nat)
abbrev rob (s : Nat) (cs : List AV) : VObj := ⟨s, 76, 1, cs⟩

theorem jump_v (op a b c : Int) (ho : op = 18 ∨ op = 19 ∨ op = 20 ∨ op = 21 ∨ op = 22) (ha : 0 ≤ a ∧ a ≤ 15) (hf : ∀ k, In32 (f k)) (C : AV → List VObj → Nat → Prop)
    (hC : ∀ r T' nx', C r (L ++ rob s (rnc (words code) inp (insF code inp ⟨pc, f, [], rd, out, st, fin⟩ op a b c).2.pc (insF code inp ⟨pc, f, [], rd, out, st, fin⟩ op a b c).2.reg m rd out st fin own more) :: (T ++ T')) nx') :
    VCall Try.prog 56 [.ptr L.length s 0, insA op a b c] (L ++ rob s (rnc (words code) inp pc f m rd out st fin own more) :: T) nx C := by
  refine VCall.of_body hmix f_machine_Runner_jump (by simp) ?_
  obtain ⟨ha1, ha2⟩ := ha
  have hj : a.toNat < 16 := by omega
  have hw : IntKind.i64.wrap (f a.toNat) = f a.toNat := by
    have := hf a.toNat
    exact i64_in (by have := this.1; omega) (by have := this.2; omega)
  rcases ho with rfl | rfl | rfl | rfl | rfl
  · simp only [go_sem,Nat.reduceEqDiff,Nat.reduceAdd,Nat.reduceMul,↓reduceIte,↓dreduceIte,reduceCtorEq,Nat.reduceLeDiff,Nat.reduceLT,Nat.reduceSub,Int.reduceToNat,Int.reduceLE,Int.reduceLT, c_machine_Runner_jump, olen, oadd, og0, os0, ogk, osk, ogn, osn, rnc_length, r_pc, r_reg hj, rs_pc, rs_reg hj, Int.reduceEq, Int.reduceBEq]
    repeat (refine And.intro (by omega) ?_)
    exact hC _ [_] _
  · by_cases h : f a.toNat = 0
    · simp only [go_sem,Nat.reduceEqDiff,Nat.reduceAdd,Nat.reduceMul,↓reduceIte,↓dreduceIte,reduceCtorEq,Nat.reduceLeDiff,Nat.reduceLT,Nat.reduceSub,Int.reduceToNat,Int.reduceLE,Int.reduceLT, c_machine_Runner_jump, olen, oadd, og0, os0, ogk, osk, ogn, osn, rnc_length, r_pc, r_reg hj, rs_pc, rs_reg hj, Int.reduceEq, Int.reduceBEq, eq_true h]
      repeat (refine And.intro (by omega) ?_)
      have := hC (AV.tup []) [⟨nx, 47, 1, [I 19, I a, I b, I c]⟩] (nx + 1)
      rw [show (insF code inp ⟨pc, f, [], rd, out, st, fin⟩ 19 a b c).2 = ⟨c, f, [], rd, out, st, fin⟩ by show (S.mk (if f a.toNat = 0 then c else _) f [] rd out st fin) = _; rw [if_pos h]] at this
      exact this
    · simp only [go_sem,Nat.reduceEqDiff,Nat.reduceAdd,Nat.reduceMul,↓reduceIte,↓dreduceIte,reduceCtorEq,Nat.reduceLeDiff,Nat.reduceLT,Nat.reduceSub,Int.reduceToNat,Int.reduceLE,Int.reduceLT, c_machine_Runner_jump, olen, oadd, og0, os0, ogk, osk, ogn, osn, rnc_length, r_pc, r_reg hj, rs_pc, rs_reg hj, Int.reduceEq, Int.reduceBEq, eq_false h]
      repeat (refine And.intro (by omega) ?_)
      have := hC (AV.tup []) [⟨nx, 47, 1, [I 19, I a, I b, I c]⟩] (nx + 1)
      rw [show (insF code inp ⟨pc, f, [], rd, out, st, fin⟩ 19 a b c).2 = ⟨IntKind.i64.wrap (pc + 1), f, [], rd, out, st, fin⟩ by show (S.mk (if f a.toNat = 0 then c else _) f [] rd out st fin) = _; rw [if_neg h]; rfl] at this
      exact this
  · by_cases h : f a.toNat = 0
    · simp only [go_sem,Nat.reduceEqDiff,Nat.reduceAdd,Nat.reduceMul,↓reduceIte,↓dreduceIte,reduceCtorEq,Nat.reduceLeDiff,Nat.reduceLT,Nat.reduceSub,Int.reduceToNat,Int.reduceLE,Int.reduceLT, c_machine_Runner_jump, olen, oadd, og0, os0, ogk, osk, ogn, osn, rnc_length, r_pc, r_reg hj, rs_pc, rs_reg hj, Int.reduceEq, Int.reduceBEq, eq_true h, not_true_eq_false]
      repeat (refine And.intro (by omega) ?_)
      have := hC (AV.tup []) [⟨nx, 47, 1, [I 20, I a, I b, I c]⟩] (nx + 1)
      rw [show (insF code inp ⟨pc, f, [], rd, out, st, fin⟩ 20 a b c).2 = ⟨IntKind.i64.wrap (pc + 1), f, [], rd, out, st, fin⟩ by show (S.mk (if f a.toNat = 0 then _ else c) f [] rd out st fin) = _; rw [if_pos h]; rfl] at this
      exact this
    · simp only [go_sem,Nat.reduceEqDiff,Nat.reduceAdd,Nat.reduceMul,↓reduceIte,↓dreduceIte,reduceCtorEq,Nat.reduceLeDiff,Nat.reduceLT,Nat.reduceSub,Int.reduceToNat,Int.reduceLE,Int.reduceLT, c_machine_Runner_jump, olen, oadd, og0, os0, ogk, osk, ogn, osn, rnc_length, r_pc, r_reg hj, rs_pc, rs_reg hj, Int.reduceEq, Int.reduceBEq, eq_false h, not_false_eq_true]
      repeat (refine And.intro (by omega) ?_)
      have := hC (AV.tup []) [⟨nx, 47, 1, [I 20, I a, I b, I c]⟩] (nx + 1)
      rw [show (insF code inp ⟨pc, f, [], rd, out, st, fin⟩ 20 a b c).2 = ⟨c, f, [], rd, out, st, fin⟩ by show (S.mk (if f a.toNat = 0 then _ else c) f [] rd out st fin) = _; rw [if_neg h]] at this
      exact this
  · simp only [go_sem,Nat.reduceEqDiff,Nat.reduceAdd,Nat.reduceMul,↓reduceIte,↓dreduceIte,reduceCtorEq,Nat.reduceLeDiff,Nat.reduceLT,Nat.reduceSub,Int.reduceToNat,Int.reduceLE,Int.reduceLT, c_machine_Runner_jump, olen, oadd, og0, os0, ogk, osk, ogn, osn, rnc_length, r_pc, r_reg hj, rs_pc, rs_reg hj, Int.reduceEq, Int.reduceBEq]
    repeat (refine And.intro (by omega) ?_)
    exact hC _ [_] _
  · simp only [go_sem,Nat.reduceEqDiff,Nat.reduceAdd,Nat.reduceMul,↓reduceIte,↓dreduceIte,reduceCtorEq,Nat.reduceLeDiff,Nat.reduceLT,Nat.reduceSub,Int.reduceToNat,Int.reduceLE,Int.reduceLT, c_machine_Runner_jump, olen, oadd, og0, os0, ogk, osk, ogn, osn, rnc_length, r_pc, r_reg hj, rs_pc, rs_reg hj, Int.reduceEq, Int.reduceBEq, hw]
    repeat (refine And.intro (by omega) ?_)
    have e1 : (insF code inp ⟨pc, f, [], rd, out, st, fin⟩ 22 a b c).2 = ⟨f a.toNat, f, [], rd, out, st, fin⟩ := rfl
    rw [e1] at hC
    exact hC _ [_] _

theorem get_v (a : Int) (ha : 0 ≤ a ∧ a ≤ 15) (hi : inp.size ≤ 1000000000) (C : AV → List VObj → Nat → Prop)
    (hC : ∀ r, C r (L ++ rob s (rnc (words code) inp pc (updR f a.toNat (if rd < 0 ∨ (inp.size : Int) ≤ rd then 256 else byteAt inp rd.toNat)) m (if rd < 0 ∨ (inp.size : Int) ≤ rd then rd else IntKind.i64.wrap (rd + 1)) out st fin own more) :: T) nx) :
    VCall Try.prog 58 [.ptr L.length s 0, I a] (L ++ rob s (rnc (words code) inp pc f m rd out st fin own more) :: T) nx C := by
  refine VCall.of_body hmix f_machine_Runner_get (by simp) ?_
  obtain ⟨ha1, ha2⟩ := ha
  have hj : a.toNat < 16 := by omega
  by_cases h1 : rd < 0
  · simp only [if_pos (show rd < 0 ∨ (inp.size : Int) ≤ rd from .inl h1)] at hC
    simp only [go_sem,Nat.reduceEqDiff,Nat.reduceAdd,Nat.reduceMul,↓reduceIte,↓dreduceIte,reduceCtorEq,Nat.reduceLeDiff,Nat.reduceLT,Nat.reduceSub,Int.reduceToNat,Int.reduceLE,Int.reduceLT, c_machine_Runner_get, olen, oadd, og0, os0, ogk, osk, ogn, osn, rnc_length, r_pc, r_reg hj, rs_pc, rs_reg hj, Int.reduceEq, Int.reduceBEq, r_inp, r_rd, rs_rd, eq_true h1]
    repeat (refine And.intro (by omega) ?_)
    exact hC _
  by_cases h2 : (inp.size : Int) ≤ rd
  · simp only [if_pos (show rd < 0 ∨ (inp.size : Int) ≤ rd from .inr h2)] at hC
    simp only [go_sem,Nat.reduceEqDiff,Nat.reduceAdd,Nat.reduceMul,↓reduceIte,↓dreduceIte,reduceCtorEq,Nat.reduceLeDiff,Nat.reduceLT,Nat.reduceSub,Int.reduceToNat,Int.reduceLE,Int.reduceLT, c_machine_Runner_get, olen, oadd, og0, os0, ogk, osk, ogn, osn, rnc_length, r_pc, r_reg hj, rs_pc, rs_reg hj, Int.reduceEq, Int.reduceBEq, r_inp, r_rd, rs_rd, eq_false h1, eq_true h2]
    repeat (refine And.intro (by omega) ?_)
    exact hC _
  · simp only [if_neg (show ¬ (rd < 0 ∨ (inp.size : Int) ≤ rd) from fun q => q.elim h1 h2)] at hC
    have hb : IntKind.u32.wrap (byteAt inp rd.toNat) = byteAt inp rd.toNat := by
      refine w32_in ⟨?_, ?_⟩ <;> unfold byteAt
      · omega
      · have := (inp.data.toList.getD rd.toNat 0).toNat_lt; omega
    simp only [go_sem,Nat.reduceEqDiff,Nat.reduceAdd,Nat.reduceMul,↓reduceIte,↓dreduceIte,reduceCtorEq,Nat.reduceLeDiff,Nat.reduceLT,Nat.reduceSub,Int.reduceToNat,Int.reduceLE,Int.reduceLT, c_machine_Runner_get, olen, oadd, og0, os0, ogk, osk, ogn, osn, rnc_length, r_pc, r_reg hj, rs_pc, rs_reg hj, Int.reduceEq, Int.reduceBEq, r_inp, r_rd, rs_rd, eq_false h1, eq_false h2, hb]
    repeat (refine And.intro (by omega) ?_)
    exact hC _
end
end Go.Proofs.Ytjoldjcfabbekaa
