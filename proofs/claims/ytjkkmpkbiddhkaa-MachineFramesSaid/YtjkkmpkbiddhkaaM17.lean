/-
  The machine: what is asked, as data; what is little. No condition.
-/
import Derived.Test.YtjkkmpkbiddhkaaM16
namespace Go.Proofs.Ytjkkmpkbiddhkaa
set_option linter.unusedSimpArgs false
set_option linter.unusedVariables false
set_option maxRecDepth 10000
open Go.V Go.ChangeShapes Go.WideShapes Go.ChangeAt Go.RowKit

/-- A question's cells. -/
def askC (code : AV) (data : Int) (inp : ByteArray) (pc : Int) (f : Nat → Int) (m : AV) (rd : Int) (out : ByteArray) (st fin : Int) : List AV := code :: I data :: strv inp :: stc pc f m rd out st fin
abbrev askA (code : List Int) (data : Int) (inp : ByteArray) (s : S) : AV := .agg (askC (words code) data inp s.pc s.reg (words s.mem) s.rd s.out s.st s.fin)
abbrev askSh : Sh := .agg (.sl 1 4 wSh :: .int .i64 :: .str :: [.int .i64, wSh, wSh, wSh, wSh, wSh, wSh, wSh, wSh, wSh, wSh, wSh, wSh, wSh, wSh, wSh, wSh, .sl 1 4 wSh, .int .i64, .str, .int .i64, .int .i64])

section
variable {code : AV} {data : Int} {inp : ByteArray} {pc : Int} {f : Nat → Int} {m : AV} {rd : Int} {out : ByteArray} {st fin : Int} {C : AV → Prop}
theorem askC_length : (askC code data inp pc f m rd out st fin).length = 25 := rfl
theorem a_im : cellT (askC code data inp pc f m rd out st fin) 0 true 2 C .mk = C (.agg [code, I data]) := by
  have e : ((askC code data inp pc f m rd out st fin).drop 0).take 2 = [code, I data] := rfl
  simp only [cellT, cellW, partOK, partA, askC_length, if_true, e]; simp
theorem a_inp : cellT (askC code data inp pc f m rd out st fin) 2 false 1 C .mk = C (strv inp) := by
  have e : (askC code data inp pc f m rd out st fin).getD 2 .dead = strv inp := rfl
  simp only [cellT, cellW, partOK, partA, askC_length, e]; simp [AV.one, Value.oneCell']
theorem a_st : cellT (askC code data inp pc f m rd out st fin) 3 true 22 C .mk = C (.agg (stc pc f m rd out st fin)) := by
  have e : ((askC code data inp pc f m rd out st fin).drop 3).take 22 = stc pc f m rd out st fin := rfl
  simp only [cellT, cellW, partOK, partA, askC_length, if_true, e]; simp
theorem a_fin : cellT (askC code data inp pc f m rd out st fin) 24 false 1 C .mk = C (I fin) := by
  have e : (askC code data inp pc f m rd out st fin).getD 24 .dead = I fin := rfl
  simp only [cellT, cellW, partOK, partA, askC_length, e]; simp [AV.one, Value.oneCell']
theorem askC_all : (askC code data inp pc f m rd out st fin).all AV.one = (code.one && m.one) := by
  simp only [askC, List.all_cons, stc_all]; simp [AV.one, Value.oneCell']
end

theorem fitL_cons {s : Sh} {ss : List Sh} {ys : List AV} (h : Sh.fitL (s :: ss) ys) : ∃ y ys', ys = y :: ys' ∧ s.fit y ∧ Sh.fitL ss ys' := by
  simpa only [Sh.fitL] using h

theorem ask_of {x : AV} (h : Sh.fit askSh x) : ∃ code data inp s, x = askA code data inp s ∧ Im code data ∧ StF s := by
  simp only [askSh, Sh.fit.eq_5] at h
  obtain ⟨ys, rfl, h⟩ := h
  obtain ⟨a, _, rfl, ha, hB⟩ := fitL_cons h
  obtain ⟨b, _, rfl, hb, hC⟩ := fitL_cons hB
  obtain ⟨c, ys, rfl, hc, hD⟩ := fitL_cons hC
  obtain ⟨l, rfl, h1, h2⟩ := fit_ws ha
  obtain ⟨n, rfl, h3⟩ := fit_int hb
  simp only [Sh.fit] at hc
  obtain ⟨inp, rfl, hc⟩ := hc
  obtain ⟨s, e, hs⟩ := st_of (x := .agg ys) (by simp only [stSh, Sh.fit.eq_5]; exact ⟨_, rfl, hD⟩)
  injection e with e
  subst e
  exact ⟨l, n, inp, s, rfl, ⟨h1, h2, h3⟩, hs⟩

def smallB (code : List Int) (inp : ByteArray) (s : S) : Bool := decide (code.length ≤ 200) && decide (inp.size ≤ 200) && decide (s.mem.length ≤ 200) && decide (s.out.size ≤ 70000) && decide (s.st < 4611686018427387904)
theorem smallB_iff {code : List Int} {inp : ByteArray} {s : S} : smallB code inp s = true ↔ code.length ≤ 200 ∧ inp.size ≤ 200 ∧ s.mem.length ≤ 200 ∧ s.out.size ≤ 70000 ∧ s.st < 4611686018427387904 := by
  simp [smallB, and_assoc]

theorem small_c (code : List Int) (data : Int) (inp : ByteArray) (s : S) : Contract Try.prog 14 [imgA code data, strv inp, stA s] (fun r => r = B (smallB code inp s)) := by
  refine Contract.of_call (VCall.of_body hmix f_sclaw09_small (by simp) ?_)
  simp only [go_sem,Nat.reduceEqDiff,Nat.reduceAdd,Nat.reduceMul,↓reduceIte,↓dreduceIte,reduceCtorEq,Nat.reduceLeDiff,Nat.reduceLT,Nat.reduceSub,Int.reduceToNat,Int.reduceLE,Int.reduceLT, c_sclaw09_small, s_pc, s_regs, s_mem, s_rd, s_out, s_st, s_fin, s_all, stc_length, stc_all, one_imm]
  refine ⟨fun c1 => ⟨fun c2 => ⟨fun c3 => ⟨fun c4 => ⟨_, Frz.pure rfl, ?_⟩, fun c4 => ⟨_, Frz.pure rfl, ?_⟩⟩, fun c3 => ⟨_, Frz.pure rfl, ?_⟩⟩, fun c2 => ⟨_, Frz.pure rfl, ?_⟩⟩, fun c1 => ⟨_, Frz.pure rfl, ?_⟩⟩
  · have e : smallB code inp s = decide (s.st < 4611686018427387904) := by
      rw [Bool.eq_iff_iff, smallB_iff, decide_eq_true_eq]; omega
    rw [e]
  all_goals
    have e : smallB code inp s = false := by
      rw [← Bool.not_eq_true, smallB_iff]; omega
    rw [e]
end Go.Proofs.Ytjkkmpkbiddhkaa
