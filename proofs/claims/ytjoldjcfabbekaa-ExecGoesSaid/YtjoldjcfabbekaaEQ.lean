/-
  exec: a question to run: its cells, what is read of them, what is little. No condition.
-/
import Derived.Test.YtjoldjcfabbekaaEO
namespace Go.Proofs.Ytjoldjcfabbekaa
set_option linter.unusedSimpArgs false
set_option linter.unusedVariables false
set_option maxRecDepth 10000
open Go.V Go.ChangeShapes Go.WideShapes Go.ChangeAt Go.RowKit

/-- A question's cells. -/
def askR (code : AV) (data : Int) (inp : ByteArray) (pc : Int) (f : Nat → Int) (m : AV) (rd : Int) (out : ByteArray) (st fin fuel : Int) : List AV := code :: I data :: strv inp :: (stc pc f m rd out st fin ++ [I fuel])
abbrev askQ (code : List Int) (data : Int) (inp : ByteArray) (s : S) (fuel : Int) : AV := .agg (askR (words code) data inp s.pc s.reg (words s.mem) s.rd s.out s.st s.fin fuel)
abbrev askqSh : Sh := .agg (.sl 1 4 wSh :: .int .i64 :: .str :: [.int .i64, wSh, wSh, wSh, wSh, wSh, wSh, wSh, wSh, wSh, wSh, wSh, wSh, wSh, wSh, wSh, wSh, .sl 1 4 wSh, .int .i64, .str, .int .i64, .int .i64, .int .i64])

section
variable {code : AV} {data : Int} {inp : ByteArray} {pc : Int} {f : Nat → Int} {m : AV} {rd : Int} {out : ByteArray} {st fin fuel : Int} {C : AV → Prop}
theorem askR_length : (askR code data inp pc f m rd out st fin fuel).length = 26 := rfl
theorem q_all : cellT (askR code data inp pc f m rd out st fin fuel) 0 true 26 C .mk = C (.agg (askR code data inp pc f m rd out st fin fuel)) := by
  simp only [cellT, cellW, partOK, partA]
  rw [askR_length]; simp
  rw [List.take_of_length_le (by rw [askR_length]; exact Nat.le_refl _)]
theorem q_im : cellT (askR code data inp pc f m rd out st fin fuel) 0 true 2 C .mk = C (.agg [code, I data]) := by
  have e : ((askR code data inp pc f m rd out st fin fuel).drop 0).take 2 = [code, I data] := rfl
  simp only [cellT, cellW, partOK, partA, askR_length, if_true, e]; simp
theorem q_inp : cellT (askR code data inp pc f m rd out st fin fuel) 2 false 1 C .mk = C (strv inp) := by
  have e : (askR code data inp pc f m rd out st fin fuel).getD 2 .dead = strv inp := rfl
  simp only [cellT, cellW, partOK, partA, askR_length, e]; simp [AV.one, Value.oneCell']
theorem q_st : cellT (askR code data inp pc f m rd out st fin fuel) 3 true 22 C .mk = C (.agg (stc pc f m rd out st fin)) := by
  have e : ((askR code data inp pc f m rd out st fin fuel).drop 3).take 22 = stc pc f m rd out st fin := by
    simp only [askR, List.drop_succ_cons, List.drop_zero]
    rw [List.take_append_of_le_length (by rw [stc_length]; exact Nat.le_refl _), List.take_of_length_le (by rw [stc_length]; exact Nat.le_refl _)]
  simp only [cellT, cellW, partOK, partA, askR_length, if_true, e]; simp
theorem q_fuel : cellT (askR code data inp pc f m rd out st fin fuel) 25 false 1 C .mk = C (I fuel) := by
  have e : (askR code data inp pc f m rd out st fin fuel).getD 25 .dead = I fuel := rfl
  simp only [cellT, cellW, partOK, partA, askR_length, e]; simp [AV.one, Value.oneCell']
theorem q_mem : cellT (askR code data inp pc f m rd out st fin fuel) 20 false 1 C .mk = (m.one = true ∧ C m) := by
  have e : (askR code data inp pc f m rd out st fin fuel).getD 20 .dead = m := rfl
  simp only [cellT, cellW, partOK, partA, askR_length, e]; simp
theorem q_out : cellT (askR code data inp pc f m rd out st fin fuel) 22 false 1 C .mk = C (strv out) := by
  have e : (askR code data inp pc f m rd out st fin fuel).getD 22 .dead = strv out := rfl
  simp only [cellT, cellW, partOK, partA, askR_length, e]; simp [AV.one, Value.oneCell']
theorem q_steps : cellT (askR code data inp pc f m rd out st fin fuel) 23 false 1 C .mk = C (I st) := by
  have e : (askR code data inp pc f m rd out st fin fuel).getD 23 .dead = I st := rfl
  simp only [cellT, cellW, partOK, partA, askR_length, e]; simp [AV.one, Value.oneCell']
theorem q_fin : cellT (askR code data inp pc f m rd out st fin fuel) 24 false 1 C .mk = C (I fin) := by
  have e : (askR code data inp pc f m rd out st fin fuel).getD 24 .dead = I fin := rfl
  simp only [cellT, cellW, partOK, partA, askR_length, e]; simp [AV.one, Value.oneCell']
theorem askR_all : (askR code data inp pc f m rd out st fin fuel).all AV.one = (code.one && m.one) := by
  simp only [askR, List.all_cons, List.all_append, stc_all]; simp [AV.one, Value.oneCell']
end

theorem fitL_app {ys : List AV} : ∀ {ss ts : List Sh}, Sh.fitL (ss ++ ts) ys → ∃ y1 y2, ys = y1 ++ y2 ∧ Sh.fitL ss y1 ∧ Sh.fitL ts y2 := by
  intro ss
  induction ss generalizing ys with
  | nil => intro ts h; exact ⟨[], ys, rfl, by simp only [Sh.fitL], h⟩
  | cons s ss ih =>
    intro ts h
    obtain ⟨y, ys', rfl, h1, h2⟩ := fitL_cons h
    obtain ⟨y1, y2, rfl, h3, h4⟩ := ih h2
    exact ⟨y :: y1, y2, rfl, by simp only [Sh.fitL]; exact ⟨_, _, rfl, h1, h3⟩, h4⟩

theorem askq_of {x : AV} (h : Sh.fit askqSh x) : ∃ code data inp s fuel, x = askQ code data inp s fuel ∧ Im code data ∧ StF s ∧ Int64 fuel := by
  simp only [askqSh, Sh.fit.eq_5] at h
  obtain ⟨ys, rfl, h⟩ := h
  obtain ⟨a, _, rfl, ha, hB⟩ := fitL_cons h
  obtain ⟨b, _, rfl, hb, hC⟩ := fitL_cons hB
  obtain ⟨c, ys, rfl, hc, hD⟩ := fitL_cons hC
  obtain ⟨l, rfl, h1, h2⟩ := fit_ws ha
  obtain ⟨n, rfl, h3⟩ := fit_int hb
  obtain ⟨inp, rfl⟩ := fit_str hc
  obtain ⟨y1, y2, rfl, hE, hF⟩ := fitL_app (ss := [.int .i64, wSh, wSh, wSh, wSh, wSh, wSh, wSh, wSh, wSh, wSh, wSh, wSh, wSh, wSh, wSh, wSh, .sl 1 4 wSh, .int .i64, .str, .int .i64, .int .i64]) (ts := [.int .i64]) hD
  obtain ⟨s, e, hs⟩ := st_of (x := .agg y1) (by simp only [stSh, Sh.fit.eq_5]; exact ⟨_, rfl, hE⟩)
  injection e with e
  subst e
  obtain ⟨d, _, rfl, hd, hG⟩ := fitL_cons hF
  have := fitL_nil hG
  subst this
  obtain ⟨k, rfl, h4⟩ := fit_int hd
  exact ⟨l, n, inp, s, k, rfl, ⟨h1, h2, h3⟩, hs, h4⟩

def littleB (code : List Int) (data : Int) (inp : ByteArray) (s : S) (fuel : Int) : Bool := fewB code data inp fuel && decide (s.mem.length ≤ 300) && decide (s.out.size ≤ 100) && decide (s.st < 1000000)
theorem littleB_iff {code : List Int} {data : Int} {inp : ByteArray} {s : S} {fuel : Int} : littleB code data inp s fuel = true ↔ (code.length ≤ 200 ∧ data ≤ 300 ∧ inp.size ≤ 100 ∧ fuel ≤ 500) ∧ s.mem.length ≤ 300 ∧ s.out.size ≤ 100 ∧ s.st < 1000000 := by
  rw [← fewB_iff]; simp [littleB, and_assoc]
theorem little_c (code : List Int) (data : Int) (inp : ByteArray) (s : S) (fuel : Int) : Contract Try.prog 18 [askQ code data inp s fuel] (fun r => r = B (littleB code data inp s fuel)) := by
  refine Contract.of_call (VCall.of_body hmix f_sclaw10_few (by simp) ?_)
  simp only [go_sem,Nat.reduceEqDiff,Nat.reduceAdd,Nat.reduceMul,↓reduceIte,↓dreduceIte,reduceCtorEq,Nat.reduceLeDiff,Nat.reduceLT,Nat.reduceSub,Int.reduceToNat,Int.reduceLE,Int.reduceLT, c_sclaw10_few, q_all, q_im, q_inp, q_st, q_fuel, q_mem, q_out, q_steps, askR_length, askR_all, s_all, s_zero, s_put, s_put', s_mem, s_out, s_st, stc_length, stc_all, one_imm]
  refine VCall.of_contract (few_c code data inp fuel) (SleL.pure rfl) fun x hx => ?_
  subst hx
  cases hf : fewB code data inp fuel
  · simp only [go_sem,Nat.reduceEqDiff,Nat.reduceAdd,Nat.reduceMul,↓reduceIte,↓dreduceIte,reduceCtorEq,Nat.reduceLeDiff,Nat.reduceLT,Nat.reduceSub,Int.reduceToNat,Int.reduceLE,Int.reduceLT, q_all, q_im, q_inp, q_st, q_fuel, q_mem, q_out, q_steps, askR_length, askR_all, s_all, s_zero, s_put, s_put', s_mem, s_out, s_st, stc_length, stc_all, one_imm]
    exact ⟨_, Frz.pure rfl, by simp [littleB, hf]⟩
  by_cases c1 : (s.mem.length : Int) ≤ 300
  · by_cases c2 : (s.out.size : Int) ≤ 100
    · simp only [go_sem,Nat.reduceEqDiff,Nat.reduceAdd,Nat.reduceMul,↓reduceIte,↓dreduceIte,reduceCtorEq,Nat.reduceLeDiff,Nat.reduceLT,Nat.reduceSub,Int.reduceToNat,Int.reduceLE,Int.reduceLT, eq_true c1, eq_true c2, q_all, q_im, q_inp, q_st, q_fuel, q_mem, q_out, q_steps, askR_length, askR_all, s_all, s_zero, s_put, s_put', s_mem, s_out, s_st, stc_length, stc_all, one_imm]
      refine ⟨_, Frz.pure rfl, ?_⟩
      simp [littleB, hf, show s.mem.length ≤ 300 by omega, show s.out.size ≤ 100 by omega]
    · simp only [go_sem,Nat.reduceEqDiff,Nat.reduceAdd,Nat.reduceMul,↓reduceIte,↓dreduceIte,reduceCtorEq,Nat.reduceLeDiff,Nat.reduceLT,Nat.reduceSub,Int.reduceToNat,Int.reduceLE,Int.reduceLT, eq_true c1, eq_false c2, q_all, q_im, q_inp, q_st, q_fuel, q_mem, q_out, q_steps, askR_length, askR_all, s_all, s_zero, s_put, s_put', s_mem, s_out, s_st, stc_length, stc_all, one_imm]
      refine ⟨_, Frz.pure rfl, ?_⟩
      simp [littleB, show ¬ s.out.size ≤ 100 by omega]
  · simp only [go_sem,Nat.reduceEqDiff,Nat.reduceAdd,Nat.reduceMul,↓reduceIte,↓dreduceIte,reduceCtorEq,Nat.reduceLeDiff,Nat.reduceLT,Nat.reduceSub,Int.reduceToNat,Int.reduceLE,Int.reduceLT, eq_false c1, q_all, q_im, q_inp, q_st, q_fuel, q_mem, q_out, q_steps, askR_length, askR_all, s_all, s_zero, s_put, s_put', s_mem, s_out, s_st, stc_length, stc_all, one_imm]
    refine ⟨_, Frz.pure rfl, ?_⟩
    simp [littleB, show ¬ s.mem.length ≤ 300 by omega]
end Go.Proofs.Ytjoldjcfabbekaa
