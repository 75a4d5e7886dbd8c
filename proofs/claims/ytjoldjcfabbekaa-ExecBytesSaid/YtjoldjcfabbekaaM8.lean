/-
  The machine's states as data: their cells, what is read of them and written to them. No condition.
-/
import Derived.Test.YtjoldjcfabbekaaM7
namespace Go.Proofs.Ytjoldjcfabbekaa
set_option linter.unusedSimpArgs false
set_option linter.unusedVariables false
set_option maxRecDepth 10000
open Go.V

abbrev words (l : List Int) : AV := .imm 1 (l.map U32)
def regs (f : Nat → Int) : List AV := (List.range 16).map fun k => U32 (f k)
/-- A state's cells. -/
def stc (pc : Int) (f : Nat → Int) (m : AV) (rd : Int) (out : ByteArray) (st fin : Int) : List AV := I pc :: (regs f ++ [m, I rd, strv out, I st, I fin])
/-- A runner's. -/
def rnc (code : AV) (inp : ByteArray) (pc : Int) (f : Nat → Int) (m : AV) (rd : Int) (out : ByteArray) (st fin : Int) (own : Bool) (more : AV) : List AV :=
  code :: strv inp :: I pc :: (regs f ++ [m, I rd, strv out, I st, I fin, B own, more])
/-- A register's new value. -/
def updR (f : Nat → Int) (j : Nat) (v : Int) : Nat → Int := fun k => if k = j then v else f k

theorem regs_length (f : Nat → Int) : (regs f).length = 16 := rfl
theorem regs_all (f : Nat → Int) : (regs f).all AV.one = true := rfl
theorem regs_get {f : Nat → Int} {j : Nat} (h : j < 16) : (regs f).getD j .dead = U32 (f j) := by
  simp [regs, List.getD, h]
theorem regs_set {f : Nat → Int} {j : Nat} {v : Int} (h : j < 16) : (regs f).set j (U32 v) = regs (updR f j v) := by
  refine List.ext_getElem (by simp [regs]) fun i h1 h2 => ?_
  rw [List.getElem_set]
  simp only [regs, List.getElem_map, List.getElem_range, updR]
  by_cases e : j = i
  · subst e; simp
  · rw [if_neg e, if_neg (fun h => e h.symm)]

theorem one_imm {sz : Nat} {xs : List AV} : (AV.imm sz xs).one = true := rfl
theorem one_ref {id s off len : Nat} : (AV.ref id s off len).one = true := rfl

section
variable {pc : Int} {f : Nat → Int} {m : AV} {rd : Int} {out : ByteArray} {st fin : Int} {C : AV → Prop}
theorem stc_length : (stc pc f m rd out st fin).length = 22 := rfl
theorem stc_all : (stc pc f m rd out st fin).all AV.one = m.one := by
  simp [stc, regs_all]; simp [AV.one, Value.oneCell']
theorem s_all : cellT (stc pc f m rd out st fin) 0 true 22 C .mk = C (.agg (stc pc f m rd out st fin)) := by
  simp only [cellT, cellW, partOK, partA]
  rw [stc_length]; simp
  rw [List.take_of_length_le (by rw [stc_length]; exact Nat.le_refl _)]
theorem s_pc : cellT (stc pc f m rd out st fin) 0 false 1 C .mk = C (I pc) := by
  simp only [cellT, cellW, partOK, partA, stc_length]; simp [stc, AV.one, Value.oneCell']
theorem s_regs : cellT (stc pc f m rd out st fin) 1 true 16 C .mk = C (.agg (regs f)) := by
  simp only [cellT, cellW, partOK, partA, stc_length]
  simp only [stc, if_true, List.drop_succ_cons, List.drop_zero]
  rw [List.take_append_of_le_length (by rw [regs_length]; exact Nat.le_refl _), List.take_of_length_le (by rw [regs_length]; exact Nat.le_refl _)]
  simp
theorem s_reg {j : Nat} (h : j < 16) : cellT (stc pc f m rd out st fin) (1 + j) false 1 C .mk = C (U32 (f j)) := by
  have e : (stc pc f m rd out st fin).getD (1 + j) .dead = U32 (f j) := by
    rw [← regs_get (f := f) h, stc, Nat.add_comm, List.getD_cons_succ]
    simp only [List.getD, List.getElem?_append_left (show j < (regs f).length by rw [regs_length]; exact h)]
  simp only [cellT, cellW, partOK, partA, stc_length, e]
  simp [AV.one, Value.oneCell']; omega
theorem s_mem : cellT (stc pc f m rd out st fin) 17 false 1 C .mk = (m.one = true ∧ C m) := by
  have e : (stc pc f m rd out st fin).getD 17 .dead = m := rfl
  simp only [cellT, cellW, partOK, partA, stc_length, e]; simp
theorem s_rd : cellT (stc pc f m rd out st fin) 18 false 1 C .mk = C (I rd) := by
  have e : (stc pc f m rd out st fin).getD 18 .dead = I rd := rfl
  simp only [cellT, cellW, partOK, partA, stc_length, e]; simp [AV.one, Value.oneCell']
theorem s_out : cellT (stc pc f m rd out st fin) 19 false 1 C .mk = C (strv out) := by
  have e : (stc pc f m rd out st fin).getD 19 .dead = strv out := rfl
  simp only [cellT, cellW, partOK, partA, stc_length, e]; simp [AV.one, Value.oneCell']
theorem s_st : cellT (stc pc f m rd out st fin) 20 false 1 C .mk = C (I st) := by
  have e : (stc pc f m rd out st fin).getD 20 .dead = I st := rfl
  simp only [cellT, cellW, partOK, partA, stc_length, e]; simp [AV.one, Value.oneCell']
theorem s_fin : cellT (stc pc f m rd out st fin) 21 false 1 C .mk = C (I fin) := by
  have e : (stc pc f m rd out st fin).getD 21 .dead = I fin := rfl
  simp only [cellT, cellW, partOK, partA, stc_length, e]; simp [AV.one, Value.oneCell']
theorem ss_pc {x : Int} : (stc pc f m rd out st fin).set 0 (I x) = stc x f m rd out st fin := rfl
theorem ss_reg {j : Nat} {v : Int} (h : j < 16) : (stc pc f m rd out st fin).set (1 + j) (U32 v) = stc pc (updR f j v) m rd out st fin := by
  rw [stc, Nat.add_comm, List.set_cons_succ, List.set_append_left _ _ (by rw [regs_length]; exact h), regs_set h]; rfl
theorem ss_mem {x : AV} : (stc pc f m rd out st fin).set 17 x = stc pc f x rd out st fin := rfl
theorem ss_rd {x : Int} : (stc pc f m rd out st fin).set 18 (I x) = stc pc f m x out st fin := rfl
theorem ss_out {x : ByteArray} : (stc pc f m rd out st fin).set 19 (strv x) = stc pc f m rd x st fin := rfl
theorem ss_st {x : Int} : (stc pc f m rd out st fin).set 20 (I x) = stc pc f m rd out x fin := rfl
theorem ss_fin {x : Int} : (stc pc f m rd out st fin).set 21 (I x) = stc pc f m rd out st x := rfl
theorem s_zero : ([.val (.int .i64 0), .val (.int .u32 0), .val (.int .u32 0), .val (.int .u32 0), .val (.int .u32 0), .val (.int .u32 0), .val (.int .u32 0), .val (.int .u32 0), .val (.int .u32 0), .val (.int .u32 0), .val (.int .u32 0), .val (.int .u32 0), .val (.int .u32 0), .val (.int .u32 0), .val (.int .u32 0), .val (.int .u32 0), .val (.int .u32 0), .val (.slice none 0 0), .val (.int .i64 0), .val (.string ⟨#[]⟩), .val (.int .i64 0), .val (.int .i64 0)] : List AV)
    = stc 0 (fun _ => 0) nilv 0 ⟨#[]⟩ 0 0 := rfl
theorem s_put {pc' : Int} {f' : Nat → Int} {m' : AV} {rd' : Int} {out' : ByteArray} {st' fin' : Int} : (stc pc f m rd out st fin).take 0 ++ stc pc' f' m' rd' out' st' fin' ++ (stc pc f m rd out st fin).drop (0 + 22) = stc pc' f' m' rd' out' st' fin' := by
  rw [List.drop_eq_nil_of_le (by rw [stc_length]; exact Nat.le_refl _)]; simp
theorem s_put' {pc' : Int} {f' : Nat → Int} {m' : AV} {rd' : Int} {out' : ByteArray} {st' fin' : Int} : stc pc' f' m' rd' out' st' fin' ++ (stc pc f m rd out st fin).drop 22 = stc pc' f' m' rd' out' st' fin' := by
  rw [List.drop_eq_nil_of_le (by rw [stc_length]; exact Nat.le_refl _)]; simp

variable {code : AV} {inp : ByteArray} {own : Bool} {more : AV}
theorem rnc_length : (rnc code inp pc f m rd out st fin own more).length = 26 := rfl
theorem r_code : cellT (rnc code inp pc f m rd out st fin own more) 0 false 1 C .mk = (code.one = true ∧ C code) := by
  have e : (rnc code inp pc f m rd out st fin own more).getD 0 .dead = code := rfl
  simp only [cellT, cellW, partOK, partA, rnc_length, e]; simp
theorem r_inp : cellT (rnc code inp pc f m rd out st fin own more) 1 false 1 C .mk = C (strv inp) := by
  have e : (rnc code inp pc f m rd out st fin own more).getD 1 .dead = strv inp := rfl
  simp only [cellT, cellW, partOK, partA, rnc_length, e]; simp [AV.one, Value.oneCell']
theorem r_st_ : cellT (rnc code inp pc f m rd out st fin own more) 2 true 22 C .mk = C (.agg (stc pc f m rd out st fin)) := by
  have e : ((rnc code inp pc f m rd out st fin own more).drop 2).take 22 = stc pc f m rd out st fin := rfl
  simp only [cellT, cellW, partOK, partA, rnc_length, if_true, e]; simp
theorem r_pc : cellT (rnc code inp pc f m rd out st fin own more) 2 false 1 C .mk = C (I pc) := by
  have e : (rnc code inp pc f m rd out st fin own more).getD 2 .dead = I pc := rfl
  simp only [cellT, cellW, partOK, partA, rnc_length, e]; simp [AV.one, Value.oneCell']
theorem r_reg {j : Nat} (h : j < 16) : cellT (rnc code inp pc f m rd out st fin own more) (3 + j) false 1 C .mk = C (U32 (f j)) := by
  have e : (rnc code inp pc f m rd out st fin own more).getD (3 + j) .dead = U32 (f j) := by
    rw [← regs_get (f := f) h, rnc, Nat.add_comm, List.getD_cons_succ, List.getD_cons_succ, List.getD_cons_succ]
    simp only [List.getD, List.getElem?_append_left (show j < (regs f).length by rw [regs_length]; exact h)]
  simp only [cellT, cellW, partOK, partA, rnc_length, e]
  simp [AV.one, Value.oneCell']; omega
theorem r_mem : cellT (rnc code inp pc f m rd out st fin own more) 19 false 1 C .mk = (m.one = true ∧ C m) := by
  have e : (rnc code inp pc f m rd out st fin own more).getD 19 .dead = m := rfl
  simp only [cellT, cellW, partOK, partA, rnc_length, e]; simp
theorem r_rd : cellT (rnc code inp pc f m rd out st fin own more) 20 false 1 C .mk = C (I rd) := by
  have e : (rnc code inp pc f m rd out st fin own more).getD 20 .dead = I rd := rfl
  simp only [cellT, cellW, partOK, partA, rnc_length, e]; simp [AV.one, Value.oneCell']
theorem r_out : cellT (rnc code inp pc f m rd out st fin own more) 21 false 1 C .mk = C (strv out) := by
  have e : (rnc code inp pc f m rd out st fin own more).getD 21 .dead = strv out := rfl
  simp only [cellT, cellW, partOK, partA, rnc_length, e]; simp [AV.one, Value.oneCell']
theorem r_st : cellT (rnc code inp pc f m rd out st fin own more) 22 false 1 C .mk = C (I st) := by
  have e : (rnc code inp pc f m rd out st fin own more).getD 22 .dead = I st := rfl
  simp only [cellT, cellW, partOK, partA, rnc_length, e]; simp [AV.one, Value.oneCell']
theorem r_fin : cellT (rnc code inp pc f m rd out st fin own more) 23 false 1 C .mk = C (I fin) := by
  have e : (rnc code inp pc f m rd out st fin own more).getD 23 .dead = I fin := rfl
  simp only [cellT, cellW, partOK, partA, rnc_length, e]; simp [AV.one, Value.oneCell']
theorem r_own : cellT (rnc code inp pc f m rd out st fin own more) 24 false 1 C .mk = C (B own) := by
  have e : (rnc code inp pc f m rd out st fin own more).getD 24 .dead = B own := rfl
  simp only [cellT, cellW, partOK, partA, rnc_length, e]; simp [AV.one, Value.oneCell']
theorem r_more : cellT (rnc code inp pc f m rd out st fin own more) 25 false 1 C .mk = (more.one = true ∧ C more) := by
  have e : (rnc code inp pc f m rd out st fin own more).getD 25 .dead = more := rfl
  simp only [cellT, cellW, partOK, partA, rnc_length, e]; simp
theorem rs_pc {x : Int} : (rnc code inp pc f m rd out st fin own more).set 2 (I x) = rnc code inp x f m rd out st fin own more := rfl
theorem rs_reg {j : Nat} {v : Int} (h : j < 16) : (rnc code inp pc f m rd out st fin own more).set (3 + j) (U32 v) = rnc code inp pc (updR f j v) m rd out st fin own more := by
  rw [rnc, Nat.add_comm, List.set_cons_succ, List.set_cons_succ, List.set_cons_succ, List.set_append_left _ _ (by rw [regs_length]; exact h), regs_set h]; rfl
theorem rs_mem {x : AV} : (rnc code inp pc f m rd out st fin own more).set 19 x = rnc code inp pc f x rd out st fin own more := rfl
theorem rs_rd {x : Int} : (rnc code inp pc f m rd out st fin own more).set 20 (I x) = rnc code inp pc f m x out st fin own more := rfl
theorem rs_out {x : ByteArray} : (rnc code inp pc f m rd out st fin own more).set 21 (strv x) = rnc code inp pc f m rd x st fin own more := rfl
theorem rs_st {x : Int} : (rnc code inp pc f m rd out st fin own more).set 22 (I x) = rnc code inp pc f m rd out x fin own more := rfl
theorem rs_fin {x : Int} : (rnc code inp pc f m rd out st fin own more).set 23 (I x) = rnc code inp pc f m rd out st x own more := rfl
theorem rs_own {x : Bool} : (rnc code inp pc f m rd out st fin own more).set 24 (B x) = rnc code inp pc f m rd out st fin x more := rfl
theorem rs_more {x : AV} : (rnc code inp pc f m rd out st fin own more).set 25 x = rnc code inp pc f m rd out st fin own x := rfl
theorem r_new : (([.val (.slice none 0 0), .val (.string ⟨#[]⟩), .val (.int .i64 0), .val (.int .u32 0), .val (.int .u32 0), .val (.int .u32 0), .val (.int .u32 0), .val (.int .u32 0), .val (.int .u32 0), .val (.int .u32 0), .val (.int .u32 0), .val (.int .u32 0), .val (.int .u32 0), .val (.int .u32 0), .val (.int .u32 0), .val (.int .u32 0), .val (.int .u32 0), .val (.int .u32 0), .val (.int .u32 0), .val (.slice none 0 0), .val (.int .i64 0), .val (.string ⟨#[]⟩), .val (.int .i64 0), .val (.int .i64 0), .val (.bool false), .val (.slice none 0 0)] : List AV))
    = rnc nilv ⟨#[]⟩ 0 (fun _ => 0) nilv 0 ⟨#[]⟩ 0 0 false nilv := rfl
end

/-- A state. -/
structure S where
  pc : Int
  reg : Nat → Int
  mem : List Int
  rd : Int
  out : ByteArray
  st : Int
  fin : Int
abbrev stA (s : S) : AV := .agg (stc s.pc s.reg (words s.mem) s.rd s.out s.st s.fin)
theorem stA_frz {n : Nat} {H : List VObj} {nx : Nat} {s : S} : Frz n H nx (stA s) (stA s) := Frz.pure rfl
theorem stA_frz' {n : Nat} {H : List VObj} {nx : Nat} {pc : Int} {f : Nat → Int} {m : AV} {mem : List Int} {rd : Int} {out : ByteArray} {st fin : Int} (h : Frz n H nx m (words mem)) : Frz n H nx (.agg (stc pc f m rd out st fin)) (stA ⟨pc, f, mem, rd, out, st, fin⟩) := by
  refine Frz.agg ?_
  refine ⟨_, _, rfl, Frz.pure rfl, ?_⟩
  have app : ∀ {xs ys xs' ys' : List AV}, FrzL n H nx xs xs' → FrzL n H nx ys ys' → FrzL n H nx (xs ++ ys) (xs' ++ ys') := fun {xs ys xs' ys'} h1 h2 => by
    induction xs generalizing xs' with
    | nil => simp only [FrzL] at h1; subst h1; exact h2
    | cons x xs ih =>
      obtain ⟨y, ys2, rfl, h3, h4⟩ := h1
      exact ⟨y, _, rfl, h3, ih h4⟩
  refine app (FrzL.pure rfl) ⟨_, _, rfl, h, FrzL.pure rfl⟩
end Go.Proofs.Ytjoldjcfabbekaa
