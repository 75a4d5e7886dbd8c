/-
  The document's run in place: the cells of its work, what is read of them and written to them. No condition.
-/
import Derived.Test.YtjoldjcfabbekaaEO
import Derived.Test.YtjoldjcfabbekaaEF
namespace Go.Proofs.Ytjoldjcfabbekaa
set_option linter.unusedSimpArgs false
set_option linter.unusedVariables false
set_option maxRecDepth 10000
open Go.V

/-- The cells of the work. -/
def wkc (pc : Int) (f : Nat → Int) (m : AV) (rd : Int) (so : ByteArray) (st fin : Int) (o cd ok wd : AV) (inp : ByteArray) (ct : AV) : List AV :=
  I pc :: (regs f ++ [m, I rd, strv so, I st, I fin, o, cd, ok, wd, strv inp, ct])
section
variable {pc : Int} {f : Nat → Int} {m : AV} {rd : Int} {so : ByteArray} {st fin : Int} {o cd ok wd : AV} {inp : ByteArray} {ct : AV} {C : AV → Prop}
theorem wkc_length : (wkc pc f m rd so st fin o cd ok wd inp ct).length = 28 := rfl
theorem wkc_all : (wkc pc f m rd so st fin o cd ok wd inp ct).all AV.one = (m.one && o.one && cd.one && ok.one && wd.one && ct.one) := by
  simp [wkc, regs_all]; simp [AV.one, Value.oneCell', Bool.and_assoc]
theorem k_state : cellT (wkc pc f m rd so st fin o cd ok wd inp ct) 0 true 22 C .mk = C (.agg (stc pc f m rd so st fin)) := by
  have e : ((wkc pc f m rd so st fin o cd ok wd inp ct).drop 0).take 22 = stc pc f m rd so st fin := rfl
  simp only [cellT, cellW, partOK, partA, wkc_length, if_true, e]; simp
theorem k_all : cellT (wkc pc f m rd so st fin o cd ok wd inp ct) 0 true 28 C .mk = C (.agg (wkc pc f m rd so st fin o cd ok wd inp ct)) := by
  simp only [cellT, cellW, partOK, partA]
  rw [wkc_length]; simp
  rw [List.take_of_length_le (by rw [wkc_length]; exact Nat.le_refl _)]
theorem k_reg {j : Nat} (h : j < 16) : cellT (wkc pc f m rd so st fin o cd ok wd inp ct) (1 + j) false 1 C .mk = C (U32 (f j)) := by
  have e : (wkc pc f m rd so st fin o cd ok wd inp ct).getD (1 + j) .dead = U32 (f j) := by
    rw [← regs_get (f := f) h, wkc, Nat.add_comm, List.getD_cons_succ]
    simp only [List.getD, List.getElem?_append_left (show j < (regs f).length by rw [regs_length]; exact h)]
  simp only [cellT, cellW, partOK, partA, wkc_length, e]
  simp [AV.one, Value.oneCell']; omega
theorem ks_reg {j : Nat} {v : Int} (h : j < 16) : (wkc pc f m rd so st fin o cd ok wd inp ct).set (1 + j) (U32 v) = wkc pc (updR f j v) m rd so st fin o cd ok wd inp ct := by
  rw [wkc, Nat.add_comm, List.set_cons_succ, List.set_append_left _ _ (by rw [regs_length]; exact h), regs_set h]; rfl
theorem k_pc : cellT (wkc pc f m rd so st fin o cd ok wd inp ct) 0 false 1 C .mk = C (I pc) := by
  have e : (wkc pc f m rd so st fin o cd ok wd inp ct).getD 0 .dead = I pc := rfl
  simp only [cellT, cellW, partOK, partA, wkc_length, e]; simp [AV.one, Value.oneCell']
theorem ks_pc {x : Int} : (wkc pc f m rd so st fin o cd ok wd inp ct).set 0 (I x) = wkc x f m rd so st fin o cd ok wd inp ct := rfl
theorem k_mem : cellT (wkc pc f m rd so st fin o cd ok wd inp ct) 17 false 1 C .mk = (m.one = true ∧ C m) := by
  have e : (wkc pc f m rd so st fin o cd ok wd inp ct).getD 17 .dead = m := rfl
  simp only [cellT, cellW, partOK, partA, wkc_length, e]; simp
theorem ks_mem {x : AV} : (wkc pc f m rd so st fin o cd ok wd inp ct).set 17 x = wkc pc f x rd so st fin o cd ok wd inp ct := rfl
theorem k_rd : cellT (wkc pc f m rd so st fin o cd ok wd inp ct) 18 false 1 C .mk = C (I rd) := by
  have e : (wkc pc f m rd so st fin o cd ok wd inp ct).getD 18 .dead = I rd := rfl
  simp only [cellT, cellW, partOK, partA, wkc_length, e]; simp [AV.one, Value.oneCell']
theorem ks_rd {x : Int} : (wkc pc f m rd so st fin o cd ok wd inp ct).set 18 (I x) = wkc pc f m x so st fin o cd ok wd inp ct := rfl
theorem k_so : cellT (wkc pc f m rd so st fin o cd ok wd inp ct) 19 false 1 C .mk = C (strv so) := by
  have e : (wkc pc f m rd so st fin o cd ok wd inp ct).getD 19 .dead = strv so := rfl
  simp only [cellT, cellW, partOK, partA, wkc_length, e]; simp [AV.one, Value.oneCell']
theorem ks_so {x : ByteArray} : (wkc pc f m rd so st fin o cd ok wd inp ct).set 19 (strv x) = wkc pc f m rd x st fin o cd ok wd inp ct := rfl
theorem k_st : cellT (wkc pc f m rd so st fin o cd ok wd inp ct) 20 false 1 C .mk = C (I st) := by
  have e : (wkc pc f m rd so st fin o cd ok wd inp ct).getD 20 .dead = I st := rfl
  simp only [cellT, cellW, partOK, partA, wkc_length, e]; simp [AV.one, Value.oneCell']
theorem ks_st {x : Int} : (wkc pc f m rd so st fin o cd ok wd inp ct).set 20 (I x) = wkc pc f m rd so x fin o cd ok wd inp ct := rfl
theorem k_fin : cellT (wkc pc f m rd so st fin o cd ok wd inp ct) 21 false 1 C .mk = C (I fin) := by
  have e : (wkc pc f m rd so st fin o cd ok wd inp ct).getD 21 .dead = I fin := rfl
  simp only [cellT, cellW, partOK, partA, wkc_length, e]; simp [AV.one, Value.oneCell']
theorem ks_fin {x : Int} : (wkc pc f m rd so st fin o cd ok wd inp ct).set 21 (I x) = wkc pc f m rd so st x o cd ok wd inp ct := rfl
theorem k_o : cellT (wkc pc f m rd so st fin o cd ok wd inp ct) 22 false 1 C .mk = (o.one = true ∧ C o) := by
  have e : (wkc pc f m rd so st fin o cd ok wd inp ct).getD 22 .dead = o := rfl
  simp only [cellT, cellW, partOK, partA, wkc_length, e]; simp
theorem ks_o {x : AV} : (wkc pc f m rd so st fin o cd ok wd inp ct).set 22 x = wkc pc f m rd so st fin x cd ok wd inp ct := rfl
theorem k_cd : cellT (wkc pc f m rd so st fin o cd ok wd inp ct) 23 false 1 C .mk = (cd.one = true ∧ C cd) := by
  have e : (wkc pc f m rd so st fin o cd ok wd inp ct).getD 23 .dead = cd := rfl
  simp only [cellT, cellW, partOK, partA, wkc_length, e]; simp
theorem ks_cd {x : AV} : (wkc pc f m rd so st fin o cd ok wd inp ct).set 23 x = wkc pc f m rd so st fin o x ok wd inp ct := rfl
theorem k_ok : cellT (wkc pc f m rd so st fin o cd ok wd inp ct) 24 false 1 C .mk = (ok.one = true ∧ C ok) := by
  have e : (wkc pc f m rd so st fin o cd ok wd inp ct).getD 24 .dead = ok := rfl
  simp only [cellT, cellW, partOK, partA, wkc_length, e]; simp
theorem ks_ok {x : AV} : (wkc pc f m rd so st fin o cd ok wd inp ct).set 24 x = wkc pc f m rd so st fin o cd x wd inp ct := rfl
theorem k_wd : cellT (wkc pc f m rd so st fin o cd ok wd inp ct) 25 false 1 C .mk = (wd.one = true ∧ C wd) := by
  have e : (wkc pc f m rd so st fin o cd ok wd inp ct).getD 25 .dead = wd := rfl
  simp only [cellT, cellW, partOK, partA, wkc_length, e]; simp
theorem ks_wd {x : AV} : (wkc pc f m rd so st fin o cd ok wd inp ct).set 25 x = wkc pc f m rd so st fin o cd ok x inp ct := rfl
theorem k_in : cellT (wkc pc f m rd so st fin o cd ok wd inp ct) 26 false 1 C .mk = C (strv inp) := by
  have e : (wkc pc f m rd so st fin o cd ok wd inp ct).getD 26 .dead = strv inp := rfl
  simp only [cellT, cellW, partOK, partA, wkc_length, e]; simp [AV.one, Value.oneCell']
theorem k_ct : cellT (wkc pc f m rd so st fin o cd ok wd inp ct) 27 false 1 C .mk = (ct.one = true ∧ C ct) := by
  have e : (wkc pc f m rd so st fin o cd ok wd inp ct).getD 27 .dead = ct := rfl
  simp only [cellT, cellW, partOK, partA, wkc_length, e]; simp
theorem ks_ct {x : AV} : (wkc pc f m rd so st fin o cd ok wd inp ct).set 27 x = wkc pc f m rd so st fin o cd ok wd inp x := rfl
theorem k_new : ([.val (.int .i64 0), .val (.int .u32 0), .val (.int .u32 0), .val (.int .u32 0), .val (.int .u32 0), .val (.int .u32 0), .val (.int .u32 0), .val (.int .u32 0), .val (.int .u32 0), .val (.int .u32 0), .val (.int .u32 0), .val (.int .u32 0), .val (.int .u32 0), .val (.int .u32 0), .val (.int .u32 0), .val (.int .u32 0), .val (.int .u32 0), .val (.slice none 0 0), .val (.int .i64 0), .val (.string ⟨#[]⟩), .val (.int .i64 0), .val (.int .i64 0), .val (.slice none 0 0), .val (.slice none 0 0), .val (.slice none 0 0), .val (.slice none 0 0), .val (.string ⟨#[]⟩), .val (.slice none 0 0)] : List AV)
    = wkc 0 (fun _ => 0) nilv 0 ⟨#[]⟩ 0 0 nilv nilv nilv nilv ⟨#[]⟩ nilv := rfl
end
end Go.Proofs.Ytjoldjcfabbekaa
