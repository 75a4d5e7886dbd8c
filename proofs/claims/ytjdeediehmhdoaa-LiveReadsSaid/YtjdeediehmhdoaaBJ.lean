/-
  The search's beginning in memory: what is gathered block by block. No condition.
-/
import Derived.Test.YtjdeediehmhdoaaBI
namespace Go.Proofs.Ytjdeediehmhdoaa
set_option linter.unusedSimpArgs false
set_option linter.unusedVariables false
set_option maxRecDepth 10000
open Go.V

def predJ (f : BF) (b j : Nat) (c : Nat) : List Nat :=
  ((List.range b).flatMap fun a => ((nxt (f.bk a)).filter fun k => decide (k.toNat = c)).map fun _ => a) ++ (((nxt (f.bk b)).take j).filter fun k => decide (k.toNat = c)).map fun _ => b
theorem predJ_zero (f : BF) (c : Nat) : predJ f 0 0 c = [] := rfl
theorem predJ_next (f : BF) (b c : Nat) : predJ f b (nxt (f.bk b)).length c = predJ f (b + 1) 0 c := by
  unfold predJ
  rw [List.take_length, List.range_succ, List.flatMap_append]
  simp
theorem predJ_all (f : BF) (c : Nat) : predJ f f.n 0 c = predL f c := by unfold predJ predL; simp
theorem predJ_step (f : BF) (b c : Nat) {j : Nat} (hj : j < (nxt (f.bk b)).length) : predJ f b (j + 1) c = if ((nxt (f.bk b)).getD j default).toNat = c then predJ f b j c ++ [b] else predJ f b j c := by
  unfold predJ
  have e : (nxt (f.bk b)).take (j + 1) = (nxt (f.bk b)).take j ++ [(nxt (f.bk b)).getD j default] := by rw [List.take_add_one]; simp [List.getD, List.getElem?_eq_getElem hj]
  rw [e, List.filter_append, List.map_append]
  generalize (nxt (f.bk b)).getD j default = k
  by_cases h : k.toNat = c
  · rw [if_pos h]; simp [h]
  · rw [if_neg h]; simp [h]
theorem predJ_len (f : BF) (b j c : Nat) : (predJ f b j c).length ≤ 2 * b + 2 := by
  unfold predJ
  rw [List.length_append, List.length_map]
  have h1 := flat_le (fun a => ((nxt (f.bk a)).filter fun k => decide (k.toNat = c)).map fun _ => a) (fun a => by rw [List.length_map]; exact Nat.le_trans (List.length_filter_le _ _) (nxt_len _)) (List.range b)
  have h2 : (((nxt (f.bk b)).take j).filter fun k => decide (k.toNat = c)).length ≤ 2 := Nat.le_trans (List.length_filter_le _ _) (Nat.le_trans (by simp [List.length_take]; omega) (nxt_len (f.bk b)))
  rw [List.length_range] at h1
  omega

structure BQ where
  b : Nat
  H : List VObj
  s6 : Nat
  s7 : Nat
  s8 : Nat
  s9 : Nat
  sp : Nat → Nat
  ri : Nat → Nat × Nat
  ro : Nat → Nat × Nat
  nx : Nat
abbrev ahC (n : Nat) (sp : Nat → Nat) (pl : Nat → List Nat) : List AV := (List.range n).map fun c => .ref (10 + c) (sp c) 0 (pl c).length
abbrev slB (f : BF) (ka kw b s6 s7 s8 s9 : Nat) : List AV := [nextA f, .ref ka ka 0 f.n, .ref 6 s6 0 b, .ref 7 s7 0 b, .ref 8 s8 0 b, .ref 9 s9 0 b, nilv, .ref kw kw 0 f.n]
structure SB (f : BF) (ka kw : Nat) (o0 o1 : VObj) (pl : Nat → List Nat) (x : BQ) : Prop where
  h0 : x.H[0]? = some o0
  h1 : x.H[1]? = some o1
  h2 : x.H[2]? = some ⟨2, 24, 1, bfL f⟩
  so : x.H[5]? = some ⟨5, 66, 1, slB f ka kw x.b x.s6 x.s7 x.s8 x.s9⟩
  ah : x.H[ka]? = some ⟨ka, 43, 1, ahC f.n x.sp pl⟩
  pr : ∀ c < f.n, x.H[10 + c]? = some ⟨x.sp c, 3, 1, natsL (pl c)⟩
  r6 : x.H[6]? = some ⟨x.s6, 70, 1, (f.bks.take x.b).map fun b => .imm 1 (rowC64 (readL b f.r))⟩
  r7 : x.H[7]? = some ⟨x.s7, 70, 1, (f.bks.take x.b).map fun b => .imm 1 (rowC64 (setL b f.r))⟩
  r8 : x.H[8]? = some ⟨x.s8, 70, 1, rowsL x.b f.r x.ri⟩
  r9 : x.H[9]? = some ⟨x.s9, 70, 1, rowsL x.b f.r x.ro⟩
  ri : ∀ c < x.b, x.H[(x.ri c).1]? = some ⟨(x.ri c).2, 88, 1, rowC64 (List.replicate f.r false)⟩
  ro : ∀ c < x.b, x.H[(x.ro c).1]? = some ⟨(x.ro c).2, 88, 1, rowC64 (List.replicate f.r false)⟩
  w : x.H[kw]? = some ⟨kw, 4, 1, (List.replicate f.n false).map B⟩
  dI : ∀ b < x.b, ∀ c < x.b, (x.ri b).1 = (x.ri c).1 → b = c
  dO : ∀ b < x.b, ∀ c < x.b, (x.ro b).1 = (x.ro c).1 → b = c
  dIO : ∀ b < x.b, ∀ c < x.b, (x.ri b).1 ≠ (x.ro c).1

theorem cellT_ah {n b : Nat} {sp : Nat → Nat} {pl : Nat → List Nat} {C : AV → Prop} : cellT (ahC n sp pl) b false 1 C .mk = (b < n ∧ C (.ref (10 + b) (sp b) 0 (pl b).length)) := by
  rw [cellT_map (fun _ => rfl)]
  apply propext
  rw [List.length_range]
  refine ⟨fun ⟨h1, h2⟩ => ⟨h1, ?_⟩, fun ⟨h1, h2⟩ => ⟨h1, ?_⟩⟩
  · rw [range_get h1] at h2; exact h2
  · rw [range_get h1]; exact h2
theorem ahC_set {n k s : Nat} {sp : Nat → Nat} {pl : Nat → List Nat} {m : Nat} (hk : k < n) (l : List Nat) (hm : m = l.length) : (ahC n sp pl).set k (.ref (10 + k) s 0 m) = ahC n (fun c => if c = k then s else sp c) (fun c => if c = k then l else pl c) := by
  subst hm
  refine List.ext_getElem (by simp) fun i h1 h2 => ?_
  rw [List.getElem_set]
  simp only [List.getElem_map, List.getElem_range]
  by_cases e : k = i
  · subst e; simp
  · have : ¬ i = k := fun h => e h.symm
    simp [e, this]

/-- One more that goes on to a block. -/
theorem SB.add {f : BF} {ka kw : Nat} {o0 o1 : VObj} {pl : Nat → List Nat} {x : BQ} (h : SB f ka kw o0 o1 pl x) (hka : ka = 3 ∨ ka = 4) (hkw : kw = 3 ∨ kw = 4) (hne : ka ≠ kw) (t0 : o0.ty = 24) (t1 : o1.ty = 29) {k : Nat} (hk : k < f.n) (l : List Nat) (s' : Nat) (tmp : VObj) (nx' : Nat) :
    SB f ka kw o0 o1 (fun c => if c = k then l else pl c) { x with H := ((x.H ++ [tmp]).set (10 + k) ⟨s', 3, 1, natsL l⟩).set ka ⟨ka, 43, 1, ahC f.n (fun c => if c = k then s' else x.sp c) (fun c => if c = k then l else pl c)⟩, sp := fun c => if c = k then s' else x.sp c, nx := nx' } := by
  have k1 : KeepT [3, 43] x.H (((x.H ++ [tmp]).set (10 + k) ⟨s', 3, 1, natsL l⟩).set ka ⟨ka, 43, 1, ahC f.n (fun c => if c = k then s' else x.sp c) (fun c => if c = k then l else pl c)⟩) :=
    ((KeepT.app _ _ _).trans (KeepT.set (app_old (h.pr k hk) _) (by simp))).trans (KeepT.set (ob := ⟨ka, 43, 1, ahC f.n x.sp pl⟩) (by rw [set_ne (by omega)]; exact app_old h.ah _) (by simp))
  refine ⟨k1 _ _ h.h0 (by rw [t0]; simp), k1 _ _ h.h1 (by rw [t1]; simp), k1 _ _ h.h2 (by simp), k1 _ _ h.so (by simp), ?_, fun c hc => ?_, k1 _ _ h.r6 (by simp), k1 _ _ h.r7 (by simp), k1 _ _ h.r8 (by simp), k1 _ _ h.r9 (by simp), fun c hc => k1 _ _ (h.ri c hc) (by simp), fun c hc => k1 _ _ (h.ro c hc) (by simp), k1 _ _ h.w (by simp), h.dI, h.dO, h.dIO⟩
  · exact set_get (a := ⟨ka, 43, 1, ahC f.n x.sp pl⟩) (by rw [set_ne (by omega)]; exact app_old h.ah _)
  · simp only
    rw [set_ne (by omega)]
    by_cases e : c = k
    · subst e
      rw [if_pos rfl, if_pos rfl]
      exact set_get (app_old (h.pr c hk) _)
    · rw [if_neg e, if_neg e, set_ne (by omega)]
      exact app_old (h.pr c hc) _
end Go.Proofs.Ytjdeediehmhdoaa
