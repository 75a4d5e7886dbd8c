/-
  The document's stack machine: its run. No condition.
-/
import Derived.Test.YtdfdkoajphcjbaaS9
namespace Go.Proofs.Ytdfdkoajphcjbaa
set_option linter.unusedSimpArgs false
set_option linter.unusedVariables false
set_option maxRecDepth 10000
open Go.V

structure SQR where
  e : Bool
  k : Nat
  sc : Nat
  v : AV
  bvs : List AV
  junk : List AV
  vo : AV
  T : List VObj
  nx : Nat
  memO : VObj
  co : VObj
  c3 : AV
  m4 : AV
  cr : AV
  fin : Int
  steps : Nat
  out : List UInt8

def invR (s : SP) (inp : ByteArray) (fuel : Int) (q : SQR) : Prop :=
  if q.e = true then q.fin ≠ 0 ∧ PO q.T q.vo q.out ∧ resS (runS s inp (startS s) fuel.toNat) = .agg [I q.fin, strv ⟨q.out.toArray⟩, I q.steps]
  else q.k ≤ fuel.toNat ∧ (runS s inp (startS s) q.k).fin = 0 ∧ PW q.T q.v (runS s inp (startS s) q.k).top.L ∧ FA q.T (runS s inp (startS s) q.k).below q.bvs ∧ (∀ u ∈ q.bvs, idOf u = none ∨ idOf u ≠ idOf q.v) ∧ PO q.T q.vo (runS s inp (startS s) q.k).out
section
variable {s : SP} {inp : ByteArray} {fuel : Int} {k : Nat} {sc : Nat} {v : AV} {bvs junk : List AV} {vo : AV} {T : List VObj} {nx : Nat} {memO co : VObj} {c3 m4 cr : AV} {fin : Int} {steps : Nat} {out : List UInt8}
theorem invR_t : invR s inp fuel ⟨true, k, sc, v, bvs, junk, vo, T, nx, memO, co, c3, m4, cr, fin, steps, out⟩ ↔ fin ≠ 0 ∧ PO T vo out ∧ resS (runS s inp (startS s) fuel.toNat) = .agg [I fin, strv ⟨out.toArray⟩, I steps] := by
  unfold invR; simp
theorem invR_f : invR s inp fuel ⟨false, k, sc, v, bvs, junk, vo, T, nx, memO, co, c3, m4, cr, fin, steps, out⟩ ↔ k ≤ fuel.toNat ∧ (runS s inp (startS s) k).fin = 0 ∧ PW T v (runS s inp (startS s) k).top.L ∧ FA T (runS s inp (startS s) k).below bvs ∧ (∀ u ∈ bvs, idOf u = none ∨ idOf u ≠ idOf v) ∧ PO T vo (runS s inp (startS s) k).out := by
  unfold invR; simp
end

theorem refrunS_c (s : SP) (inp : ByteArray) (fuel : Int) (hP : FitP s) (hfu : fuel ≤ 60000) (hi : inp.size ≤ 1000000000)
    (hg : ∀ k, k < fuel.toNat → (runS s inp (startS s) k).fin = 0 → Good s (runS s inp (startS s) k)) :
    Contract Try.prog 13 [spA s, strv inp, I fuel] (fun r => r = resS (runS s inp (startS s) fuel.toNat)) := by
  refine Contract.of_call (VCall.of_body hmix f_scref20_Run (by simp) ?_)
  have hP' := hP
  obtain ⟨p1, p2, p3, p4, p5, p6⟩ := hP'
  have hlen : 1 ≤ s.funcs.length := by
    cases hf : s.funcs with
    | nil => exact absurd hf p5
    | cons a l => simp
  have e0 : IntKind.i64.wrap ((s.funcs.length : Int) - 1) = ((s.funcs.length - 1 : Nat) : Int) := by rw [i64_in (by omega) (by omega)]; omega
  have hwf : ∀ k, k ≤ fuel.toNat → WfS (runS s inp (startS s) k) ∧ (runS s inp (startS s) k).mem.length = s.words.toNat := by
    intro k hk
    induction k with
    | zero => exact ⟨startS_wf s, by simp [runS, startS]⟩
    | succ k ih =>
      obtain ⟨h1, h2⟩ := ih (by omega)
      by_cases h0 : (runS s inp (startS s) k).fin = 0
      · obtain ⟨g1, g2, _⟩ := stepS_wf (inp := inp) p1 h1 (hg k (by omega) h0)
        exact ⟨g1, g2.trans h2⟩
      · show WfS (stepS s inp (runS s inp (startS s) k)) ∧ (stepS s inp (runS s inp (startS s) k)).mem.length = _
        rw [stepS, if_neg h0]; exact ⟨h1, h2⟩
  have hrep : (List.replicate s.words.toNat [AV.val (.int .u32 0)]).flatten = (List.replicate s.words.toNat 0).map U32 := by rw [flat_rep]; simp
  have hmx : (2000000 : Nat) ≤ maxLen := by decide
  have hz : ¬ ((s.funcs.length : Int) = 0) := by omega
  simp only [go_sem,Nat.reduceEqDiff,Nat.reduceAdd,Nat.reduceMul,↓reduceIte,↓dreduceIte,reduceCtorEq,Nat.reduceLeDiff,Nat.reduceLT,Nat.reduceSub,Int.reduceToNat,Int.reduceLE,Int.reduceLT, c_scref20_Run, e0, hrep, one_imm, eq_false hz]
  refine ⟨?_, ?_⟩
  · repeat (refine And.intro (by first | omega | rfl) ?_)

    refine VW_loop (fun q : SQR => ⟨[(2, I fuel), (6, .ptr 1 1 0), (7, .ptr 4 4 0)], if q.e then hpR true (o0S s) o1S q.memO q.co (rmO 4 [I s.words, fnsA s.funcs, strv inp, q.c3, q.m4, q.vo, I q.steps, I q.fin, q.cr]) q.T
          else hM true s inp (o0S s) o1S 2 q.sc 4 s.words.toNat (runS s inp (startS s) q.k).mem (runS s inp (startS s) q.k).rd (runS s inp (startS s) q.k).steps (runS s inp (startS s) q.k).fin q.vo (runS s inp (startS s) q.k).top q.v (runS s inp (startS s) q.k).below q.bvs q.junk q.T, q.nx⟩)
      (invR s inp fuel)
      (fun q => if q.e then 0 else fuel.toNat - q.k + 1) ⟨false, 0, 3, nilv, [], [], nilv, [], 5, o1S, o1S, nilv, nilv, nilv, 0, 0, []⟩
      (Wk.mk (by simp [get_cons]) ⟨[], ?_⟩ (Nat.le_refl _)) (invR_f.2 ⟨Nat.zero_le _, rfl, .inl ⟨rfl, rfl⟩, rfl, by simp, .inl ⟨rfl, rfl⟩⟩) ?_
    · simp [hM, hpR, runS, startS, mi, ci, frCs]
    rintro ⟨e, k, sc, v, bvs, junk, vo, T, nx, memO, co, c3, m4, cr, fin, steps, out⟩ hinv
    cases e with
    | true =>
      obtain ⟨f1, f2, f3⟩ := invR_t.1 hinv
      simp only [if_true]
      have hvo := f2.one
      rw [f3]
      simp only [go_sem,Nat.reduceEqDiff,Nat.reduceAdd,Nat.reduceMul,↓reduceIte,↓dreduceIte,reduceCtorEq,Nat.reduceLeDiff,Nat.reduceLT,Nat.reduceSub,Int.reduceToNat,Int.reduceLE,Int.reduceLT, q_mach, q_1, qs_1, q_calls, q_mem, qs_mem, qs_calls, qs_mach, q_len, q_add, q_T, qs_T, one_ref, one_imm, Int.reduceEq, Int.reduceBEq, eq_false f1]
      rcases f2 with ⟨rfl, rfl⟩ | ⟨k0, so, rfl, hT⟩
      · simp only [go_sem,Nat.reduceEqDiff,Nat.reduceAdd,Nat.reduceMul,↓reduceIte,↓dreduceIte,reduceCtorEq,Nat.reduceLeDiff,Nat.reduceLT,Nat.reduceSub,Int.reduceToNat,Int.reduceLE,Int.reduceLT, q_mach, q_1, qs_1, q_calls, q_mem, qs_mem, qs_calls, qs_mach, q_len, q_add, q_T, qs_T, one_ref, one_imm, Int.reduceEq, Int.reduceBEq]
        exact ⟨_, Frz.pure rfl, rfl⟩
      · simp only [go_sem,Nat.reduceEqDiff,Nat.reduceAdd,Nat.reduceMul,↓reduceIte,↓dreduceIte,reduceCtorEq,Nat.reduceLeDiff,Nat.reduceLT,Nat.reduceSub,Int.reduceToNat,Int.reduceLE,Int.reduceLT, q_mach, q_1, qs_1, q_calls, q_mem, qs_mem, qs_calls, qs_mach, q_len, q_add, q_T, qs_T, one_ref, one_imm, Int.reduceEq, Int.reduceBEq, hT, take_all, bytesOf_U8]
        exact ⟨_, Frz.pure rfl, rfl⟩
    | false =>
      obtain ⟨h1, h2, h3, h4, h5, h6⟩ := invR_f.1 hinv
      simp only [Bool.false_eq_true, if_false]
      obtain ⟨w1, w2⟩ := hwf k h1
      obtain ⟨z1, z2, z3, z4, z5⟩ := runS_sz s inp k
      have hgk := hg k
      have hfin := runS_fin (s := s) (inp := inp) (σ := startS s) (k := k + 1)
      have hnext : runS s inp (startS s) (k + 1) = stepS s inp (runS s inp (startS s) k) := rfl
      have hk2 : fuel.toNat = k → runS s inp (startS s) fuel.toNat = runS s inp (startS s) k := fun e => by rw [e]
      obtain ⟨σ, hσ⟩ : ∃ σ, runS s inp (startS s) k = σ := ⟨_, rfl⟩
      simp only [hσ] at h2 h3 h4 h5 h6 w1 w2 z1 z2 z3 z4 z5 hgk hnext hk2 ⊢
      have z5 := z5 h2
      by_cases hf : fuel ≤ (k : Int)
      · have hf' : fuel ≤ (σ.steps : Int) := by omega
        simp only [go_sem,Nat.reduceEqDiff,Nat.reduceAdd,Nat.reduceMul,↓reduceIte,↓dreduceIte,reduceCtorEq,Nat.reduceLeDiff,Nat.reduceLT,Nat.reduceSub,Int.reduceToNat,Int.reduceLE,Int.reduceLT, q_mach, q_1, qs_1, q_calls, q_mem, qs_mem, qs_calls, qs_mach, q_len, q_add, q_T, qs_T, one_ref, one_imm, Int.reduceEq, Int.reduceBEq, eq_true h2, eq_true hf']
        refine ⟨⟨true, 0, 0, nilv, [], [], vo, T, nx, wdO 2 σ.mem, frO sc (frCs σ.below bvs ++ I σ.top.f :: I σ.top.at_ :: v :: junk), I σ.rd, .ref (mi true) 2 0 s.words.toNat, .ref (ci true) sc 0 (σ.below.length + 1), 5, σ.steps, σ.out⟩, ?_, ?_, Wk.mk ?_ ⟨[], ?_⟩ (Nat.le_refl _)⟩
        · refine invR_t.2 ⟨by decide, h6, ?_⟩
          rw [hk2 (by omega), resS, if_pos h2]
        · simp only [if_true, Bool.false_eq_true, if_false]; omega
        · simp [get_cons]
        · simp only [if_true, List.append_nil]
      · have hf' : ¬ fuel ≤ (σ.steps : Int) := by omega
        have hg1 := hgk (by omega) h2
        simp only [go_sem,Nat.reduceEqDiff,Nat.reduceAdd,Nat.reduceMul,↓reduceIte,↓dreduceIte,reduceCtorEq,Nat.reduceLeDiff,Nat.reduceLT,Nat.reduceSub,Int.reduceToNat,Int.reduceLE,Int.reduceLT, q_mach, q_1, qs_1, q_calls, q_mem, qs_mem, qs_calls, qs_mach, q_len, q_add, q_T, qs_T, one_ref, one_imm, Int.reduceEq, Int.reduceBEq, eq_true h2, eq_false hf']
        refine rmstep_v true s inp σ hP hg1 w1 h2 hi (by omega) s.words.toNat (by omega) (by omega) (by omega) (by omega) (by omega) (by omega) _ _ 2 sc 4 _ vo v bvs junk T h3 h4 h5 h6 _ (fun r sc' v' bvs' junk' vo' T' nx' t0 t1 t2 t3 t4 => ?_) fun r memO co c3' m4' cr vo' T' nx' t0 t4 => ?_
        · simp only [go_sem,Nat.reduceEqDiff,Nat.reduceAdd,Nat.reduceMul,↓reduceIte,↓dreduceIte,reduceCtorEq,Nat.reduceLeDiff,Nat.reduceLT,Nat.reduceSub,Int.reduceToNat,Int.reduceLE,Int.reduceLT, q_mach, q_1, qs_1, q_calls, q_mem, qs_mem, qs_calls, qs_mach, q_len, q_add, q_T, qs_T, one_ref, one_imm, Int.reduceEq, Int.reduceBEq]
          have hw := (hwf (k + 1) (by omega)).2
          refine ⟨⟨false, k + 1, sc', v', bvs', junk', vo', T', nx', o1S, o1S, nilv, nilv, nilv, 0, 0, []⟩, ?_, ?_, Wk.mk ?_ ⟨[], ?_⟩ (Nat.le_refl _)⟩
          · refine invR_f.2 ?_
            rw [hnext]
            exact ⟨by omega, t0, t1, t2, t3, t4⟩
          · simp only [Bool.false_eq_true, if_false]; omega
          · simp [get_cons]
          · simp only [Bool.false_eq_true, if_false, hnext, List.append_nil]
        · simp only [go_sem,Nat.reduceEqDiff,Nat.reduceAdd,Nat.reduceMul,↓reduceIte,↓dreduceIte,reduceCtorEq,Nat.reduceLeDiff,Nat.reduceLT,Nat.reduceSub,Int.reduceToNat,Int.reduceLE,Int.reduceLT, q_mach, q_1, qs_1, q_calls, q_mem, qs_mem, qs_calls, qs_mach, q_len, q_add, q_T, qs_T, one_ref, one_imm, Int.reduceEq, Int.reduceBEq]
          have hrun := hfin (by rw [hnext]; exact t0) (fuel.toNat - (k + 1))
          rw [show k + 1 + (fuel.toNat - (k + 1)) = fuel.toNat by omega] at hrun
          refine ⟨⟨true, 0, 0, nilv, [], [], vo', T', nx', memO, co, c3', m4', cr, (stepS s inp σ).fin, (stepS s inp σ).steps, (stepS s inp σ).out⟩, ?_, ?_, Wk.mk ?_ ⟨[], ?_⟩ (Nat.le_refl _)⟩
          · refine invR_t.2 ⟨t0, t4, ?_⟩
            rw [hrun, hnext, resS, if_neg t0]
          · simp only [if_true, Bool.false_eq_true, if_false]; omega
          · simp [get_cons]
          · simp only [if_true, List.append_nil]
  · repeat (refine And.intro (by first | omega | rfl) ?_)

    refine VW_loop (fun q : SQR => ⟨[(2, I fuel), (6, .ptr 1 1 0), (7, .ptr 4 4 0)], if q.e then hpR false (o0S s) o1S q.memO q.co (rmO 4 [I s.words, fnsA s.funcs, strv inp, q.c3, q.m4, q.vo, I q.steps, I q.fin, q.cr]) q.T
          else hM false s inp (o0S s) o1S 3 q.sc 4 s.words.toNat (runS s inp (startS s) q.k).mem (runS s inp (startS s) q.k).rd (runS s inp (startS s) q.k).steps (runS s inp (startS s) q.k).fin q.vo (runS s inp (startS s) q.k).top q.v (runS s inp (startS s) q.k).below q.bvs q.junk q.T, q.nx⟩)
      (invR s inp fuel)
      (fun q => if q.e then 0 else fuel.toNat - q.k + 1) ⟨false, 0, 2, nilv, [], [], nilv, [], 5, o1S, o1S, nilv, nilv, nilv, 0, 0, []⟩
      (Wk.mk (by simp [get_cons]) ⟨[], ?_⟩ (Nat.le_refl _)) (invR_f.2 ⟨Nat.zero_le _, rfl, .inl ⟨rfl, rfl⟩, rfl, by simp, .inl ⟨rfl, rfl⟩⟩) ?_
    · simp [hM, hpR, runS, startS, mi, ci, frCs]
    rintro ⟨e, k, sc, v, bvs, junk, vo, T, nx, memO, co, c3, m4, cr, fin, steps, out⟩ hinv
    cases e with
    | true =>
      obtain ⟨f1, f2, f3⟩ := invR_t.1 hinv
      simp only [if_true]
      have hvo := f2.one
      rw [f3]
      simp only [go_sem,Nat.reduceEqDiff,Nat.reduceAdd,Nat.reduceMul,↓reduceIte,↓dreduceIte,reduceCtorEq,Nat.reduceLeDiff,Nat.reduceLT,Nat.reduceSub,Int.reduceToNat,Int.reduceLE,Int.reduceLT, q_mach, q_1, qs_1, q_calls, q_mem, qs_mem, qs_calls, qs_mach, q_len, q_add, q_T, qs_T, one_ref, one_imm, Int.reduceEq, Int.reduceBEq, eq_false f1]
      rcases f2 with ⟨rfl, rfl⟩ | ⟨k0, so, rfl, hT⟩
      · simp only [go_sem,Nat.reduceEqDiff,Nat.reduceAdd,Nat.reduceMul,↓reduceIte,↓dreduceIte,reduceCtorEq,Nat.reduceLeDiff,Nat.reduceLT,Nat.reduceSub,Int.reduceToNat,Int.reduceLE,Int.reduceLT, q_mach, q_1, qs_1, q_calls, q_mem, qs_mem, qs_calls, qs_mach, q_len, q_add, q_T, qs_T, one_ref, one_imm, Int.reduceEq, Int.reduceBEq]
        exact ⟨_, Frz.pure rfl, rfl⟩
      · simp only [go_sem,Nat.reduceEqDiff,Nat.reduceAdd,Nat.reduceMul,↓reduceIte,↓dreduceIte,reduceCtorEq,Nat.reduceLeDiff,Nat.reduceLT,Nat.reduceSub,Int.reduceToNat,Int.reduceLE,Int.reduceLT, q_mach, q_1, qs_1, q_calls, q_mem, qs_mem, qs_calls, qs_mach, q_len, q_add, q_T, qs_T, one_ref, one_imm, Int.reduceEq, Int.reduceBEq, hT, take_all, bytesOf_U8]
        exact ⟨_, Frz.pure rfl, rfl⟩
    | false =>
      obtain ⟨h1, h2, h3, h4, h5, h6⟩ := invR_f.1 hinv
      simp only [Bool.false_eq_true, if_false]
      obtain ⟨w1, w2⟩ := hwf k h1
      obtain ⟨z1, z2, z3, z4, z5⟩ := runS_sz s inp k
      have hgk := hg k
      have hfin := runS_fin (s := s) (inp := inp) (σ := startS s) (k := k + 1)
      have hnext : runS s inp (startS s) (k + 1) = stepS s inp (runS s inp (startS s) k) := rfl
      have hk2 : fuel.toNat = k → runS s inp (startS s) fuel.toNat = runS s inp (startS s) k := fun e => by rw [e]
      obtain ⟨σ, hσ⟩ : ∃ σ, runS s inp (startS s) k = σ := ⟨_, rfl⟩
      simp only [hσ] at h2 h3 h4 h5 h6 w1 w2 z1 z2 z3 z4 z5 hgk hnext hk2 ⊢
      have z5 := z5 h2
      by_cases hf : fuel ≤ (k : Int)
      · have hf' : fuel ≤ (σ.steps : Int) := by omega
        simp only [go_sem,Nat.reduceEqDiff,Nat.reduceAdd,Nat.reduceMul,↓reduceIte,↓dreduceIte,reduceCtorEq,Nat.reduceLeDiff,Nat.reduceLT,Nat.reduceSub,Int.reduceToNat,Int.reduceLE,Int.reduceLT, q_mach, q_1, qs_1, q_calls, q_mem, qs_mem, qs_calls, qs_mach, q_len, q_add, q_T, qs_T, one_ref, one_imm, Int.reduceEq, Int.reduceBEq, eq_true h2, eq_true hf']
        refine ⟨⟨true, 0, 0, nilv, [], [], vo, T, nx, wdO 3 σ.mem, frO sc (frCs σ.below bvs ++ I σ.top.f :: I σ.top.at_ :: v :: junk), I σ.rd, .ref (mi false) 3 0 s.words.toNat, .ref (ci false) sc 0 (σ.below.length + 1), 5, σ.steps, σ.out⟩, ?_, ?_, Wk.mk ?_ ⟨[], ?_⟩ (Nat.le_refl _)⟩
        · refine invR_t.2 ⟨by decide, h6, ?_⟩
          rw [hk2 (by omega), resS, if_pos h2]
        · simp only [if_true, Bool.false_eq_true, if_false]; omega
        · simp [get_cons]
        · simp only [if_true, List.append_nil]
      · have hf' : ¬ fuel ≤ (σ.steps : Int) := by omega
        have hg1 := hgk (by omega) h2
        simp only [go_sem,Nat.reduceEqDiff,Nat.reduceAdd,Nat.reduceMul,↓reduceIte,↓dreduceIte,reduceCtorEq,Nat.reduceLeDiff,Nat.reduceLT,Nat.reduceSub,Int.reduceToNat,Int.reduceLE,Int.reduceLT, q_mach, q_1, qs_1, q_calls, q_mem, qs_mem, qs_calls, qs_mach, q_len, q_add, q_T, qs_T, one_ref, one_imm, Int.reduceEq, Int.reduceBEq, eq_true h2, eq_false hf']
        refine rmstep_v false s inp σ hP hg1 w1 h2 hi (by omega) s.words.toNat (by omega) (by omega) (by omega) (by omega) (by omega) (by omega) _ _ 3 sc 4 _ vo v bvs junk T h3 h4 h5 h6 _ (fun r sc' v' bvs' junk' vo' T' nx' t0 t1 t2 t3 t4 => ?_) fun r memO co c3' m4' cr vo' T' nx' t0 t4 => ?_
        · simp only [go_sem,Nat.reduceEqDiff,Nat.reduceAdd,Nat.reduceMul,↓reduceIte,↓dreduceIte,reduceCtorEq,Nat.reduceLeDiff,Nat.reduceLT,Nat.reduceSub,Int.reduceToNat,Int.reduceLE,Int.reduceLT, q_mach, q_1, qs_1, q_calls, q_mem, qs_mem, qs_calls, qs_mach, q_len, q_add, q_T, qs_T, one_ref, one_imm, Int.reduceEq, Int.reduceBEq]
          have hw := (hwf (k + 1) (by omega)).2
          refine ⟨⟨false, k + 1, sc', v', bvs', junk', vo', T', nx', o1S, o1S, nilv, nilv, nilv, 0, 0, []⟩, ?_, ?_, Wk.mk ?_ ⟨[], ?_⟩ (Nat.le_refl _)⟩
          · refine invR_f.2 ?_
            rw [hnext]
            exact ⟨by omega, t0, t1, t2, t3, t4⟩
          · simp only [Bool.false_eq_true, if_false]; omega
          · simp [get_cons]
          · simp only [Bool.false_eq_true, if_false, hnext, List.append_nil]
        · simp only [go_sem,Nat.reduceEqDiff,Nat.reduceAdd,Nat.reduceMul,↓reduceIte,↓dreduceIte,reduceCtorEq,Nat.reduceLeDiff,Nat.reduceLT,Nat.reduceSub,Int.reduceToNat,Int.reduceLE,Int.reduceLT, q_mach, q_1, qs_1, q_calls, q_mem, qs_mem, qs_calls, qs_mach, q_len, q_add, q_T, qs_T, one_ref, one_imm, Int.reduceEq, Int.reduceBEq]
          have hrun := hfin (by rw [hnext]; exact t0) (fuel.toNat - (k + 1))
          rw [show k + 1 + (fuel.toNat - (k + 1)) = fuel.toNat by omega] at hrun
          refine ⟨⟨true, 0, 0, nilv, [], [], vo', T', nx', memO, co, c3', m4', cr, (stepS s inp σ).fin, (stepS s inp σ).steps, (stepS s inp σ).out⟩, ?_, ?_, Wk.mk ?_ ⟨[], ?_⟩ (Nat.le_refl _)⟩
          · refine invR_t.2 ⟨t0, t4, ?_⟩
            rw [hrun, hnext, resS, if_neg t0]
          · simp only [if_true, Bool.false_eq_true, if_false]; omega
          · simp [get_cons]
          · simp only [if_true, List.append_nil]
end Go.Proofs.Ytdfdkoajphcjbaa
