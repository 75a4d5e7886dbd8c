/-
  The stack's machine: stack.Run. No condition.
-/
import Derived.Test.YtdfdkoajphcjbaaS5
namespace Go.Proofs.Ytdfdkoajphcjbaa
set_option linter.unusedSimpArgs false
set_option linter.unusedVariables false
set_option maxRecDepth 10000
open Go.V

/-- All that lies on the one stack. -/
def flat (σ : SM) : List Int := σ.top.L ++ σ.below.flatMap (·.L)
def resS (σ : SM) : AV := .agg [I (if σ.fin = 0 then 5 else σ.fin), strv ⟨σ.out.toArray⟩, I σ.steps]

theorem take_all {α β : Type} (f : α → β) (l : List α) : List.take l.length (l.map f) = l.map f := List.take_of_length_le (by simp)
theorem iteI {α : Type} {p : Prop} [Decidable p] {P : α → Prop} {a b : α} (h1 : p → P a) (h2 : ¬ p → P b) : P (if p then a else b) := by
  by_cases h : p
  · rw [if_pos h]; exact h1 h
  · rw [if_neg h]; exact h2 h
theorem stepI_do (s : SP) (inp : ByteArray) (x : SI) (σ : SM) (hne : x.op ≠ 8 ∧ x.op ≠ 9 ∧ x.op ≠ 10 ∧ x.op ≠ 11) : (stepI s inp x σ).top.f = σ.top.f ∧ (stepI s inp x σ).top.at_ = σ.top.at_ ∧ (stepI s inp x σ).below = σ.below := by
  let Q : SM → Prop := fun τ => τ.top.f = σ.top.f ∧ τ.top.at_ = σ.top.at_ ∧ τ.below = σ.below
  show Q (stepI s inp x σ)
  unfold stepI
  refine iteI (P := Q) (fun _ => ⟨rfl, rfl, rfl⟩) fun _ => ?_
  refine iteI (P := Q) (fun _ => ⟨rfl, rfl, rfl⟩) fun _ => ?_
  refine iteI (P := Q) (fun _ => ⟨rfl, rfl, rfl⟩) fun _ => ?_
  refine iteI (P := Q) (fun _ => iteI (P := Q) (fun _ => ⟨rfl, rfl, rfl⟩) fun _ => ⟨rfl, rfl, rfl⟩) fun _ => ?_
  refine iteI (P := Q) (fun _ => iteI (P := Q) (fun _ => ⟨rfl, rfl, rfl⟩) fun _ => ⟨rfl, rfl, rfl⟩) fun _ => ?_
  refine iteI (P := Q) (fun _ => iteI (P := Q) (fun _ => ⟨rfl, rfl, rfl⟩) fun _ => ⟨rfl, rfl, rfl⟩) fun _ => ?_
  refine iteI (P := Q) (fun _ => ⟨rfl, rfl, rfl⟩) fun _ => ?_
  refine iteI (P := Q) (fun h => absurd h hne.1) fun _ => ?_
  refine iteI (P := Q) (fun h => absurd h hne.2.1) fun _ => ?_
  refine iteI (P := Q) (fun h => absurd h hne.2.2.1) fun _ => ?_
  refine iteI (P := Q) (fun h => absurd h hne.2.2.2) fun _ => ?_
  refine iteI (P := Q) (fun _ => iteI (P := Q) (fun _ => ⟨rfl, rfl, rfl⟩) fun _ => ⟨rfl, rfl, rfl⟩) fun _ => ?_
  exact ⟨rfl, rfl, rfl⟩
/-- The size of what a run has at hand. -/
structure Sz (σ : SM) (k : Nat) : Prop where
  fl : (flat σ).length ≤ k
  be : σ.below.length ≤ k
  rd : σ.rd ≤ k
  out : σ.out.length ≤ k
  st : σ.fin = 0 → σ.steps = k

theorem stepI_sz (s : SP) (inp : ByteArray) (x : SI) (σ : SM) : (flat (stepI s inp x σ)).length ≤ (flat σ).length + 1 ∧ (stepI s inp x σ).below.length ≤ σ.below.length + 1 ∧ (stepI s inp x σ).rd ≤ σ.rd + 1 ∧ (stepI s inp x σ).out.length ≤ σ.out.length + 1 ∧
    (stepI s inp x σ).steps = σ.steps := by
  have P : ∀ τ : SM, τ.top.L.length ≤ σ.top.L.length + 1 → τ.below = σ.below → τ.rd ≤ σ.rd + 1 → τ.out.length ≤ σ.out.length + 1 → τ.steps = σ.steps →
      ((flat τ).length ≤ (flat σ).length + 1 ∧ τ.below.length ≤ σ.below.length + 1 ∧ τ.rd ≤ σ.rd + 1 ∧ τ.out.length ≤ σ.out.length + 1 ∧ τ.steps = σ.steps) := fun τ h1 h2 h3 h4 h5 =>
    ⟨by simp only [flat, List.length_append, h2]; omega, by rw [h2]; omega, h3, h4, h5⟩
  let Q : SM → Prop := fun τ => (flat τ).length ≤ (flat σ).length + 1 ∧ τ.below.length ≤ σ.below.length + 1 ∧ τ.rd ≤ σ.rd + 1 ∧ τ.out.length ≤ σ.out.length + 1 ∧ τ.steps = σ.steps
  show Q (stepI s inp x σ)
  unfold stepI
  refine iteI (P := Q) (fun _ => P _ (by simp [SM.setL]) rfl (by simp [SM.setL]) (by simp [SM.setL]) rfl) fun _ => ?_
  refine iteI (P := Q) (fun _ => P _ (by simp [SM.setL]) rfl (by simp [SM.setL]) (by simp [SM.setL]) rfl) fun _ => ?_
  refine iteI (P := Q) (fun _ => P _ (by simp [SM.setL] <;> omega) rfl (by simp [SM.setL]) (by simp [SM.setL]) rfl) fun _ => ?_
  refine iteI (P := Q) (fun _ => iteI (P := Q) (fun _ => P _ (by simp [SM.setL] <;> omega) rfl (by simp [SM.setL]) (by simp [SM.setL]) rfl) fun _ => P _ (by simp) rfl (by simp) (by simp) rfl) fun _ => ?_
  refine iteI (P := Q) (fun _ => iteI (P := Q) (fun _ => P _ (by simp [SM.setL] <;> omega) rfl (by simp [SM.setL]) (by simp [SM.setL]) rfl) fun _ => P _ (by simp) rfl (by simp) (by simp) rfl) fun _ => ?_
  refine iteI (P := Q) (fun _ => iteI (P := Q) (fun _ => P _ (by simp [SM.setL] <;> omega) rfl (by simp [SM.setL]) (by simp [SM.setL]) rfl) fun _ => P _ (by simp) rfl (by simp) (by simp) rfl) fun _ => ?_
  refine iteI (P := Q) (fun _ => P _ (by simp [SM.setL] <;> omega) rfl (by simp [SM.setL]) (by simp [SM.setL]) rfl) fun _ => ?_
  refine iteI (P := Q) (fun _ => P _ (by simp [SM.jump]) rfl (by simp [SM.jump]) (by simp [SM.jump]) rfl) fun _ => ?_
  refine iteI (P := Q) (fun _ => iteI (P := Q) (fun _ => P _ (by simp [SM.setL, SM.jump] <;> omega) rfl (by simp [SM.setL, SM.jump]) (by simp [SM.setL, SM.jump]) rfl) fun _ => P _ (by simp [SM.setL] <;> omega) rfl (by simp [SM.setL]) (by simp [SM.setL]) rfl) fun _ => ?_
  refine iteI (P := Q) (fun _ => ?_) fun _ => ?_
  · refine ⟨?_, ?_, by simp [SM.call], by simp [SM.call], rfl⟩
    · simp only [SM.call, flat, List.nil_append, List.flatMap_cons, List.length_append, List.length_drop]; omega
    · simp [SM.call]
  refine iteI (P := Q) (fun _ => ?_) fun _ => ?_
  · unfold SM.ret
    split
    · exact P _ (by simp) rfl (by simp) (by simp) rfl
    · rename_i c rest hc
      refine ⟨?_, by rw [hc]; simp; omega, by simp, by simp, rfl⟩
      simp only [flat, hc, List.flatMap_cons, List.length_append]
      split <;> simp <;> omega
  refine iteI (P := Q) (fun _ => iteI (P := Q) (fun _ => P _ (by simp [SM.setL]) rfl (by simp [SM.setL]) (by simp [SM.setL]) rfl) fun _ => P _ (by simp [SM.setL]) rfl (by simp [SM.setL]) (by simp [SM.setL]) rfl) fun _ => ?_
  exact P _ (by simp [SM.setL] <;> omega) rfl (by simp [SM.setL]) (by simp [SM.setL]) rfl

theorem runS_fin {s : SP} {inp : ByteArray} {σ : SM} {k : Nat} (h : (runS s inp σ k).fin ≠ 0) : ∀ d, runS s inp σ (k + d) = runS s inp σ k
  | 0 => rfl
  | d + 1 => by
    show stepS s inp (runS s inp σ (k + d)) = _
    rw [runS_fin h d, stepS, if_neg h]
theorem stepS_eq {s : SP} {inp : ByteArray} {σ : SM} (h : σ.fin = 0) : stepS s inp σ = stepI s inp (s.ins σ.top.f σ.top.at_) σ.next := if_pos h

theorem runS_sz (s : SP) (inp : ByteArray) : ∀ k, Sz (runS s inp (startS s) k) k
  | 0 => ⟨by simp [runS, startS, flat], by simp [runS, startS], by simp [runS, startS], by simp [runS, startS], fun _ => rfl⟩
  | k + 1 => by
    obtain ⟨h1, h2, h3, h4, h5⟩ := runS_sz s inp k
    show Sz (stepS s inp (runS s inp (startS s) k)) (k + 1)
    generalize runS s inp (startS s) k = σ at *
    by_cases h0 : σ.fin = 0
    · rw [stepS_eq h0]
      obtain ⟨g1, g2, g3, g4, g5⟩ := stepI_sz s inp (s.ins σ.top.f σ.top.at_) σ.next
      have e : (flat σ.next).length = (flat σ).length := rfl
      refine ⟨by omega, Nat.le_trans g2 (by simp only [SM.next]; omega), Nat.le_trans g3 (by simp only [SM.next]; omega), Nat.le_trans g4 (by simp only [SM.next]; omega), fun _ => ?_⟩
      rw [g5]; simp only [SM.next]; rw [h5 h0]
    · rw [stepS, if_neg h0]
      exact ⟨by omega, by omega, by omega, by omega, fun h => absurd h h0⟩

/-- What is known at the head of the loop. -/
structure SQ where
  k : Nat
  T : List VObj
  vs : AV
  vc : AV
  vo : AV
  nx : Nat
abbrev o0S (s : SP) : VObj := ⟨0, 24, 1, [I s.words, fnsA s.funcs]⟩
abbrev o1S : VObj := ⟨1, 29, 1, [I 0, strv ⟨#[]⟩, I 0]⟩
abbrev o4S (c : Fm) : VObj := ⟨4, 66, 1, [I c.f, I c.at_]⟩

/-- A program of a size that is gone through. -/
structure FitP (s : SP) : Prop where
  wf : WfP s
  w0 : 0 ≤ s.words
  w1 : s.words ≤ 1000000
  fn : s.funcs.length ≤ 1000000
  ne : s.funcs ≠ []
  code : ∀ f, (s.fn f).code.length ≤ 1000000

theorem srun_c (s : SP) (inp : ByteArray) (fuel : Int) (hP : FitP s) (hfu : fuel ≤ 60000) (hi : inp.size ≤ 1000000000)
    (hg : ∀ k, k < fuel.toNat → (runS s inp (startS s) k).fin = 0 → Good s (runS s inp (startS s) k)) :
    Contract Try.prog 12 [spA s, strv inp, I fuel] (fun r => r = resS (runS s inp (startS s) fuel.toNat)) := by
  refine Contract.of_call (VCall.of_body hmix f_stack_Run (by simp) ?_)
  obtain ⟨p1, p2, p3, p4, p5, p6⟩ := hP
  have hlen : 1 ≤ s.funcs.length := by
    cases hf : s.funcs with
    | nil => exact absurd hf p5
    | cons a l => simp
  have e0 : IntKind.i64.wrap ((s.funcs.length : Int) - 1) = ((s.funcs.length - 1 : Nat) : Int) := by rw [i64_in (by omega) (by omega)]; omega
  have hwf : ∀ k, k ≤ fuel.toNat → WfS (runS s inp (startS s) k) ∧ (runS s inp (startS s) k).mem.length = s.words.toNat := by
    intro k hk
    induction k with
    | zero => exact ⟨startS_wf s, by simp [runS, startS]⟩
    | succ k ih =>
      obtain ⟨h1, h2⟩ := ih (by omega)
      by_cases h0 : (runS s inp (startS s) k).fin = 0
      · obtain ⟨g1, g2, _⟩ := stepS_wf (inp := inp) p1 h1 (hg k (by omega) h0)
        exact ⟨g1, g2.trans h2⟩
      · show WfS (stepS s inp (runS s inp (startS s) k)) ∧ (stepS s inp (runS s inp (startS s) k)).mem.length = _
        rw [stepS, if_neg h0]; exact ⟨h1, h2⟩
  have hrep : (List.replicate s.words.toNat [AV.val (.int .u32 0)]).flatten = (List.replicate s.words.toNat 0).map U32 := by rw [flat_rep]; simp
  have hmx : (2000000 : Nat) ≤ maxLen := by decide
  simp only [go_sem,Nat.reduceEqDiff,Nat.reduceAdd,Nat.reduceMul,↓reduceIte,↓dreduceIte,reduceCtorEq,Nat.reduceLeDiff,Nat.reduceLT,Nat.reduceSub,Int.reduceToNat,Int.reduceLE,Int.reduceLT, c_stack_Run, e0, hrep, one_imm]
  repeat (refine And.intro (by omega) ?_)
  refine VW_loop (fun q : SQ => ⟨[(2, I fuel), (3, .ptr 0 0 0), (6, .ptr 1 1 0), (7, .ptr 3 3 0), (8, .ptr 4 4 0), (9, I 0), (10, I q.k)],
      hpS (o0S s) o1S (o4S (runS s inp (startS s) q.k).top) 2 3 (I s.words) (fnsA s.funcs) q.vs q.vc q.vo inp s.words.toNat (runS s inp (startS s) q.k).mem (runS s inp (startS s) q.k).rd q.T, q.nx⟩)
    (fun q => q.k ≤ fuel.toNat ∧ (runS s inp (startS s) q.k).fin = 0 ∧ PW q.T q.vs (flat (runS s inp (startS s) q.k)) ∧ PF q.T q.vc (runS s inp (startS s) q.k).below ∧ PO q.T q.vo (runS s inp (startS s) q.k).out) (fun q => fuel.toNat - q.k)
    ⟨0, [], nilv, nilv, nilv, 5⟩ (Wk.mk (by simp [get_cons]) ⟨[], ?_⟩ (Nat.le_refl _)) ⟨Nat.zero_le _, rfl, .inl ⟨rfl, rfl⟩, .inl ⟨rfl, rfl⟩, .inl ⟨rfl, rfl⟩⟩ ?_
  · simp [runS, startS]
  rintro ⟨k, T, vs, vc, vo, nx⟩ ⟨h1, h2, h3, h4, h5⟩
  simp only at h1 h2 h3 h4 h5
  obtain ⟨w1, w2⟩ := hwf k h1
  obtain ⟨z1, z2, z3, z4, z5⟩ := runS_sz s inp k
  have hgk := hg k
  have hfin := runS_fin (s := s) (inp := inp) (σ := startS s) (k := k + 1)
  have hnext : runS s inp (startS s) (k + 1) = stepS s inp (runS s inp (startS s) k) := rfl
  have hk2 : fuel.toNat = k → runS s inp (startS s) fuel.toNat = runS s inp (startS s) k := fun e => by rw [e]
  obtain ⟨σ, hσ⟩ : ∃ σ, runS s inp (startS s) k = σ := ⟨_, rfl⟩
  simp only [hσ] at h2 h3 h4 h5 w1 w2 z1 z2 z3 z4 z5 hgk hnext hk2 ⊢
  have z5 := z5 h2
  by_cases hf : fuel ≤ (k : Int)
  · rw [hk2 (by omega)]
    have er : resS σ = .agg [I 5, strv ⟨σ.out.toArray⟩, I k] := by rw [resS, if_pos h2, z5]
    rw [er]
    simp only [go_sem,Nat.reduceEqDiff,Nat.reduceAdd,Nat.reduceMul,↓reduceIte,↓dreduceIte,reduceCtorEq,Nat.reduceLeDiff,Nat.reduceLT,Nat.reduceSub,Int.reduceToNat,Int.reduceLE,Int.reduceLT, ↓plen, ponx, pg0, ps0, one_ref, one_imm, Int.reduceEq, Int.reduceBEq, eq_true hf]
    rcases h5 with ⟨rfl, ho⟩ | ⟨k0, so, rfl, hT⟩
    · simp only [go_sem,Nat.reduceEqDiff,Nat.reduceAdd,Nat.reduceMul,↓reduceIte,↓dreduceIte,reduceCtorEq,Nat.reduceLeDiff,Nat.reduceLT,Nat.reduceSub,Int.reduceToNat,Int.reduceLE,Int.reduceLT, ↓plen, ponx, pg0, ps0, one_ref, one_imm, Int.reduceEq, Int.reduceBEq, eq_true hf]
      exact ⟨_, Frz.pure rfl, by first | (rw [ho]; rfl) | (rw [show σ.next.out = [] from ho]; rfl)⟩
    · simp only [go_sem,Nat.reduceEqDiff,Nat.reduceAdd,Nat.reduceMul,↓reduceIte,↓dreduceIte,reduceCtorEq,Nat.reduceLeDiff,Nat.reduceLT,Nat.reduceSub,Int.reduceToNat,Int.reduceLE,Int.reduceLT, ↓plen, ponx, pg0, ps0, one_ref, one_imm, Int.reduceEq, Int.reduceBEq, eq_true hf, hT, take_all, bytesOf_U8]
      exact ⟨_, Frz.pure rfl, rfl⟩
  have hk' := eq_false hf
  obtain ⟨gf, gk, gok⟩ := hgk (by omega) h2
  have hP6 := p6 σ.top.f
  have e1 : IntKind.i64.wrap ((k : Int) + 1) = ((k + 1 : Nat) : Int) := by rw [i64_in (by omega) (by omega)]; omega
  have e2 : IntKind.i64.wrap ((σ.top.at_ : Int) + 1) = ((σ.top.at_ + 1 : Nat) : Int) := by rw [i64_in (by omega) (by omega)]; omega
  have hfn : s.funcs.getD σ.top.f default = s.fn σ.top.f := rfl
  rw [stepS_eq h2] at hnext
  obtain ⟨x, hx⟩ : ∃ x, s.ins σ.top.f σ.top.at_ = x := ⟨_, rfl⟩
  have hin : (s.fn σ.top.f).code.getD σ.top.at_ default = x := hx
  have hxn : In32 x.n := hx ▸ ins_wf p1 gf gk
  rw [hx] at gok hnext
  have hmem : σ.mem.length ≤ 1000000 := by omega
  -- how the loop goes on
  have go : ∀ (T' : List VObj) (vs' vc' vo' : AV) (nx' : Nat) (τ : SM) (env : List (Nat × AV)) (H : List VObj), H = hpS (o0S s) o1S (o4S τ.top) 2 3 (I s.words) (fnsA s.funcs) vs' vc' vo' inp s.words.toNat τ.mem τ.rd T' → runS s inp (startS s) (k + 1) = τ → τ.fin = 0 → PW T' vs' (flat τ) → PF T' vc' τ.below → PO T' vo' τ.out →
      get env 2 = I fuel → get env 3 = .ptr 0 0 0 → get env 6 = .ptr 1 1 0 → get env 7 = .ptr 3 3 0 → get env 8 = .ptr 4 4 0 → get env 9 = I 0 → get env 10 = I ((k + 1 : Nat) : Int) →
      ∃ q : SQ, (q.k ≤ fuel.toNat ∧ (runS s inp (startS s) q.k).fin = 0 ∧ PW q.T q.vs (flat (runS s inp (startS s) q.k)) ∧ PF q.T q.vc (runS s inp (startS s) q.k).below ∧ PO q.T q.vo (runS s inp (startS s) q.k).out) ∧ fuel.toNat - q.k < fuel.toNat - k ∧
        Wk ⟨env, H, nx'⟩
          ⟨[(2, I fuel), (3, .ptr 0 0 0), (6, .ptr 1 1 0), (7, .ptr 3 3 0), (8, .ptr 4 4 0), (9, I 0), (10, I q.k)],
            hpS (o0S s) o1S (o4S (runS s inp (startS s) q.k).top) 2 3 (I s.words) (fnsA s.funcs) q.vs q.vc q.vo inp s.words.toNat (runS s inp (startS s) q.k).mem (runS s inp (startS s) q.k).rd q.T, q.nx⟩ := by
    intro T' vs' vc' vo' nx' τ env H hH hτ t0 t1 t2 t3 q1 q2 q3 q4 q5 q6 q7
    subst hτ
    subst hH
    exact ⟨⟨k + 1, T', vs', vc', vo', nx'⟩, ⟨by simp only; omega, t0, t1, t2, t3⟩, by simp only; omega, Wk.mk (by simp [q1, q2, q3, q4, q5, q6, q7]) ⟨[], (List.append_nil _).symm⟩ (Nat.le_refl _)⟩
  have w1' : WfS σ.next := ⟨w1.mem, w1.top, w1.below⟩
  have endS : ∀ τ, runS s inp (startS s) (k + 1) = τ → τ.fin ≠ 0 → τ.steps = k + 1 → resS (runS s inp (startS s) fuel.toNat) = .agg [I τ.fin, strv ⟨τ.out.toArray⟩, I ((k + 1 : Nat) : Int)] := fun τ hτ h0 hst => by
    have := hfin (by rw [hτ]; exact h0) (fuel.toNat - (k + 1))
    rw [show k + 1 + (fuel.toNat - (k + 1)) = fuel.toNat by omega] at this
    rw [this, hτ, resS, if_neg h0, hst]
  have hsteps : ∀ x, (stepI s inp x σ.next).steps = k + 1 := fun x => by
    obtain ⟨_, _, _, _, g5⟩ := stepI_sz s inp x σ.next
    rw [g5]; show σ.steps + 1 = _; rw [z5]
  by_cases o8 : x.op = 8
  · obtain ⟨op, a, b, q⟩ := x
    simp only at o8 hxn
    subst o8
    have ha : 0 ≤ a := by unfold OkI at gok; simp only at gok; omega
    simp only [go_sem,Nat.reduceEqDiff,Nat.reduceAdd,Nat.reduceMul,↓reduceIte,↓dreduceIte,reduceCtorEq,Nat.reduceLeDiff,Nat.reduceLT,Nat.reduceSub,Int.reduceToNat,Int.reduceLE,Int.reduceLT, ↓plen, ponx, pg0, ps0, one_ref, one_imm, Int.reduceEq, Int.reduceBEq, hk', e1, e2, hfn, hin, cellT_U32]
    repeat (refine And.intro (by omega) ?_)
    refine go (T ++ [⟨nx, 36, 1, [I 8, I a, I b, U32 q]⟩]) vs vc vo _ _ _ _ ?_ hnext h2 (h3.add _) (h4.add _) (h5.add _) rfl rfl rfl rfl rfl rfl rfl
    show _ = hpS (o0S s) o1S (o4S ⟨σ.top.f, a.toNat, σ.top.L⟩) 2 3 _ _ _ _ _ _ _ _ _ _
    simp only [o4S, Int.toNat_of_nonneg ha]; rfl
  by_cases o9 : x.op = 9
  · obtain ⟨op, a, b, q⟩ := x
    simp only at o9 hxn
    subst o9
    obtain ⟨ha, hL⟩ : 0 ≤ a ∧ 1 ≤ σ.top.L.length := by unfold OkI at gok; simp only at gok; omega
    obtain ⟨v, L, hLe⟩ : ∃ v L, σ.top.L = v :: L := by
      cases hh : σ.top.L with
      | nil => rw [hh] at hL; simp at hL
      | cons v L => exact ⟨v, L, rfl⟩
    have hfl : flat σ = v :: (L ++ σ.below.flatMap (·.L)) := by rw [flat, hLe]; rfl
    rw [hfl] at h3 z1
    have hl1 : (L ++ σ.below.flatMap (·.L)).length ≤ 1000000 := by simp only [List.length_cons] at z1; omega
    simp only [go_sem,Nat.reduceEqDiff,Nat.reduceAdd,Nat.reduceMul,↓reduceIte,↓dreduceIte,reduceCtorEq,Nat.reduceLeDiff,Nat.reduceLT,Nat.reduceSub,Int.reduceToNat,Int.reduceLE,Int.reduceLT, ↓plen, ponx, pg0, ps0, one_ref, one_imm, Int.reduceEq, Int.reduceBEq, hk', e1, e2, hfn, hin, cellT_U32]
    repeat (refine And.intro (by omega) ?_)
    refine pop_v _ _ _ vs vc _ _ vo _ _ _ _ _ 3 _ (L ++ σ.below.flatMap (·.L)) v hl1 (h3.add _) _ fun vs2 g => ?_
    by_cases hv : v = 0
    · have hst : stepI s inp ⟨9, a, b, q⟩ σ.next = (σ.next.setL L).jump a := by
        show (if σ.next.top.L.headD 0 = 0 then _ else _) = _
        rw [show σ.next.top.L = v :: L from hLe, if_pos (show (v :: L).headD 0 = 0 from hv)]; rfl
      simp only [go_sem,Nat.reduceEqDiff,Nat.reduceAdd,Nat.reduceMul,↓reduceIte,↓dreduceIte,reduceCtorEq,Nat.reduceLeDiff,Nat.reduceLT,Nat.reduceSub,Int.reduceToNat,Int.reduceLE,Int.reduceLT, ↓plen, ponx, pg0, ps0, one_ref, one_imm, Int.reduceEq, Int.reduceBEq, e1, e2, hfn, hin, cellT_U32, eq_true hv]
      refine go (T ++ [⟨nx, 36, 1, [I 9, I a, I b, U32 q]⟩]) vs2 vc vo _ _ _ _ ?_ (hnext.trans hst) h2 g (h4.add _) (h5.add _) rfl rfl rfl rfl rfl rfl rfl
      show _ = hpS (o0S s) o1S (o4S ⟨σ.top.f, a.toNat, L⟩) 2 3 _ _ _ _ _ _ _ _ _ _
      simp only [o4S, Int.toNat_of_nonneg ha]; rfl
    · have hst : stepI s inp ⟨9, a, b, q⟩ σ.next = σ.next.setL L := by
        show (if σ.next.top.L.headD 0 = 0 then _ else _) = _
        rw [show σ.next.top.L = v :: L from hLe, if_neg (show ¬ (v :: L).headD 0 = 0 from hv)]; rfl
      simp only [go_sem,Nat.reduceEqDiff,Nat.reduceAdd,Nat.reduceMul,↓reduceIte,↓dreduceIte,reduceCtorEq,Nat.reduceLeDiff,Nat.reduceLT,Nat.reduceSub,Int.reduceToNat,Int.reduceLE,Int.reduceLT, ↓plen, ponx, pg0, ps0, one_ref, one_imm, Int.reduceEq, Int.reduceBEq, e1, e2, hfn, hin, cellT_U32, eq_false hv]
      exact go (T ++ [⟨nx, 36, 1, [I 9, I a, I b, U32 q]⟩]) vs2 vc vo _ _ _ _ rfl (hnext.trans hst) h2 g (h4.add _) (h5.add _) rfl rfl rfl rfl rfl rfl rfl
  by_cases o10 : x.op = 10
  · obtain ⟨op, a, b, q⟩ := x
    simp only at o10 hxn
    subst o10
    obtain ⟨ha, hb, hg0⟩ : 0 ≤ a ∧ a < s.funcs.length ∧ CallOK (s.fn a.toNat) σ.mem.length σ.top.L.length := by
      unfold OkI at gok; simp only at gok
      rcases gok with h | h | h | h | h | h | h | h | h | h | h | h | h
      all_goals first | exact h.2 | (have h := h.1; omega) | omega
    have hg1 : CallOK (s.fn a.toNat) σ.mem.length (flat σ).length := ⟨hg0.p0, hg0.ps, hg0.f0, hg0.fs, by have := hg0.deep; simp only [flat, List.length_append]; omega⟩
    have hdr : (flat σ).drop (s.fn a.toNat).params.toNat = σ.top.L.drop (s.fn a.toNat).params.toNat ++ σ.below.flatMap (·.L) := by
      rw [flat, List.drop_append_of_le_length (by have := hg0.deep; omega)]
    have hown : ownW (s.fn a.toNat) (flat σ) = ownW (s.fn a.toNat) σ.top.L := by
      rw [ownW, ownW, flat, List.take_append_of_le_length (by have := hg0.deep; omega)]
    have hfa : s.funcs.getD a.toNat default = s.fn a.toNat := rfl
    simp only [go_sem,Nat.reduceEqDiff,Nat.reduceAdd,Nat.reduceMul,↓reduceIte,↓dreduceIte,reduceCtorEq,Nat.reduceLeDiff,Nat.reduceLT,Nat.reduceSub,Int.reduceToNat,Int.reduceLE,Int.reduceLT, ↓plen, ponx, pg0, ps0, one_ref, one_imm, Int.reduceEq, Int.reduceBEq, hk', e1, e2, hfn, hin, cellT_U32, hfa]
    repeat (refine And.intro (by omega) ?_)
    rw [← w2]
    refine enter_v _ _ vs vc vo inp _ _ _ _ 2 3 _ σ.mem σ.rd (s.fn a.toNat) (flat σ) hg1 (by omega) (by omega) (h3.add _) _ fun r R vs' nx' g => ?_
    rw [hdr] at g
    rw [hown]
    simp only [go_sem,Nat.reduceEqDiff,Nat.reduceAdd,Nat.reduceMul,↓reduceIte,↓dreduceIte,reduceCtorEq,Nat.reduceLeDiff,Nat.reduceLT,Nat.reduceSub,Int.reduceToNat,Int.reduceLE,Int.reduceLT, ↓plen, ponx, pg0, ps0, one_ref, one_imm, Int.reduceEq, Int.reduceBEq, e1, e2, hfn, hin, cellT_U32, hfa]
    refine fpush_v _ _ _ vs' vc _ _ vo _ _ _ _ _ 3 _ σ.below ⟨σ.top.f, σ.top.at_ + 1, σ.top.L.drop (s.fn a.toNat).params.toNat⟩ (by omega) ((h4.add _).add _) _ fun r T' vc' nx' g1 g2 => ?_
    have hT' : T'[T.length]? = some ⟨nx, 36, 1, [I 10, I a, I b, U32 q]⟩ := g2 _ _ (by simp) (by show (36 : Nat) ≠ _; decide)
    simp only [go_sem,Nat.reduceEqDiff,Nat.reduceAdd,Nat.reduceMul,↓reduceIte,↓dreduceIte,reduceCtorEq,Nat.reduceLeDiff,Nat.reduceLT,Nat.reduceSub,Int.reduceToNat,Int.reduceLE,Int.reduceLT, ↓plen, ponx, pg0, ps0, one_ref, one_imm, Int.reduceEq, Int.reduceBEq, e1, e2, hfn, hin, cellT_U32, hfa, hT']
    repeat (refine And.intro (by omega) ?_)
    simp only [w2]
    have hst : stepI s inp ⟨10, a, b, q⟩ σ.next = σ.next.call s a := rfl
    refine go T' vs' vc' vo _ _ _ _ ?_ (hnext.trans hst) h2 (g.kp g2 (by decide)) g1 (((h5.add _).add _).kp g2 (by decide)) ?_ ?_ ?_ ?_ ?_ ?_ ?_
    · show _ = hpS (o0S s) o1S (o4S ⟨a.toNat, 0, []⟩) 2 3 _ _ _ _ _ _ _ _ _ _
      simp only [o4S, Int.toNat_of_nonneg ha]; rfl
    all_goals rfl
  by_cases o11 : x.op = 11
  · obtain ⟨op, a, b, q⟩ := x
    simp only at o11 hxn
    subst o11
    have hL : σ.top.L.length = cntB (s.fn σ.top.f).word := by
      unfold OkI at gok; simp only at gok
      rcases gok with h | h | h | h | h | h | h | h | h | h | h | h | h
      all_goals first | exact h.2 | (have h := h.1; omega) | omega
    have hst : stepI s inp ⟨11, a, b, q⟩ σ.next = σ.next.ret s := rfl
    cases hbel : σ.below with
    | nil =>
      have hτ : σ.next.ret s = { σ.next with fin := 1 } := by
        unfold SM.ret
        split
        · rfl
        · rename_i h; rw [show σ.next.below = [] from hbel] at h; cases h
      rw [endS _ ((hnext.trans hst).trans hτ) (by simp) (by show σ.steps + 1 = _; rw [z5])]
      rw [hbel] at h4
      simp only [go_sem,Nat.reduceEqDiff,Nat.reduceAdd,Nat.reduceMul,↓reduceIte,↓dreduceIte,reduceCtorEq,Nat.reduceLeDiff,Nat.reduceLT,Nat.reduceSub,Int.reduceToNat,Int.reduceLE,Int.reduceLT, ↓plen, ponx, pg0, ps0, one_ref, one_imm, Int.reduceEq, Int.reduceBEq, hk', e1, e2, hfn, hin, cellT_U32]
      repeat (refine And.intro (by omega) ?_)
      refine fsize_v _ _ _ vs vc _ _ vo _ _ _ _ _ 3 _ [] (h4.add _) _ ?_
      have h5' := h5.add [⟨nx, 36, 1, [I 11, I a, I b, U32 q]⟩]
      rcases h5' with ⟨rfl, ho⟩ | ⟨k0, so, rfl, hT⟩
      · simp only [go_sem,Nat.reduceEqDiff,Nat.reduceAdd,Nat.reduceMul,↓reduceIte,↓dreduceIte,reduceCtorEq,Nat.reduceLeDiff,Nat.reduceLT,Nat.reduceSub,Int.reduceToNat,Int.reduceLE,Int.reduceLT, ↓plen, ponx, pg0, ps0, one_ref, one_imm, Int.reduceEq, Int.reduceBEq, e1, e2, cellT_U32, eq_true (show ((0 : Nat) : Int) = 0 from rfl)]
        exact ⟨_, Frz.pure rfl, by first | (rw [ho]; rfl) | (rw [show σ.next.out = [] from ho]; rfl)⟩
      · simp only [go_sem,Nat.reduceEqDiff,Nat.reduceAdd,Nat.reduceMul,↓reduceIte,↓dreduceIte,reduceCtorEq,Nat.reduceLeDiff,Nat.reduceLT,Nat.reduceSub,Int.reduceToNat,Int.reduceLE,Int.reduceLT, ↓plen, ponx, pg0, ps0, one_ref, one_imm, Int.reduceEq, Int.reduceBEq, e1, e2, cellT_U32, eq_true (show ((0 : Nat) : Int) = 0 from rfl), hT, take_all, bytesOf_U8]
        exact ⟨_, Frz.pure rfl, rfl⟩
    | cons c rest =>
      have hτ : σ.next.ret s = { σ.next with top := { c with L := (if (s.fn σ.top.f).word then [σ.top.L.headD 0] else []) ++ c.L }, below := rest } := by
        unfold SM.ret
        rw [show σ.next.below = c :: rest from hbel]; rfl
      have hfl : flat (σ.next.ret s) = flat σ := by
        rw [hτ, flat, flat, hbel]
        simp only [List.flatMap_cons]
        rw [← List.append_assoc]
        congr 2
        revert hL
        cases (s.fn σ.top.f).word with
        | false => intro hL; simp only [cntB] at hL; rw [List.eq_nil_of_length_eq_zero hL]; rfl
        | true =>
          intro hL
          match hh : σ.top.L with
          | [] => rw [hh] at hL; simp [cntB] at hL
          | [v] => rfl
          | v :: w :: L => rw [hh] at hL; simp [cntB] at hL
      rw [hbel] at h4 z2
      simp only [List.length_cons] at z2
      have hne : ¬ ((rest.length : Int) + 1 = 0) := by omega
      simp only [go_sem,Nat.reduceEqDiff,Nat.reduceAdd,Nat.reduceMul,↓reduceIte,↓dreduceIte,reduceCtorEq,Nat.reduceLeDiff,Nat.reduceLT,Nat.reduceSub,Int.reduceToNat,Int.reduceLE,Int.reduceLT, ↓plen, ponx, pg0, ps0, one_ref, one_imm, Int.reduceEq, Int.reduceBEq, hk', e1, e2, hfn, hin, cellT_U32]
      repeat (refine And.intro (by omega) ?_)
      refine fsize_v _ _ _ vs vc _ _ vo _ _ _ _ _ 3 _ (c :: rest) (h4.add _) _ ?_
      simp only [go_sem,Nat.reduceEqDiff,Nat.reduceAdd,Nat.reduceMul,↓reduceIte,↓dreduceIte,reduceCtorEq,Nat.reduceLeDiff,Nat.reduceLT,Nat.reduceSub,Int.reduceToNat,Int.reduceLE,Int.reduceLT, ↓plen, ponx, pg0, ps0, one_ref, one_imm, Int.reduceEq, Int.reduceBEq, e1, e2, hfn, hin, cellT_U32, Int.natCast_add, Int.cast_ofNat_Int, eq_false hne]
      refine fpop_v _ _ _ vs vc _ _ vo _ _ _ _ _ 3 _ rest c (by omega) (h4.add _) _ fun R2 vc' nx' g => ?_
      simp only [go_sem,Nat.reduceEqDiff,Nat.reduceAdd,Nat.reduceMul,↓reduceIte,↓dreduceIte,reduceCtorEq,Nat.reduceLeDiff,Nat.reduceLT,Nat.reduceSub,Int.reduceToNat,Int.reduceLE,Int.reduceLT, ↓plen, ponx, pg0, ps0, one_ref, one_imm, Int.reduceEq, Int.reduceBEq, e1, e2, hfn, hin, cellT_U32, frC]
      refine go ((T ++ [⟨nx, 36, 1, [I 11, I a, I b, U32 q]⟩]) ++ R2) vs vc' vo _ _ _ _ ?_ ((hnext.trans hst).trans hτ) h2 ?_ g ((h5.add _).add _) rfl rfl rfl rfl rfl rfl rfl
      · rfl
      · rw [← hτ, hfl]; exact (h3.add _).add _
  obtain ⟨op, a, b, q⟩ := x
  simp only at o8 o9 o10 o11 hxn
  obtain ⟨t1, t2, t3⟩ := stepI_do s inp ⟨op, a, b, q⟩ σ.next ⟨o8, o9, o10, o11⟩
  simp only [go_sem,Nat.reduceEqDiff,Nat.reduceAdd,Nat.reduceMul,↓reduceIte,↓dreduceIte,reduceCtorEq,Nat.reduceLeDiff,Nat.reduceLT,Nat.reduceSub,Int.reduceToNat,Int.reduceLE,Int.reduceLT, ↓plen, ponx, pg0, ps0, one_ref, one_imm, Int.reduceEq, Int.reduceBEq, hk', e1, e2, hfn, hin, cellT_U32, eq_false o8, eq_false o9, eq_false o10, eq_false o11]
  repeat (refine And.intro (by omega) ?_)
  refine do_v s inp σ.next (σ.below.flatMap (·.L)) σ.below ⟨op, a, b, q⟩ hxn gok ⟨o8, o9, o10, o11⟩ w1' h2 hi (by show σ.rd ≤ _; omega) s.words.toNat (by show _ = σ.mem.length; omega) (by omega) (by show (flat σ).length ≤ _; omega) (by show σ.out.length < _; omega)
    _ _ _ 2 3 _ _ _ vs vc vo _ (h3.add _) (h4.add _) (h5.add _) _ fun T' vs' vo' nx' g1 g2 g3 => ?_
  have hst2 := hsteps ⟨op, a, b, q⟩
  generalize stepI s inp ⟨op, a, b, q⟩ σ.next = τ at *
  by_cases hf0 : τ.fin = 0
  · simp only [go_sem,Nat.reduceEqDiff,Nat.reduceAdd,Nat.reduceMul,↓reduceIte,↓dreduceIte,reduceCtorEq,Nat.reduceLeDiff,Nat.reduceLT,Nat.reduceSub,Int.reduceToNat,Int.reduceLE,Int.reduceLT, ↓plen, ponx, pg0, ps0, one_ref, one_imm, Int.reduceEq, Int.reduceBEq, e1, e2, hfn, hin, cellT_U32, eq_true hf0, hf0]
    refine go T' vs' vc vo' _ τ _ _ ?_ hnext hf0 ?_ (by rw [t3]; exact g2) g3 rfl rfl rfl rfl rfl rfl rfl
    · show _ = hpS (o0S s) o1S (o4S τ.top) 2 3 _ _ _ _ _ _ _ _ _ _
      simp only [o4S, t1, t2]; rfl
    · rw [flat, t3]; exact g1 hf0
  · rw [endS τ hnext hf0 hst2]
    simp only [go_sem,Nat.reduceEqDiff,Nat.reduceAdd,Nat.reduceMul,↓reduceIte,↓dreduceIte,reduceCtorEq,Nat.reduceLeDiff,Nat.reduceLT,Nat.reduceSub,Int.reduceToNat,Int.reduceLE,Int.reduceLT, ↓plen, ponx, pg0, ps0, one_ref, one_imm, Int.reduceEq, Int.reduceBEq, e1, e2, hfn, hin, cellT_U32, eq_false hf0]
    rcases g3 with ⟨rfl, ho⟩ | ⟨k0, so, rfl, hT⟩
    · simp only [go_sem,Nat.reduceEqDiff,Nat.reduceAdd,Nat.reduceMul,↓reduceIte,↓dreduceIte,reduceCtorEq,Nat.reduceLeDiff,Nat.reduceLT,Nat.reduceSub,Int.reduceToNat,Int.reduceLE,Int.reduceLT, ↓plen, ponx, pg0, ps0, one_ref, one_imm, Int.reduceEq, Int.reduceBEq, e1, e2, cellT_U32]
      exact ⟨_, Frz.pure rfl, by first | (rw [ho]; rfl) | (rw [show σ.next.out = [] from ho]; rfl)⟩
    · simp only [go_sem,Nat.reduceEqDiff,Nat.reduceAdd,Nat.reduceMul,↓reduceIte,↓dreduceIte,reduceCtorEq,Nat.reduceLeDiff,Nat.reduceLT,Nat.reduceSub,Int.reduceToNat,Int.reduceLE,Int.reduceLT, ↓plen, ponx, pg0, ps0, one_ref, one_imm, Int.reduceEq, Int.reduceBEq, e1, e2, cellT_U32, hT, take_all, bytesOf_U8]
      exact ⟨_, Frz.pure rfl, rfl⟩
end Go.Proofs.Ytdfdkoajphcjbaa
