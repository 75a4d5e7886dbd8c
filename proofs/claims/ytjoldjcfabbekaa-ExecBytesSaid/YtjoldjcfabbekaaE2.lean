/-
  Runs with fuel: the loop's function steps. No condition.
-/
import Derived.Test.YtjoldjcfabbekaaE1
namespace Go.Proofs.Ytjoldjcfabbekaa
set_option linter.unusedSimpArgs false
set_option linter.unusedVariables false
set_option maxRecDepth 10000
open Go.V

/-- What is known at the head of the loop of steps. -/
structure XQ where
  k : Nat
  T : List VObj
  m : AV
  own : Bool
  more : AV
  bs : List UInt8
  nx : Nat

theorem steps_v (code : List Int) (inp : ByteArray) (σ : S) (fuel : Int) (n sR s6 s7 sy nx0 : Nat) (R0 : VObj) (Lf : Nat → List VObj) (T0 : List VObj) (C : AV → List VObj → Nat → Prop)
    (hcode : ∀ x ∈ code, In32 x) (hcl : code.length ≤ 1000000) (hi : inp.size ≤ 1000000000) (hw : Wf σ) (hl : σ.mem.length ≤ 1000000) (hol : σ.out.size + fuel.toNat ≤ 1000000) (hfu : fuel ≤ 1000000)
    (hlen : ∀ k, (Lf k).length = n) (hz : R0.sz = 0)
    (hT0 : T0 = [⟨s6, 64, 1, [.ptr n sR 0]⟩, ⟨s7, 3, 1, [I fuel]⟩, R0])
    (hy : ∀ (k : Nat) (T : List VObj) (o : VObj) (nx : Nat) (C : AV → List VObj → Nat → Prop), k < fuel.toNat → doneF code (runN code inp σ k) = true → Keep T0 T → C (B true) (Lf (k + 1) ++ o :: T) nx → YCall Try.prog (n + 3) sy [I (runN code inp σ k).pc] (Lf k ++ o :: T) nx C)
    (hL : ∀ k, doneF code (runN code inp σ k) = false → Lf (k + 1) = Lf k)
    (hC : ∀ r T m own more bs nx, MemAt (Lf fuel.toNat) T m own (runN code inp σ fuel.toNat).mem → MoreAt (Lf fuel.toNat) T more bs → (runN code inp σ fuel.toNat).out.data.toList = σ.out.data.toList ++ bs → Keep T0 T →
      C r (Lf fuel.toNat ++ rob sR (rnc (words code) inp (runN code inp σ fuel.toNat).pc (runN code inp σ fuel.toNat).reg m (runN code inp σ fuel.toNat).rd σ.out (runN code inp σ fuel.toNat).st (runN code inp σ fuel.toNat).fin own more) :: T) nx) :
    VCall Try.prog 39 [.yld (n + 3) sy, .ptr (n + 2) s7 0, .ptr (n + 1) s6 0]
      (Lf 0 ++ rob sR (rnc (words code) inp σ.pc σ.reg (words σ.mem) σ.rd σ.out σ.st σ.fin false nilv) :: T0) nx0 C := by
  refine VCall.of_bodyB hmix f_exec_steps_1 (by simp) ?_
  have hwf := runN_wf (code := code) (inp := inp) hcode hw
  have hst : ∀ k, (runN code inp σ k).fin ≠ 0 → ∀ d, runN code inp σ (k + d) = runN code inp σ k ∧ Lf (k + d) = Lf k := fun k h d => by
    induction d with
    | zero => exact ⟨rfl, rfl⟩
    | succ d ih =>
      refine ⟨runN_stays h (d + 1), ?_⟩
      rw [← ih.2]
      exact hL (k + d) (by rw [ih.1]; simp [doneF, h])
  simp only [go_sem,Nat.reduceEqDiff,Nat.reduceAdd,Nat.reduceMul,↓reduceIte,↓dreduceIte,reduceCtorEq,Nat.reduceLeDiff,Nat.reduceLT,Nat.reduceSub,Int.reduceToNat,Int.reduceLE,Int.reduceLT, c_exec_steps_1]
  refine VW_loop (fun q : XQ => ⟨[(0, .yld (n + 3) sy), (1, .ptr (n + 2) s7 0), (2, .ptr (n + 1) s6 0), (4, I q.k)], Lf q.k ++ rob sR (rnc (words code) inp (runN code inp σ q.k).pc (runN code inp σ q.k).reg q.m (runN code inp σ q.k).rd σ.out (runN code inp σ q.k).st (runN code inp σ q.k).fin q.own q.more) :: q.T, q.nx⟩)
    (fun q => q.k ≤ fuel.toNat ∧ MemAt (Lf q.k) q.T q.m q.own (runN code inp σ q.k).mem ∧ MoreAt (Lf q.k) q.T q.more q.bs ∧ (runN code inp σ q.k).out.data.toList = σ.out.data.toList ++ q.bs ∧ Keep T0 q.T) (fun q => fuel.toNat - q.k)
    ⟨0, T0, words σ.mem, false, nilv, [], nx0⟩ (Wk.mk (by simp [get_cons]) ⟨[], (List.append_nil _).symm⟩ (Nat.le_refl _)) ⟨Nat.zero_le _, .inl ⟨rfl, rfl⟩, .inl ⟨rfl, rfl⟩, by show σ.out.data.toList = _; simp, Keep.refl _⟩ ?_
  rintro ⟨k, T, m, own, more, bs, nx⟩ ⟨h1, h2, h3, h4, h5⟩
  simp only at h1 h2 h3 h4 h5
  have hk := hlen k
  have g6 : ∀ o : VObj, (Lf k ++ o :: T)[n + 1]? = some ⟨s6, 64, 1, [.ptr n sR 0]⟩ := fun o => by
    have e := ogk (Lf k) o T 0
    rw [hk] at e
    exact e.trans (h5 0 _ (by rw [hT0]; rfl) (.inr ⟨by simp, by simp⟩))
  have g7 : ∀ o : VObj, (Lf k ++ o :: T)[n + 2]? = some ⟨s7, 3, 1, [I fuel]⟩ := fun o => by
    have e := ogk (Lf k) o T 1
    rw [hk] at e
    exact e.trans (h5 1 _ (by rw [hT0]; rfl) (.inr ⟨by simp, by simp⟩))
  obtain ⟨ρ, hρ⟩ : ∃ ρ, runN code inp σ k = ρ := ⟨_, rfl⟩
  have hρ1 : runN code inp σ (k + 1) = stepF code inp ρ := by rw [← hρ]; rfl
  obtain ⟨w1, w2, w3⟩ := hwf k
  have hh := hst k
  have hyk := hy k
  have hLk := hL k
  rw [hρ] at h2 h4 w1 w2 w3 hh hyk hLk
  by_cases c1 : (k : Int) < fuel
  · by_cases c2 : ρ.fin = 0
    · simp only [go_sem,Nat.reduceEqDiff,Nat.reduceAdd,Nat.reduceMul,↓reduceIte,↓dreduceIte,reduceCtorEq,Nat.reduceLeDiff,Nat.reduceLT,Nat.reduceSub,Int.reduceToNat,Int.reduceLE,Int.reduceLT, g6, g7, eq_true c1, hρ]
      refine going_v code inp ρ.pc ρ.reg m ρ.rd σ.out ρ.st ρ.fin own more (Lf k) T sR nx hk _ ?_
      have hg : (ρ.fin == 0) = true := by simp [c2]
      simp only [go_sem,Nat.reduceEqDiff,Nat.reduceAdd,Nat.reduceMul,↓reduceIte,↓dreduceIte,reduceCtorEq,Nat.reduceLeDiff,Nat.reduceLT,Nat.reduceSub,Int.reduceToNat,Int.reduceLE,Int.reduceLT, g6, g7, hg]
      refine pc_v code inp ρ.pc ρ.reg m ρ.rd σ.out ρ.st ρ.fin own more (Lf k) T sR nx hk _ ?_
      simp only [go_sem,Nat.reduceEqDiff,Nat.reduceAdd,Nat.reduceMul,↓reduceIte,↓dreduceIte,reduceCtorEq,Nat.reduceLeDiff,Nat.reduceLT,Nat.reduceSub,Int.reduceToNat,Int.reduceLE,Int.reduceLT, g6, g7]
      refine rstep_at code inp m σ.out own more bs (Lf k) T sR nx hk hcode hcl hi ρ w1 h2 (by omega) h3 h4 (by omega) _ fun T' m' own' more' bs' nx' j1 j2 j3 j4 => ?_
      cases hd : doneF code ρ
      · have e := hLk hd
        simp only [go_sem,Nat.reduceEqDiff,Nat.reduceAdd,Nat.reduceMul,↓reduceIte,↓dreduceIte,reduceCtorEq,Nat.reduceLeDiff,Nat.reduceLT,Nat.reduceSub,Int.reduceToNat,Int.reduceLE,Int.reduceLT]
        rw [i64_in (by omega) (by omega)]
        refine ⟨⟨k + 1, T', m', own', more', bs', nx'⟩, ⟨by simp only; omega, ?_, ?_, ?_, h5.trans j4⟩, by simp only; omega, ?_⟩
        · simp only [hρ1, e]; exact j1
        · simp only [e]; exact j2
        · simp only [hρ1]; exact j3
        · simp only [hρ1, e]
          exact Wk.mk (by simp [get_cons]) ⟨[], (List.append_nil _).symm⟩ (Nat.le_refl _)
      · simp only [go_sem,Nat.reduceEqDiff,Nat.reduceAdd,Nat.reduceMul,↓reduceIte,↓dreduceIte,reduceCtorEq,Nat.reduceLeDiff,Nat.reduceLT,Nat.reduceSub,Int.reduceToNat,Int.reduceLE,Int.reduceLT]
        refine hyk T' _ nx' _ (by omega) hd (h5.trans j4) ?_
        simp only [go_sem,Nat.reduceEqDiff,Nat.reduceAdd,Nat.reduceMul,↓reduceIte,↓dreduceIte,reduceCtorEq,Nat.reduceLeDiff,Nat.reduceLT,Nat.reduceSub,Int.reduceToNat,Int.reduceLE,Int.reduceLT]
        rw [i64_in (by omega) (by omega)]
        have e1 : (Lf k).length = (Lf (k + 1)).length := by rw [hlen, hlen]
        refine ⟨⟨k + 1, T', m', own', more', bs', nx'⟩, ⟨by simp only; omega, ?_, ?_, ?_, h5.trans j4⟩, by simp only; omega, ?_⟩
        · simp only [hρ1]; exact j1.len e1
        · exact j2.len e1
        · simp only [hρ1]; exact j3
        · simp only [hρ1]
          exact Wk.mk (by simp [get_cons]) ⟨[], (List.append_nil _).symm⟩ (Nat.le_refl _)
    · obtain ⟨e1, e2⟩ := hh c2 (fuel.toNat - k)
      rw [show k + (fuel.toNat - k) = fuel.toNat by omega] at e1 e2
      rw [e1, e2] at hC
      simp only [go_sem,Nat.reduceEqDiff,Nat.reduceAdd,Nat.reduceMul,↓reduceIte,↓dreduceIte,reduceCtorEq,Nat.reduceLeDiff,Nat.reduceLT,Nat.reduceSub,Int.reduceToNat,Int.reduceLE,Int.reduceLT, g6, g7, eq_true c1, hρ]
      refine going_v code inp ρ.pc ρ.reg m ρ.rd σ.out ρ.st ρ.fin own more (Lf k) T sR nx hk _ ?_
      have hg : (ρ.fin == 0) = false := by simp [c2]
      simp only [go_sem,Nat.reduceEqDiff,Nat.reduceAdd,Nat.reduceMul,↓reduceIte,↓dreduceIte,reduceCtorEq,Nat.reduceLeDiff,Nat.reduceLT,Nat.reduceSub,Int.reduceToNat,Int.reduceLE,Int.reduceLT, g6, g7, hg]
      exact hC _ T m own more bs nx h2 h3 h4 h5
  · have e : fuel.toNat = k := by omega
    rw [e] at hC
    rw [hρ] at hC
    simp only [go_sem,Nat.reduceEqDiff,Nat.reduceAdd,Nat.reduceMul,↓reduceIte,↓dreduceIte,reduceCtorEq,Nat.reduceLeDiff,Nat.reduceLT,Nat.reduceSub,Int.reduceToNat,Int.reduceLE,Int.reduceLT, g6, g7, eq_false c1, hρ]
    exact hC _ T m own more bs nx h2 h3 h4 h5
end Go.Proofs.Ytjoldjcfabbekaa
