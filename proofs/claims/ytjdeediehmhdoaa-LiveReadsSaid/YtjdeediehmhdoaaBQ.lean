/-
  The search's beginning, whole, and the evaluator of the live registers: contracts. No condition.
-/
import Derived.Test.YtjdeediehmhdoaaBP
namespace Go.Proofs.Ytjdeediehmhdoaa
set_option linter.unusedSimpArgs false
set_option linter.unusedVariables false
set_option maxRecDepth 10000
open Go.V

theorem solverOf_v (f : BF) (hf : Fine f) (hr : f.r ≤ 64) : SolverOfV f := by
  intro o0 o1 C t0 t1 hC
  refine VCall.of_body hmix f_live_solverOf (by simp) ?_
  have hn5 : f.n ≤ 500 := hf.b1
  have hmx : (200000 : Nat) ≤ maxLen := by decide
  have hlen : f.bks.length = f.n := rfl
  have hc : c_live_solverOf = VC.seq _ (VC.seq _ (VC.seq _ c_live_solverOf.tl.tl.tl)) := rfl
  have htail := fun ka kw hk env he1 he3 he4 H hl h0 h1 h2 hS ha hw => solver_tail f hf hr ka kw hk o0 o1 t0 t1 env he1 he3 he4 H hl h0 h1 h2 hS ha hw C (fun q H nx wv h g0 g1 => hC q H nx wv h g0 g1)
  obtain ⟨D, hD⟩ : ∃ D, D = c_live_solverOf.tl.tl.tl := ⟨_, rfl⟩
  rw [← hD] at htail
  rw [hc, ← hD]
  have hrp : ∀ m, (List.replicate m [AV.val (.slice none 0 0)]).flatten = List.replicate m nilv := fun m => by simp [List.flatten_replicate_singleton]
  have hrb : ∀ m, (List.replicate m [AV.val (.bool false)]).flatten = (List.replicate m false).map B := fun m => by simp [List.flatten_replicate_singleton]
  simp only [go_sem,Nat.reduceEqDiff,Nat.reduceAdd,Nat.reduceMul,↓reduceIte,↓dreduceIte,reduceCtorEq,Nat.reduceLeDiff,Nat.reduceLT,Nat.reduceSub,Int.reduceToNat,Int.reduceLE,Int.reduceLT, one_imm, one_ref, List.length_map, hlen]
  refine ECall.of (next_c f hf.b1) (SleL.pure rfl) ⟨_, fun _ => Iff.rfl⟩ fun x hx => ?_
  subst hx
  simp only [go_sem,Nat.reduceEqDiff,Nat.reduceAdd,Nat.reduceMul,↓reduceIte,↓dreduceIte,reduceCtorEq,Nat.reduceLeDiff,Nat.reduceLT,Nat.reduceSub,Int.reduceToNat,Int.reduceLE,Int.reduceLT, one_imm, one_ref, List.length_map, hlen]
  repeat' (with_reducible apply And.intro)
  all_goals first | omega | skip
  · rw [hrp, hrb]
    exact htail 3 4 (.inl ⟨rfl, rfl⟩) _ rfl rfl rfl _ rfl rfl rfl rfl rfl rfl rfl
  · rw [hrp, hrb]
    exact htail 4 3 (.inr ⟨rfl, rfl⟩) _ rfl rfl rfl _ rfl rfl rfl rfl rfl rfl rfl
theorem live_of_c (f : BF) (hf : Fine f) (hr : f.r ≤ 64) (L : LD) (hL : Least f L) : Contract Try.prog 13 [bfA f] (fun x => x = liveA L) := of_c f hf hr (solverOf_v f hf hr) L hL
end Go.Proofs.Ytjdeediehmhdoaa
