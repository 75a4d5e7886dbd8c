/-
  Runs with fuel: exec.Go. No condition.
-/
import Derived.Test.YtjoldjcfabbekaaE2
namespace Go.Proofs.Ytjoldjcfabbekaa
set_option linter.unusedSimpArgs false
set_option linter.unusedVariables false
set_option maxRecDepth 10000
open Go.V

theorem MemAt.setz {L T : List VObj} {m : AV} {own : Bool} {mem : List Int} (h : MemAt L T m own mem) {j : Nat} {R E : VObj} (hj : T[j]? = some R) (hz : R.sz = 0) : MemAt L (T.set j E) m own mem := by
  rcases h with h | ⟨h1, k, sm, h2, h3⟩
  · exact .inl h
  · refine .inr ⟨h1, k, sm, h2, ?_⟩
    have hne : j ≠ k := fun e => by
      subst e; rw [hj] at h3; cases h3; exact absurd hz (by simp)
    rw [List.getElem?_set, if_neg hne]; exact h3
theorem MoreAt.setz {L T : List VObj} {m : AV} {bs : List UInt8} (h : MoreAt L T m bs) {j : Nat} {R E : VObj} (hj : T[j]? = some R) (hz : R.sz = 0) : MoreAt L (T.set j E) m bs := by
  rcases h with h | ⟨k, sm, h2, h3⟩
  · exact .inl h
  · refine .inr ⟨k, sm, h2, ?_⟩
    have hne : j ≠ k := fun e => by
      subst e; rw [hj] at h3; cases h3; exact absurd hz (by simp)
    rw [List.getElem?_set, if_neg hne]; exact h3

theorem set_of_get {α : Type} {l : List α} {i : Nat} {x : α} (h : l[i]? = some x) : l.set i x = l := by
  obtain ⟨hlt, rfl⟩ := List.getElem?_eq_some_iff.1 h
  exact List.set_getElem_self hlt

theorem go_c (code : List Int) (data : Int) (inp : ByteArray) (σ : S) (fuel : Int) (hcode : ∀ x ∈ code, In32 x) (hcl : code.length ≤ 1000000) (hi : inp.size ≤ 1000000000) (hw : Wf σ) (hl : σ.mem.length ≤ 1000000) (hol : σ.out.size + fuel.toNat ≤ 1000000) (hfu : fuel ≤ 1000000) :
    Contract Try.prog 19 [imgA code data, strv inp, stA σ, I fuel] (fun r => r = stA (runN code inp σ fuel.toNat)) := by
  refine Contract.of_call (VCall.of_bodyB hmix f_exec_Go (by simp) ?_)
  simp only [go_sem,Nat.reduceEqDiff,Nat.reduceAdd,Nat.reduceMul,↓reduceIte,↓dreduceIte,reduceCtorEq,Nat.reduceLeDiff,Nat.reduceLT,Nat.reduceSub,Int.reduceToNat,Int.reduceLE,Int.reduceLT, c_exec_Go, s_all, stc_length, stc_all, one_imm]
  refine new_v code data inp σ _ _ _ ?_
  simp only [go_sem,Nat.reduceEqDiff,Nat.reduceAdd,Nat.reduceMul,↓reduceIte,↓dreduceIte,reduceCtorEq,Nat.reduceLeDiff,Nat.reduceLT,Nat.reduceSub,Int.reduceToNat,Int.reduceLE,Int.reduceLT, s_all, stc_length, stc_all, one_imm]
  refine VCall.of_body hmix f_exec_steps (by simp) ?_
  simp only [go_sem,Nat.reduceEqDiff,Nat.reduceAdd,Nat.reduceMul,↓reduceIte,↓dreduceIte,reduceCtorEq,Nat.reduceLeDiff,Nat.reduceLT,Nat.reduceSub,Int.reduceToNat,Int.reduceLE,Int.reduceLT, c_exec_steps, s_all, stc_length, stc_all, one_imm, s_zero]
  intro R Bo E hz hY
  have hl5 : (stepL code data σ.pc σ.reg σ.mem σ.rd σ.out σ.st σ.fin).length = 5 := rfl
  have hwf := runN_wf (code := code) (inp := inp) hcode hw fuel.toNat
  refine steps_v code inp σ fuel 5 5 6 7 8 _ R (fun _ => stepL code data σ.pc σ.reg σ.mem σ.rd σ.out σ.st σ.fin) _ _ hcode hcl hi hw hl hol hfu (fun _ => hl5) hz rfl (fun k T o nx C h1 h2 h3 h4 => ?_) (fun _ _ => rfl) fun r T m own more bs nx h1 h2 h3 h4 => ?_
  · have hr : (stepL code data σ.pc σ.reg σ.mem σ.rd σ.out σ.st σ.fin ++ o :: T)[8]? = some R := (ogk (stepL code data σ.pc σ.reg σ.mem σ.rd σ.out σ.st σ.fin) o T 2).trans (h3 2 R rfl (.inl hz))
    refine hY _ _ _ _ hr rfl ?_
    simp only [go_sem,Nat.reduceEqDiff,Nat.reduceAdd,Nat.reduceMul,↓reduceIte,↓dreduceIte,reduceCtorEq,Nat.reduceLeDiff,Nat.reduceLT,Nat.reduceSub,Int.reduceToNat,Int.reduceLE,Int.reduceLT]
    have hlt := (List.getElem?_eq_some_iff.1 hr).1
    have hb : ((stepL code data σ.pc σ.reg σ.mem σ.rd σ.out σ.st σ.fin ++ o :: T).set 8 Bo)[8]? = some Bo := by rw [List.getElem?_set, if_pos rfl, if_pos hlt]
    refine ⟨hb, ?_⟩
    rw [List.set_set]
    show C (B true) ((stepL code data σ.pc σ.reg σ.mem σ.rd σ.out σ.st σ.fin ++ o :: T).set 8 R) nx
    rw [set_of_get hr]
    exact h4
  · have hT : T[2]? = some R := h4 2 R rfl (.inl hz)
    refine ⟨(ogk (stepL code data σ.pc σ.reg σ.mem σ.rd σ.out σ.st σ.fin) _ T 2).trans hT, ?_⟩
    have h1' : MemAt (stepL code data σ.pc σ.reg σ.mem σ.rd σ.out σ.st σ.fin) (T.set 2 E) m own (runN code inp σ fuel.toNat).mem := h1.setz hT hz
    have h2' : MoreAt (stepL code data σ.pc σ.reg σ.mem σ.rd σ.out σ.st σ.fin) (T.set 2 E) more bs := h2.setz hT hz
    have hset : ∀ o : VObj, (stepL code data σ.pc σ.reg σ.mem σ.rd σ.out σ.st σ.fin ++ o :: T).set 8 E = stepL code data σ.pc σ.reg σ.mem σ.rd σ.out σ.st σ.fin ++ o :: T.set 2 E := fun o => osk (stepL code data σ.pc σ.reg σ.mem σ.rd σ.out σ.st σ.fin) o E T 2
    have hg2 : ∀ R, (stepL code data σ.pc σ.reg σ.mem σ.rd σ.out σ.st σ.fin ++ R)[2]? = some ⟨2, 37, 1, stc 0 (fun _ => 0) nilv 0 ⟨#[]⟩ 0 0⟩ := fun R => rfl
    clear hY
    generalize stepL code data σ.pc σ.reg σ.mem σ.rd σ.out σ.st σ.fin = L at *
    generalize runN code inp σ fuel.toNat = ρ at *
    have hs2 : ∀ x R, (L ++ R).set 2 x = L.set 2 x ++ R := fun x R => List.set_append_left _ _ (by omega)
    have hg2' : ∀ x R, (L.set 2 x ++ R)[2]? = some x := fun x R => by rw [List.getElem?_append_left (by simp; omega), List.getElem?_set, if_pos rfl, if_pos (by omega)]
    simp only [go_sem,Nat.reduceEqDiff,Nat.reduceAdd,Nat.reduceMul,↓reduceIte,↓dreduceIte,reduceCtorEq,Nat.reduceLeDiff,Nat.reduceLT,Nat.reduceSub,Int.reduceToNat,Int.reduceLE,Int.reduceLT, hset]
    refine rstate_at code inp m σ.out own more bs L (T.set 2 E) 5 _ hl5 ρ h1'.one h2' h3 (by omega) _ fun R2 more2 nx2 g4 => ?_
    simp only [go_sem,Nat.reduceEqDiff,Nat.reduceAdd,Nat.reduceMul,↓reduceIte,↓dreduceIte,reduceCtorEq,Nat.reduceLeDiff,Nat.reduceLT,Nat.reduceSub,Int.reduceToNat,Int.reduceLE,Int.reduceLT, hg2, hs2, hg2', stc_length, stc_all, s_all, s_put, s_put']
    refine ⟨h1'.one, _, stA_frz' (h1'.frz (Nat.zero_le _) fun k ob hk => ?_), rfl⟩
    rw [show L.length = (L.set 2 ⟨2, 37, 1, stc ρ.pc ρ.reg m ρ.rd ρ.out ρ.st ρ.fin⟩).length by simp, ogk, List.getElem?_append_left (List.getElem?_eq_some_iff.1 hk).1]
    exact hk
end Go.Proofs.Ytjoldjcfabbekaa
