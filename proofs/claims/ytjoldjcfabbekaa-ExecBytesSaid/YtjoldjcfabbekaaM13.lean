/-
  The machine: contracts: the beginning, a step. No condition.
-/
import Derived.Test.YtjoldjcfabbekaaM12
namespace Go.Proofs.Ytjoldjcfabbekaa
set_option linter.unusedSimpArgs false
set_option linter.unusedVariables false
set_option maxRecDepth 10000
open Go.V

abbrev imgA (code : List Int) (data : Int) : AV := .agg [words code, I data]

theorem bytes_ext {a b : ByteArray} (h : a.data.toList = b.data.toList) : a = b := by
  cases a; cases b; simp only [ByteArray.mk.injEq]; exact Array.toList_inj.1 h

theorem MemAt.frz {n : Nat} {H : List VObj} {nx : Nat} {L T : List VObj} {m : AV} {own : Bool} {mem : List Int} (h : MemAt L T m own mem) (hn : n ≤ L.length) (hT : ∀ k ob, T[k]? = some ob → H[L.length + (k + 1)]? = some ob) : Frz n H nx m (words mem) := by
  rcases h with ⟨_, rfl⟩ | ⟨_, k, sm, rfl, hk⟩
  · exact Frz.pure rfl
  · exact frz_map (f := U32) (g := U32) (by omega) (hT k _ hk) rfl (fun _ => rfl) fun _ _ => Frz.pure rfl

section
variable (code : List Int) (inp : ByteArray) (pc : Int) (f : Nat → Int) (m : AV) (rd : Int) (out outT : ByteArray) (st fin : Int) (own : Bool) (more : AV) (bs : List UInt8) (L T : List VObj) (s nx : Nat)
theorem rstate_v (hm : m.one = true) (hmo : MoreAt L T more bs) (hout : outT.data.toList = out.data.toList ++ bs) (hol : outT.size ≤ 1000001) (C : AV → List VObj → Nat → Prop)
    (hC : ∀ R more' nx', MoreAt L (T ++ R) more' [] → C (.agg (stc pc f m rd outT st fin)) (L ++ rob s (rnc (words code) inp pc f m rd outT st fin false more') :: (T ++ R)) nx') :
    VCall Try.prog 33 [.ptr L.length s 0] (L ++ rob s (rnc (words code) inp pc f m rd out st fin own more) :: T) nx C := by
  refine VCall.of_body hmix f_machine_Runner_State (by simp) ?_
  have hmx : (2000000 : Nat) ≤ maxLen := by decide
  rcases hmo with ⟨rfl, rfl⟩ | ⟨k, sm, rfl, hT⟩
  · have : outT = out := bytes_ext (by rw [hout]; simp)
    subst this
    simp only [go_sem,Nat.reduceEqDiff,Nat.reduceAdd,Nat.reduceMul,↓reduceIte,↓dreduceIte,reduceCtorEq,Nat.reduceLeDiff,Nat.reduceLT,Nat.reduceSub,Int.reduceToNat,Int.reduceLE,Int.reduceLT, c_machine_Runner_State, olen, oadd, og0, os0, ogk, osk, ogn, osn, onx, rnc_length, stc_length, stc_all, s_all, r_st_, r_pc, r_code, r_own, r_out, r_more, r_st, r_fin, r_mem, cellT_U32, rs_pc, rs_mem, rs_own, rs_out, rs_more, rs_st, rs_fin, one_imm, one_ref, Int.reduceEq, Int.reduceBEq]
    exact ⟨hm, hC _ _ _ (.inl ⟨rfl, rfl⟩)⟩
  · have hT2 : ∀ R, (T ++ R)[k]? = some ⟨sm, 5, 1, bs.map U8⟩ := fun R => by rw [List.getElem?_append_left (List.getElem?_eq_some_iff.1 hT).1]; exact hT
    have htk : (bs.map U8).take bs.length = bs.map U8 := List.take_of_length_le (by simp)
    have hcat : out ++ ⟨bs.toArray⟩ = outT := bytes_ext (by rw [hout]; simp)
    have hsz : outT.size = out.size + bs.length := by
      have := congrArg List.length hout
      simp only [List.length_append, Array.length_toList] at this
      exact this
    have hsz2 : (⟨bs.toArray⟩ : ByteArray).size = bs.length := by simp [ByteArray.size]
    have hsz3 : bs.toArray.size = bs.length := by simp
    by_cases h : bs = []
    · subst h
      have : outT = out := bytes_ext (by rw [hout]; simp)
      subst this
      have hz0 : ((0 : Nat) : Int) = 0 := rfl
      simp only [go_sem,Nat.reduceEqDiff,Nat.reduceAdd,Nat.reduceMul,↓reduceIte,↓dreduceIte,reduceCtorEq,Nat.reduceLeDiff,Nat.reduceLT,Nat.reduceSub,Int.reduceToNat,Int.reduceLE,Int.reduceLT, hz0, c_machine_Runner_State, olen, oadd, og0, os0, ogk, osk, ogn, osn, onx, rnc_length, stc_length, stc_all, s_all, r_st_, r_pc, r_code, r_own, r_out, r_more, r_st, r_fin, r_mem, cellT_U32, rs_pc, rs_mem, rs_own, rs_out, rs_more, rs_st, rs_fin, one_imm, one_ref, Int.reduceEq, Int.reduceBEq, hT2]
      exact ⟨hm, hC _ _ _ (.inr ⟨k, sm, rfl, hT2 _⟩)⟩
    · have hpos : (0 : Int) < (bs.length : Int) := by have := List.length_pos_iff.2 h; omega
      simp only [go_sem,Nat.reduceEqDiff,Nat.reduceAdd,Nat.reduceMul,↓reduceIte,↓dreduceIte,reduceCtorEq,Nat.reduceLeDiff,Nat.reduceLT,Nat.reduceSub,Int.reduceToNat,Int.reduceLE,Int.reduceLT, c_machine_Runner_State, olen, oadd, og0, os0, ogk, osk, ogn, osn, onx, rnc_length, stc_length, stc_all, s_all, r_st_, r_pc, r_code, r_own, r_out, r_more, r_st, r_fin, r_mem, cellT_U32, rs_pc, rs_mem, rs_own, rs_out, rs_more, rs_st, rs_fin, one_imm, one_ref, Int.reduceEq, Int.reduceBEq, hT2, htk, eq_true hpos, hcat]
      exact ⟨by omega, hm, hC _ _ _ (.inl ⟨rfl, rfl⟩)⟩
end

/-- The objects ahead of the runner. -/
def stepL (code : List Int) (data pc : Int) (f : Nat → Int) (mem : List Int) (rd : Int) (out : ByteArray) (st fin : Int) : List VObj :=
  [⟨0, 24, 1, [words code, I data]⟩, ⟨1, 37, 1, stc pc f (words mem) rd out st fin⟩, ⟨2, 37, 1, stc 0 (fun _ => 0) nilv 0 ⟨#[]⟩ 0 0⟩, ⟨3, 24, 1, [words code, I data]⟩, ⟨4, 37, 1, stc pc f (words mem) rd out st fin⟩]

theorem step_c (code : List Int) (data : Int) (inp : ByteArray) (s : S) (hcode : ∀ x ∈ code, In32 x) (hcl : code.length ≤ 1000000) (hi : inp.size ≤ 1000000000) (hs : Wf s) (hl : s.mem.length ≤ 1000000) (hol : s.out.size ≤ 1000000) :
    Contract Try.prog 24 [imgA code data, strv inp, stA s] (fun r => r = stA (stepF code inp s)) := by
  refine Contract.of_call (VCall.of_body hmix f_machine_Step (by simp) ?_)
  have hwf := stepF_wf code inp s hcode hs
  obtain ⟨pc, f, mem, rd, out, st, fin⟩ := s
  have hf : ∀ k, In32 (f k) := hs.reg
  simp only at hl hol
  simp only [go_sem,Nat.reduceEqDiff,Nat.reduceAdd,Nat.reduceMul,↓reduceIte,↓dreduceIte,reduceCtorEq,Nat.reduceLeDiff,Nat.reduceLT,Nat.reduceSub,Int.reduceToNat,Int.reduceLE,Int.reduceLT, c_machine_Step, s_all, stc_length, stc_all, one_imm]
  repeat (refine And.intro (by omega) ?_)
  refine VCall.of_body hmix f_machine_New (by simp) ?_
  simp only [go_sem,Nat.reduceEqDiff,Nat.reduceAdd,Nat.reduceMul,↓reduceIte,↓dreduceIte,reduceCtorEq,Nat.reduceLeDiff,Nat.reduceLT,Nat.reduceSub,Int.reduceToNat,Int.reduceLE,Int.reduceLT, c_machine_New, s_all, stc_length, stc_all, one_imm]
  refine ⟨rfl, ?_⟩
  refine rstep_v code inp pc f (words mem) mem rd out out st fin false nilv [] (stepL code data pc f mem rd out st fin) [] 5 6 hcode hcl hf hi (.inl ⟨rfl, rfl⟩) hl (.inl ⟨rfl, rfl⟩) (by simp) hol _ fun T' m' own' more' bs' nx' g1 g2 g3 _ => ?_
  have hl5 : (stepL code data pc f mem rd out st fin).length = 5 := rfl
  have hg2 : ∀ R, (stepL code data pc f mem rd out st fin ++ R)[2]? = some ⟨2, 37, 1, stc 0 (fun _ => 0) nilv 0 ⟨#[]⟩ 0 0⟩ := fun R => rfl
  generalize stepL code data pc f mem rd out st fin = L at *
  have hs2 : ∀ x R, (L ++ R).set 2 x = L.set 2 x ++ R := fun x R => List.set_append_left _ _ (by omega)
  have hg2' : ∀ x R, (L.set 2 x ++ R)[2]? = some x := fun x R => by rw [List.getElem?_append_left (by simp; omega), List.getElem?_set, if_pos rfl, if_pos (by omega)]
  generalize stepF code inp ⟨pc, f, mem, rd, out, st, fin⟩ = s' at *
  obtain ⟨pc', f', mem', rd', out', st', fin'⟩ := s'
  simp only at g1 g3
  simp only [go_sem,Nat.reduceEqDiff,Nat.reduceAdd,Nat.reduceMul,↓reduceIte,↓dreduceIte,reduceCtorEq,Nat.reduceLeDiff,Nat.reduceLT,Nat.reduceSub,Int.reduceToNat,Int.reduceLE,Int.reduceLT]
  rw [show AV.ptr 5 5 0 = AV.ptr L.length 5 0 by rw [hl5]]
  refine rstate_v code inp pc' f' m' rd' out out' st' fin' own' more' bs' L T' 5 _ g1.one g2 g3 ?_ _ fun R more2 nx2 g4 => ?_
  · have := hwf.2.2.2
    simp only at this; omega
  simp only [go_sem,Nat.reduceEqDiff,Nat.reduceAdd,Nat.reduceMul,↓reduceIte,↓dreduceIte,reduceCtorEq,Nat.reduceLeDiff,Nat.reduceLT,Nat.reduceSub,Int.reduceToNat,Int.reduceLE,Int.reduceLT, hg2, hs2, hg2', stc_length, stc_all, s_all, s_put, s_put']
  have hone : m'.one = true := g1.one
  refine ⟨hone, _, stA_frz' (g1.frz (Nat.zero_le _) fun k ob hk => ?_), rfl⟩
  rw [show L.length = (L.set 2 ⟨2, 37, 1, stc pc' f' m' rd' out' st' fin'⟩).length by simp, ogk, List.getElem?_append_left (List.getElem?_eq_some_iff.1 hk).1]
  exact hk
end Go.Proofs.Ytjoldjcfabbekaa
