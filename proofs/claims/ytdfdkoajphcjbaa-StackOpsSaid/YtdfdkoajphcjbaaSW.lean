/-
  word.Bytes of one word: its contract. No condition.
-/
import Derived.Test.YtdfdkoajphcjbaaSG
namespace Go.Proofs.Ytdfdkoajphcjbaa
set_option linter.unusedSimpArgs false
set_option linter.unusedVariables false
set_option maxRecDepth 10000
open Go.V

def bytes1 (v : Int) : List UInt8 := [byteS (applyW 13 v 0).1, byteS (applyW 13 v 8).1, byteS (applyW 13 v 16).1, byteS (applyW 13 v 24).1]
theorem shr_in (v : Int) (k : Nat) (hv : In32 v) (hk : k < 32) : byteS (applyW 13 v k).1 = byteS (v.fdiv (2 ^ k)) := by
  unfold applyW
  simp [shrW]
  rw [if_neg (by omega), Nat.min_eq_left (by simp only [IntKind.bits]; omega)]
theorem bytes1_c (v : Int) (hv : In32 v) : ContractN Try.prog 16 [.imm 1 [U32 v]] (fun r => r = strv ⟨(bytes1 v).toArray⟩) := by
  refine Contract.vals (C := fun r => r = strv ⟨(bytes1 v).toArray⟩) ?_ fun r hr => .inl ⟨_, hr⟩
  refine Contract.of_call (VCall.of_body hmix f_word_Bytes (by simp) ?_)
  have hmx : (2000000 : Nat) ≤ maxLen := by decide
  have w4 : IntKind.i64.wrap (4 * ((1 : Nat) : Int)) = 4 := rfl
  obtain ⟨bs, hbs⟩ : ∃ bs, bs = bytes1 v := ⟨_, rfl⟩
  have hbl : bs.length = 4 := by rw [hbs]; rfl
  rw [← hbs]
  simp only [go_sem,Nat.reduceEqDiff,Nat.reduceAdd,Nat.reduceMul,↓reduceIte,↓dreduceIte,reduceCtorEq,Nat.reduceLeDiff,Nat.reduceLT,Nat.reduceSub,Int.reduceToNat,Int.reduceLE,Int.reduceLT, c_word_Bytes, one_imm, one_ref, w4]
  repeat (refine And.intro (by omega) ?_)
  refine VW_loop (fun k : Nat => if k = 0 then ⟨[(12, I 0), (11, I 1), (10, .imm 1 [U32 v]), (3, .ref 0 0 0 0)], [⟨0, 5, 1, []⟩], 1⟩ else ⟨[(12, I 1), (11, I 1), (10, .imm 1 [U32 v]), (3, .ref 0 2 0 4)], [⟨2, 5, 1, bs.map U8⟩], 3⟩)
    (fun k => k ≤ 1) (fun k => 1 - k) 0 (Wk.mk (by simp [get_cons]) ⟨[], by simp⟩ (Nat.le_refl _)) (by omega) ?_
  intro k hk
  match k, hk with
  | 0, _ =>
    rw [if_pos rfl]
    simp only [go_sem,Nat.reduceEqDiff,Nat.reduceAdd,Nat.reduceMul,↓reduceIte,↓dreduceIte,reduceCtorEq,Nat.reduceLeDiff,Nat.reduceLT,Nat.reduceSub,Int.reduceToNat,Int.reduceLE,Int.reduceLT, one_imm, one_ref]
    repeat (with_reducible refine And.intro (by first | decide | omega | simp) ?_)
    refine ⟨1, by omega, by omega, ?_⟩
    rw [if_neg (by omega)]
    have e : bs.map U8 = [.val (.int .u8 (IntKind.u8.wrap v)), .val (.int .u8 (IntKind.u8.wrap (v.fdiv (2 ^ 8)))), .val (.int .u8 (IntKind.u8.wrap (v.fdiv (2 ^ 16)))), .val (.int .u8 (IntKind.u8.wrap (v.fdiv (2 ^ 24))))] := by
      rw [hbs]
      simp only [bytes1, List.map_cons, List.map_nil, u8_byteS]
      have h0 := shr_in v 0 hv (by decide)
      have h8 := shr_in v 8 hv (by decide)
      have h16 := shr_in v 16 hv (by decide)
      have h24 := shr_in v 24 hv (by decide)
      simp at h0 h8 h16 h24
      simp [h0, h8, h16, h24]
    refine Wk.mk (by simp [get_cons]; decide) ⟨[⟨1, 5, 1, bs.map U8⟩], ?_⟩ (Nat.le_refl _)
    rw [e]
    simp
    done
  | 1, _ =>
    rw [if_neg (by omega)]
    simp only [go_sem,Nat.reduceEqDiff,Nat.reduceAdd,Nat.reduceMul,↓reduceIte,↓dreduceIte,reduceCtorEq,Nat.reduceLeDiff,Nat.reduceLT,Nat.reduceSub,Int.reduceToNat,Int.reduceLE,Int.reduceLT, one_imm, one_ref]
    rw [show (bs.map U8).take 4 = bs.map U8 from List.take_of_length_le (by simp [hbl])]
    simp only [go_sem,Nat.reduceEqDiff,Nat.reduceAdd,Nat.reduceMul,↓reduceIte,↓dreduceIte,reduceCtorEq,Nat.reduceLeDiff,Nat.reduceLT,Nat.reduceSub,Int.reduceToNat,Int.reduceLE,Int.reduceLT, one_imm, one_ref]
    exact ⟨_, Frz.pure rfl, rfl⟩
end Go.Proofs.Ytdfdkoajphcjbaa
