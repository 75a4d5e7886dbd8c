/-
  Words that were not done play no part: the plain law. No condition.
-/
import Derived.Test.YtjoldjcfabbekaaEO
namespace Go.Proofs.Ytjoldjcfabbekaa
set_option linter.unusedSimpArgs false
set_option linter.unusedVariables false
set_option maxRecDepth 10000
open Go.V

theorem insF_code (code code' : List Int) (inp : ByteArray) (s : S) (op a b c : Int) (h : op ≠ 27) : insF code' inp s op a b c = insF code inp s op a b c := by
  unfold insF; simp only [if_neg h]
/-- But for ldc the next state hangs on the word at its place. -/
theorem stepF_hangs (code code' : List Int) (inp : ByteArray) (s : S) (h1 : 0 ≤ s.pc) (h2 : s.pc < code.length) (h3 : s.pc < code'.length) (h4 : code'.getD s.pc.toNat default = code.getD s.pc.toNat default)
    (h5 : ¬ (okW (code.getD s.pc.toNat default) = true ∧ opW (code.getD s.pc.toNat default) = 27)) : stepF code' inp s = stepF code inp s := by
  unfold stepF
  rw [if_neg (show ¬ (s.pc < 0 ∨ (code.length : Int) ≤ s.pc) by omega), if_neg (show ¬ (s.pc < 0 ∨ (code'.length : Int) ≤ s.pc) by omega), h4]
  by_cases hf : s.fin = 0
  · rw [if_pos hf, if_pos hf]
    unfold wordF
    cases hk : okW (code.getD s.pc.toNat default)
    · rfl
    · rw [insF_code code code' inp _ _ _ _ _ (fun e => h5 ⟨hk, e⟩)]
  · rw [if_neg hf, if_neg hf]

theorem decA_as (w : Int) : ∃ o a b c e : Int, decA w = .tup [insA o a b c, I e] ∧ ((e = 0 ∧ o = 27) ↔ (okW w = true ∧ opW w = 27)) := by
  unfold decA
  cases okW w
  · exact ⟨0, 0, 0, 0, 7, rfl, by simp⟩
  · exact ⟨_, _, _, _, 0, rfl, by simp⟩

/-- The words that were done, others in the place of the rest. -/
def codeX (code l : List Int) (other : Int) : List Int := List.zipWith (fun w c => if c = 0 then other else w) code l
theorem codeX_len {code l : List Int} {other : Int} (h : l.length = code.length) : (codeX code l other).length = code.length := by
  simp [codeX, h]
theorem codeX_get {code l : List Int} {other : Int} (h : l.length = code.length) {i : Nat} (hi : i < code.length) : (codeX code l other).getD i default = if l.getD i default = 0 then other else code.getD i default := by
  have h1 : i < l.length := by omega
  have h2 : i < (codeX code l other).length := by rw [codeX_len h]; exact hi
  simp only [List.getD_eq_getElem?_getD, List.getElem?_eq_getElem hi, List.getElem?_eq_getElem h1, List.getElem?_eq_getElem h2, Option.getD_some]
  simp [codeX]
theorem codeX_in {code l : List Int} {other : Int} (hc : ∀ x ∈ code, In32 x) (ho : In32 other) : ∀ x ∈ codeX code l other, In32 x := fun x hx => by
  unfold codeX at hx
  obtain ⟨i, hi, rfl⟩ := List.getElem_of_mem hx
  rw [List.getElem_zipWith]
  split
  · exact ho
  · exact hc _ (List.getElem_mem _)

theorem cntL_up (code : List Int) (inp : ByteArray) (σ : S) (i k : Nat) : (cntL code inp σ k).getD i default ≤ (cntL code inp σ (k + 1)).getD i default := by
  simp only [cntL]
  split
  · simp only [List.getD_eq_getElem?_getD, List.getElem?_set]
    split
    · rename_i e
      subst e
      split
      · rename_i hlt
        rw [List.getElem?_eq_getElem hlt]
        simp only [Option.getD_some]
        omega
      · rename_i hge
        rw [List.getElem?_eq_none (by omega)]
        simp
    · exact Int.le_refl _
  · exact Int.le_refl _
theorem cntL_mono (code : List Int) (inp : ByteArray) (σ : S) (i k : Nat) : ∀ d, (cntL code inp σ k).getD i default ≤ (cntL code inp σ (k + d)).getD i default
  | 0 => Int.le_refl _
  | d + 1 => Int.le_trans (cntL_mono code inp σ i k d) (cntL_up code inp σ i (k + d))
/-- What is done counts. -/
theorem cntL_done {code : List Int} {inp : ByteArray} {σ : S} {k : Nat} (h : doneF code (runN code inp σ k) = true) : 1 ≤ (cntL code inp σ (k + 1)).getD (runN code inp σ k).pc.toNat default := by
  have hd := h
  simp only [doneF, Bool.and_eq_true, decide_eq_true_eq] at hd
  obtain ⟨_, h1, h2⟩ := hd
  have hl := cntL_len code inp σ k
  have hp : (runN code inp σ k).pc.toNat < (cntL code inp σ k).length := by omega
  have h0 := cntL_le code inp σ k _ (List.getElem_mem hp)
  simp only [cntL, if_pos h, List.getD_eq_getElem?_getD, List.getElem?_set_self hp, List.getElem?_eq_getElem hp, Option.getD_some]
  omega

/-- WORDS THAT WERE NOT DONE PLAY NO PART, where no ldc was done. -/
theorem runN_words {code : List Int} {inp : ByteArray} {σ : S} {other : Int} {n : Nat} (hl : ∀ i, i < code.length → 0 < (cntL code inp σ n).getD i default → ¬ (okW (code.getD i default) = true ∧ opW (code.getD i default) = 27)) :
    ∀ j, j ≤ n → runN (codeX code (cntL code inp σ n) other) inp σ j = runN code inp σ j
  | 0, _ => rfl
  | j + 1, hj => by
    have ih := runN_words (other := other) hl j (by omega)
    show stepF _ inp (runN (codeX code (cntL code inp σ n) other) inp σ j) = stepF code inp (runN code inp σ j)
    rw [ih]
    have hlen : (codeX code (cntL code inp σ n) other).length = code.length := codeX_len (cntL_len ..)
    cases hd : doneF code (runN code inp σ j)
    · by_cases hf : (runN code inp σ j).fin = 0
      · have hp : (runN code inp σ j).pc < 0 ∨ (code.length : Int) ≤ (runN code inp σ j).pc := by
          simp only [doneF, hf, decide_true, Bool.true_and, Bool.and_eq_false_iff, decide_eq_false_iff_not] at hd
          omega
        unfold stepF
        rw [if_pos hf, if_pos hf, if_pos hp, if_pos (by rw [hlen]; exact hp)]
      · rw [stepF_stays hf, stepF_stays hf]
    · have hd' := hd
      simp only [doneF, Bool.and_eq_true, decide_eq_true_eq] at hd'
      obtain ⟨_, h1, h2⟩ := hd'
      have hc := cntL_done hd
      have hm := cntL_mono code inp σ (runN code inp σ j).pc.toNat (j + 1) (n - (j + 1))
      rw [show j + 1 + (n - (j + 1)) = n by omega] at hm
      refine stepF_hangs code _ inp _ h1 h2 (by rw [hlen]; exact h2) ?_ (hl _ (by omega) (by omega))
      rw [codeX_get (cntL_len ..) (by omega), if_neg (by omega)]
end Go.Proofs.Ytjoldjcfabbekaa
