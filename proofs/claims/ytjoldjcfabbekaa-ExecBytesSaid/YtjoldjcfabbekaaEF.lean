/-
  What a step may change; steps and what was put out behind many. No condition.
-/
import Derived.Test.YtjoldjcfabbekaaE1
namespace Go.Proofs.Ytjoldjcfabbekaa
set_option linter.unusedSimpArgs false
set_option linter.unusedVariables false
set_option maxRecDepth 10000
open Go.V

/-- What a step may change: a register and the input's place, or a word, or the output. -/
def Fr (s t : S) : Prop :=
  (∃ j v, t.reg = updR s.reg j v ∧ t.mem = s.mem ∧ t.out = s.out ∧ (t.rd = s.rd ∨ t.rd = IntKind.i64.wrap (s.rd + 1))) ∨
  (∃ j v, t.reg = s.reg ∧ t.mem = s.mem.set j v ∧ t.out = s.out ∧ t.rd = s.rd) ∨
  (∃ b, t.reg = s.reg ∧ t.mem = s.mem ∧ t.out = s.out.push b ∧ t.rd = s.rd)
theorem updR_same (f : Nat → Int) : f = updR f 0 (f 0) := by
  funext k; unfold updR; split
  · rename_i h; rw [h]
  · rfl
theorem Fr.same {s t : S} (h1 : t.reg = s.reg) (h2 : t.mem = s.mem) (h3 : t.out = s.out) (h4 : t.rd = s.rd) : Fr s t :=
  .inl ⟨0, s.reg 0, by rw [h1]; exact updR_same _, h2, h3, .inl h4⟩
theorem insF_fr (code : List Int) (inp : ByteArray) (s : S) (op a b c : Int) : Fr s (insF code inp s op a b c).2 := by
  have same : ∀ x, Fr s { s with pc := x } := fun x => Fr.same rfl rfl rfl rfl
  have self : Fr s s := Fr.same rfl rfl rfl rfl
  have reg : ∀ x v, Fr s (setR s x v) := fun x v => .inl ⟨_, _, rfl, rfl, rfl, .inl rfl⟩
  unfold insF
  refine ite_ind (P := fun p : Int × S => Fr s p.2) (fun _ => same _) fun _ => ?_
  refine ite_ind (P := fun p : Int × S => Fr s p.2) (fun _ => same _) fun _ => ?_
  refine ite_ind (P := fun p : Int × S => Fr s p.2) (fun _ => same _) fun _ => ?_
  refine ite_ind (P := fun p : Int × S => Fr s p.2) (fun _ => .inl ⟨_, _, rfl, rfl, rfl, .inl rfl⟩) fun _ => ?_
  refine ite_ind (P := fun p : Int × S => Fr s p.2) (fun _ => same _) fun _ => ?_
  refine ite_ind (P := fun p : Int × S => Fr s p.2) (fun _ => reg _ _) fun _ => ?_
  refine ite_ind (P := fun p : Int × S => Fr s p.2) (fun _ => reg _ _) fun _ => ?_
  refine ite_ind (P := fun p : Int × S => Fr s p.2) (fun _ => reg _ _) fun _ => ?_
  refine ite_ind (P := fun p : Int × S => Fr s p.2) (fun _ => ite_ind (P := fun p : Int × S => Fr s p.2) (fun _ => reg _ _) fun _ => self) fun _ => ?_
  refine ite_ind (P := fun p : Int × S => Fr s p.2) (fun _ => ite_ind (P := fun p : Int × S => Fr s p.2) (fun _ => .inr (.inl ⟨_, _, rfl, rfl, rfl, rfl⟩)) fun _ => self) fun _ => ?_
  refine ite_ind (P := fun p : Int × S => Fr s p.2) (fun _ => ite_ind (P := fun p : Int × S => Fr s p.2) (fun _ => reg _ _) fun _ => self) fun _ => ?_
  refine ite_ind (P := fun p : Int × S => Fr s p.2) (fun _ => ?_) fun _ => ?_
  · exact ite_ind (P := fun x : S => Fr s x) (fun _ => reg _ _) fun _ => .inl ⟨_, _, rfl, rfl, rfl, .inr rfl⟩
  refine ite_ind (P := fun p : Int × S => Fr s p.2) (fun _ => ite_ind (P := fun p : Int × S => Fr s p.2) (fun _ => self) fun _ => .inr (.inr ⟨_, rfl, rfl, rfl, rfl⟩)) fun _ => ?_
  refine ite_ind (P := fun p : Int × S => Fr s p.2) (fun _ => ite_ind (P := fun p : Int × S => Fr s p.2) (fun _ => same _) fun _ => self) fun _ => ?_
  refine ite_ind (P := fun p : Int × S => Fr s p.2) (fun _ => self) fun _ => ?_
  exact ite_ind (P := fun p : Int × S => Fr s p.2) (fun _ => reg _ _) fun _ => self

theorem stepF_fr (code : List Int) (inp : ByteArray) (s : S) : Fr s (stepF code inp s) ∧ ((stepF code inp s).st = s.st ∨ (stepF code inp s).st = IntKind.i64.wrap (s.st + 1)) := by
  refine ite_ind (P := fun x : S => Fr s x ∧ (x.st = s.st ∨ x.st = IntKind.i64.wrap (s.st + 1))) (fun _ => ?_) fun _ => ⟨Fr.same rfl rfl rfl rfl, .inl rfl⟩
  refine ite_ind (P := fun x : S => Fr s x ∧ (x.st = s.st ∨ x.st = IntKind.i64.wrap (s.st + 1))) (fun _ => ⟨Fr.same rfl rfl rfl rfl, .inl rfl⟩) fun _ => ?_
  unfold wordF
  generalize code.getD s.pc.toNat default = w
  have h := insF_fr code inp { s with st := IntKind.i64.wrap (s.st + 1) } (opW w) (raW w) (rbW w) (kW w)
  have k := insF_keeps code inp { s with st := IntKind.i64.wrap (s.st + 1) } (opW w) (raW w) (rbW w) (kW w)
  refine ite_ind (P := fun x : S => Fr s x ∧ (x.st = s.st ∨ x.st = IntKind.i64.wrap (s.st + 1))) (fun _ => ?_) fun _ => ⟨Fr.same rfl rfl rfl rfl, .inr rfl⟩
  generalize insF code inp { s with st := IntKind.i64.wrap (s.st + 1) } (opW w) (raW w) (rbW w) (kW w) = p at *
  refine ite_ind (P := fun x : S => Fr s x ∧ (x.st = s.st ∨ x.st = IntKind.i64.wrap (s.st + 1))) (fun _ => ⟨h, .inr k.2⟩) fun _ => ⟨h, .inr k.2⟩

theorem extract_push (a : ByteArray) (b : UInt8) : (a.push b).extract 0 a.size = a := bytes_ext (by
  rw [ByteArray.data_extract, Array.toList_extract]
  show List.extract (a.data.push b).toList 0 a.data.toList.length = _
  simp)
theorem extract_self (a : ByteArray) : a.extract 0 a.size = a := bytes_ext (by
  rw [ByteArray.data_extract, Array.toList_extract]
  show List.extract a.data.toList 0 a.data.toList.length = _
  rw [List.extract_eq_take_drop]
  exact List.take_of_length_le (Nat.le_refl _))


theorem stepF_live {code : List Int} {inp : ByteArray} {s : S} (h : (stepF code inp s).fin = 0) : s.fin = 0 ∧ (stepF code inp s).st = IntKind.i64.wrap (s.st + 1) := by
  by_cases h0 : s.fin = 0
  · refine ⟨h0, ?_⟩
    by_cases h1 : s.pc < 0 ∨ (code.length : Int) ≤ s.pc
    · have e : stepF code inp s = { s with fin := 7 } := by unfold stepF; rw [if_pos h0, if_pos h1]
      rw [e] at h; exact absurd (show (7 : Int) = 0 from h) (by decide)
    · have e : stepF code inp s = wordF code inp { s with st := IntKind.i64.wrap (s.st + 1) } (code.getD s.pc.toNat default) := by unfold stepF; rw [if_pos h0, if_neg h1]
      rw [e]
      unfold wordF
      have k := insF_keeps code inp { s with st := IntKind.i64.wrap (s.st + 1) } (opW (code.getD s.pc.toNat default)) (raW (code.getD s.pc.toNat default)) (rbW (code.getD s.pc.toNat default)) (kW (code.getD s.pc.toNat default))
      refine ite_ind (P := fun x : S => x.st = IntKind.i64.wrap (s.st + 1)) (fun _ => ?_) fun _ => rfl
      exact ite_ind (P := fun x : S => x.st = IntKind.i64.wrap (s.st + 1)) (fun _ => k.2) fun _ => k.2
  · rw [stepF_stays h0] at h; exact absurd h h0

/-- Steps of a run: they grow by one while it goes on, and by one at most. -/
theorem runN_st {code : List Int} {inp : ByteArray} {s : S} (h0 : 0 ≤ s.st) (h1 : s.st ≤ 2000000) : ∀ k : Nat, k ≤ 2000000 → (s.st ≤ (runN code inp s k).st ∧ (runN code inp s k).st ≤ s.st + k) ∧ ((runN code inp s k).fin = 0 → (runN code inp s k).st = s.st + k)
  | 0, _ => ⟨⟨Int.le_refl _, by show s.st ≤ s.st + ((0 : Nat) : Int); omega⟩, fun _ => by show s.st = s.st + ((0 : Nat) : Int); omega⟩
  | k + 1, hk => by
    obtain ⟨⟨i1, i2⟩, i3⟩ := runN_st (code := code) (inp := inp) h0 h1 k (by omega)
    have hw : IntKind.i64.wrap ((runN code inp s k).st + 1) = (runN code inp s k).st + 1 := i64_in (by omega) (by omega)
    have hs := (stepF_fr code inp (runN code inp s k)).2
    rw [hw] at hs
    refine ⟨?_, fun hf => ?_⟩
    · show s.st ≤ (stepF code inp (runN code inp s k)).st ∧ (stepF code inp (runN code inp s k)).st ≤ _
      rcases hs with e | e <;> rw [e] <;> omega
    · have hf' : (stepF code inp (runN code inp s k)).fin = 0 := hf
      obtain ⟨g1, g2⟩ := stepF_live hf'
      show (stepF code inp (runN code inp s k)).st = _
      rw [g2, hw, i3 g1]; omega
theorem runN_mono {code : List Int} {inp : ByteArray} {s : S} (h0 : 0 ≤ s.st) (h1 : s.st ≤ 1000000) (a b : Nat) (ha : a ≤ 1000000) (hb : b ≤ 1000000) : (runN code inp s a).st ≤ (runN code inp s (a + b)).st := by
  rw [runN_add]
  obtain ⟨⟨i1, i2⟩, _⟩ := runN_st (code := code) (inp := inp) h0 (by omega) a (by omega)
  exact (runN_st (s := runN code inp s a) (by omega) (by omega) b (by omega)).1.1

theorem stepF_out (code : List Int) (inp : ByteArray) (s : S) : ∃ bs, (stepF code inp s).out.data.toList = s.out.data.toList ++ bs := by
  rcases (stepF_fr code inp s).1 with ⟨_, _, _, _, h, _⟩ | ⟨_, _, _, _, h, _⟩ | ⟨b, _, _, h, _⟩
  · exact ⟨[], by rw [h]; simp⟩
  · exact ⟨[], by rw [h]; simp⟩
  · exact ⟨[b], by rw [h]; show (s.out.data.push b).toList = _; simp⟩
theorem runN_out (code : List Int) (inp : ByteArray) (s : S) : ∀ k, ∃ bs, (runN code inp s k).out.data.toList = s.out.data.toList ++ bs
  | 0 => ⟨[], (List.append_nil _).symm⟩
  | k + 1 => by
    obtain ⟨a, ha⟩ := runN_out code inp s k
    obtain ⟨b, hb⟩ := stepF_out code inp (runN code inp s k)
    exact ⟨a ++ b, by show (stepF code inp (runN code inp s k)).out.data.toList = _; rw [hb, ha, List.append_assoc]⟩
theorem extract_pre {a b : ByteArray} {bs : List UInt8} (h : b.data.toList = a.data.toList ++ bs) : b.extract 0 a.size = a := bytes_ext (by
  rw [ByteArray.data_extract, Array.toList_extract, List.extract_eq_take_drop, List.drop_zero, h]
  show List.take (a.data.toList.length - 0) _ = _
  simp)
theorem size_pre {a b : ByteArray} {bs : List UInt8} (h : b.data.toList = a.data.toList ++ bs) : a.size ≤ b.size := by
  have := congrArg List.length h
  rw [List.length_append] at this
  show a.data.toList.length ≤ b.data.toList.length
  omega
end Go.Proofs.Ytjoldjcfabbekaa
