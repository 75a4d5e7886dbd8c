/-
  Runs with fuel: the states one by one; a runner's small functions. No condition.
-/
import Derived.Test.YtjoldjcfabbekaaM14A
namespace Go.Proofs.Ytjoldjcfabbekaa
set_option linter.unusedSimpArgs false
set_option linter.unusedVariables false
set_option maxRecDepth 10000
open Go.V

/-- The state behind k steps. -/
def runN (code : List Int) (inp : ByteArray) (s : S) : Nat → S
  | 0 => s
  | k + 1 => stepF code inp (runN code inp s k)

theorem stepF_stays {code : List Int} {inp : ByteArray} {s : S} (h : s.fin ≠ 0) : stepF code inp s = s := if_neg h
theorem runN_stays {code : List Int} {inp : ByteArray} {s : S} {k : Nat} (h : (runN code inp s k).fin ≠ 0) : ∀ d, runN code inp s (k + d) = runN code inp s k
  | 0 => rfl
  | d + 1 => by
    show stepF code inp (runN code inp s (k + d)) = _
    rw [runN_stays h d, stepF_stays h]
theorem runN_add (code : List Int) (inp : ByteArray) (s : S) (a : Nat) : ∀ b, runN code inp s (a + b) = runN code inp (runN code inp s a) b
  | 0 => rfl
  | b + 1 => by show stepF code inp (runN code inp s (a + b)) = _; rw [runN_add code inp s a b]; rfl
theorem runN_wf {code : List Int} {inp : ByteArray} {s : S} (hcode : ∀ x ∈ code, In32 x) (h : Wf s) : ∀ k, Wf (runN code inp s k) ∧ (runN code inp s k).mem.length = s.mem.length ∧ (runN code inp s k).out.size ≤ s.out.size + k
  | 0 => ⟨h, rfl, Nat.le_refl _⟩
  | k + 1 => by
    obtain ⟨h1, h2, h3⟩ := runN_wf hcode h k
    obtain ⟨g1, g2, g3, g4⟩ := stepF_wf code inp (runN code inp s k) hcode h1
    refine ⟨g1, g2.trans h2, ?_⟩
    show (stepF code inp (runN code inp s k)).out.size ≤ _
    simp only at g4; omega

theorem MemAt.len {L L' T : List VObj} {m : AV} {own : Bool} {mem : List Int} (h : MemAt L T m own mem) (e : L.length = L'.length) : MemAt L' T m own mem := by
  unfold MemAt at h ⊢; rw [← e]; exact h
theorem MoreAt.len {L L' T : List VObj} {m : AV} {bs : List UInt8} (h : MoreAt L T m bs) (e : L.length = L'.length) : MoreAt L' T m bs := by
  unfold MoreAt at h ⊢; rw [← e]; exact h

section
variable (code : List Int) (inp : ByteArray) (pc : Int) (f : Nat → Int) (m : AV) (mem : List Int) (rd : Int) (out outT : ByteArray) (st fin : Int) (own : Bool) (more : AV) (bs : List UInt8) (L T : List VObj) (s nx : Nat)

theorem going_v {id : Nat} (hid : L.length = id) (C : AV → List VObj → Nat → Prop) (hC : C (B (fin == 0)) (L ++ rob s (rnc (words code) inp pc f m rd out st fin own more) :: T) nx) :
    VCall Try.prog 40 [.ptr id s 0] (L ++ rob s (rnc (words code) inp pc f m rd out st fin own more) :: T) nx C := by
  subst hid
  refine VCall.of_body hmix f_machine_Runner_Going (by simp) ?_
  simp only [go_sem,Nat.reduceEqDiff,Nat.reduceAdd,Nat.reduceMul,↓reduceIte,↓dreduceIte,reduceCtorEq,Nat.reduceLeDiff,Nat.reduceLT,Nat.reduceSub,Int.reduceToNat,Int.reduceLE,Int.reduceLT, c_machine_Runner_Going, og0, rnc_length, r_fin]
  exact hC
theorem pc_v {id : Nat} (hid : L.length = id) (C : AV → List VObj → Nat → Prop) (hC : C (I pc) (L ++ rob s (rnc (words code) inp pc f m rd out st fin own more) :: T) nx) :
    VCall Try.prog 41 [.ptr id s 0] (L ++ rob s (rnc (words code) inp pc f m rd out st fin own more) :: T) nx C := by
  subst hid
  refine VCall.of_body hmix f_machine_Runner_PC (by simp) ?_
  simp only [go_sem,Nat.reduceEqDiff,Nat.reduceAdd,Nat.reduceMul,↓reduceIte,↓dreduceIte,reduceCtorEq,Nat.reduceLeDiff,Nat.reduceLT,Nat.reduceSub,Int.reduceToNat,Int.reduceLE,Int.reduceLT, c_machine_Runner_PC, og0, rnc_length, r_pc]
  exact hC
theorem rstep_at {id : Nat} (hid : L.length = id) (hcode : ∀ x ∈ code, In32 x) (hcl : code.length ≤ 1000000) (hi : inp.size ≤ 1000000000) (σ : S) (hw : Wf σ) (hm : MemAt L T m own σ.mem) (hl : σ.mem.length ≤ 1000000) (hmo : MoreAt L T more bs) (hout : σ.out.data.toList = out.data.toList ++ bs) (hol : σ.out.size ≤ 1000000) (C : AV → List VObj → Nat → Prop)
    (hC : ∀ T' m' own' more' bs' nx', MemAt L T' m' own' (stepF code inp σ).mem → MoreAt L T' more' bs' → (stepF code inp σ).out.data.toList = out.data.toList ++ bs' → Keep T T' →
      C (B (doneF code σ)) (L ++ rob s (rnc (words code) inp (stepF code inp σ).pc (stepF code inp σ).reg m' (stepF code inp σ).rd out (stepF code inp σ).st (stepF code inp σ).fin own' more') :: T') nx') :
    VCall Try.prog 36 [.ptr id s 0] (L ++ rob s (rnc (words code) inp σ.pc σ.reg m σ.rd out σ.st σ.fin own more) :: T) nx C := by
  subst hid
  exact rstep_v code inp σ.pc σ.reg m σ.mem σ.rd out σ.out σ.st σ.fin own more bs L T s nx hcode hcl hw.reg hi hm hl hmo hout hol C hC
theorem rstate_at {id : Nat} (hid : L.length = id) (σ : S) (hm : m.one = true) (hmo : MoreAt L T more bs) (hout : σ.out.data.toList = out.data.toList ++ bs) (hol : σ.out.size ≤ 1000001) (C : AV → List VObj → Nat → Prop)
    (hC : ∀ R more' nx', MoreAt L (T ++ R) more' [] → C (.agg (stc σ.pc σ.reg m σ.rd σ.out σ.st σ.fin)) (L ++ rob s (rnc (words code) inp σ.pc σ.reg m σ.rd σ.out σ.st σ.fin false more') :: (T ++ R)) nx') :
    VCall Try.prog 33 [.ptr id s 0] (L ++ rob s (rnc (words code) inp σ.pc σ.reg m σ.rd out σ.st σ.fin own more) :: T) nx C := by
  subst hid
  exact rstate_v code inp σ.pc σ.reg m σ.rd out σ.out σ.st σ.fin own more bs L T s nx hm hmo hout hol C hC
end

theorem new_v (code : List Int) (data : Int) (inp : ByteArray) (σ : S) (H : List VObj) (nx : Nat) (C : AV → List VObj → Nat → Prop)
    (hC : C (.ptr (H.length + 2) (nx + 2) 0) (H ++ [⟨nx, 24, 1, [words code, I data]⟩, ⟨nx + 1, 37, 1, stc σ.pc σ.reg (words σ.mem) σ.rd σ.out σ.st σ.fin⟩, rob (nx + 2) (rnc (words code) inp σ.pc σ.reg (words σ.mem) σ.rd σ.out σ.st σ.fin false nilv)]) (nx + 3)) :
    VCall Try.prog 30 [imgA code data, strv inp, stA σ] H nx C := by
  refine VCall.of_body hmix f_machine_New (by simp) ?_
  have g1 : ∀ a b : VObj, (H ++ [a] ++ [b])[H.length]? = some a := fun a b => by simp
  simp only [go_sem,Nat.reduceEqDiff,Nat.reduceAdd,Nat.reduceMul,↓reduceIte,↓dreduceIte,reduceCtorEq,Nat.reduceLeDiff,Nat.reduceLT,Nat.reduceSub,Int.reduceToNat,Int.reduceLE,Int.reduceLT, c_machine_New, s_all, stc_length, stc_all, one_imm, ogn, g1]
  refine ⟨rfl, ?_⟩
  simp only [List.length_append, List.length_cons, List.length_nil, List.append_assoc, List.cons_append, List.nil_append]
  exact hC
end Go.Proofs.Ytjoldjcfabbekaa
