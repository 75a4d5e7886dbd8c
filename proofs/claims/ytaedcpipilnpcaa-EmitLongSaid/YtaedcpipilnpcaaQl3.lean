/-
  The machine on instructions, plainly, and the machine on words: what the one does the other does. No condition. A run of stack code and its image's, plainly: a step, runs, the end. No condition. The engine: a slice of structs of the call's own, given away. No condition. Runs with fuel: the loop's function steps. No condition. Runs with fuel: exec.Go. No condition. Runs with fuel: exec.Run, exec.Counts, exec.Same. No condition. Runs with fuel: the examples, alive. No condition. The machine: states and images as data. No condition. exec: results, questions and pairs as data. No condition. What a step may change; steps and what was put out behind many. No condition. The document's run in place: the cells of its work, what is read of them and written to them. No condition. The document's run in place: its small functions. No condition. The document's run in place: an image's words as instructions. No condition. The document's run in place, and its step, made small by the program. No condition. The document's run in place: a step. No condition. The document's run in place: run, Go, Run, Counts. No condition. The document's Go, Run, Counts. No condition. Images of stack code: the statements' small functions: contracts. No condition. A long program of stack code, plainly: it is right, and small enough. No condition. The document's stack machine: its piles: contracts. No condition. The document's stack machine: calls: contracts. No condition. The document's stack machine: a step. No condition. The document's stack machine: its run. No condition. A long program's image: what its statement calls: contracts. No condition.
-/
import Derived.Test.YtaedcpipilnpcaaQl2
import Derived.Test.YtaedcpipilnpcaaUH
import Derived.Test.YtaedcpipilnpcaaUG
import Derived.SizedLaws
import Derived.Test.YtaedcpipilnpcaaUCode
set_option linter.unusedVariables false
set_option linter.unusedSimpArgs false
namespace Go.Proofs.Ytaedcpipilnpcaa
set_option linter.unusedSimpArgs false
set_option linter.unusedVariables false
open Go.V
structure CdOk (code : List Ci) : Prop where
  ok : ∀ i ∈ code, okI i.op i.a i.b i.c = true ∧ i.op ≠ 27
  len : code.length ≤ 1000000
abbrev wrds (code : List Ci) : List Int := code.map fun i => encI i.op i.a i.b i.c
theorem enc_dec {op a b c : Int} (h : okI op a b c = true) : opW (encI op a b c) = op ∧ raW (encI op a b c) = a ∧ rbW (encI op a b c) = b ∧ kW (encI op a b c) = c ∧ In32 (encI op a b c) := by
  have hb := okI_in h
  unfold opW raW rbW kW encI In32
  refine ⟨by omega, by omega, by omega, by omega, by omega, by omega⟩
theorem enc_ok {op a b c : Int} (h : okI op a b c = true) : okW (encI op a b c) = true := by
  obtain ⟨h1, h2, h3, h4, _⟩ := enc_dec h
  unfold okW; rw [h1, h2, h3, h4]; exact h
theorem wrds_in {code : List Ci} (h : CdOk code) : ∀ x ∈ wrds code, In32 x := fun x hx => by
  obtain ⟨i, hi, rfl⟩ := List.mem_map.1 hx
  exact (enc_dec (h.ok i hi).1).2.2.2.2
structure RSM (s : Mc) (t : S) (n : Nat) : Prop where
  pc : t.pc = s.pc
  rg : t.reg = s.rg
  me : t.mem = s.me
  rd : t.rd = (s.rd : Int)
  out : t.out.data.toList = s.out
  st : t.st = (n : Int)
  fin : t.fin = 0
theorem updR_upM (f : Nat → Int) (j : Nat) (v : Int) : updR f j v = upM f j v := rfl
theorem size_out {s : Mc} {t : S} {n : Nat} (h : RSM s t n) : t.out.size = s.out.length := by rw [← h.out]; rfl
theorem push_toList (a : ByteArray) (b : UInt8) : (a.push b).data.toList = a.data.toList ++ [b] := by
  cases a; simp [ByteArray.push]
theorem ins_same {inp : ByteArray} {w : List Int} {s : Mc} {t : S} {n m : Nat} (h : RSM s t n) (i : Ci) (h27 : i.op ≠ 27) (hp : 0 ≤ s.pc) (hp2 : s.pc ≤ 1000000) (hrd : s.rd ≤ 2000000000) :
    (insM w inp { t with st := m } i.op i.a i.b i.c).1 = (mI inp s i).2 ∧ ((mI inp s i).2 = 0 → RSM (mI inp s i).1 (insM w inp { t with st := m } i.op i.a i.b i.c).2 m) ∧ (insM w inp { t with st := m } i.op i.a i.b i.c).2.out.data.toList = (mI inp s i).1.out ∧ (insM w inp { t with st := m } i.op i.a i.b i.c).2.st = m := by
  obtain ⟨pc, rg, me, rd, out, st, fin⟩ := t
  obtain ⟨spc, srg, sme, srd, sout⟩ := s
  have hsz := size_out h
  obtain ⟨h1, h2, h3, h4, h5, h6, h7⟩ := h
  simp only at h1 h2 h3 h4 h5 h6 h7 hp hp2 hrd hsz
  subst h1; subst h2; subst h3; subst h7
  have wp : IntKind.i64.wrap (pc + 1) = pc + 1 := i64_in (by omega) (by omega)
  have wp2 : w32 (pc + 1) = pc + 1 := w32_in ⟨by omega, by omega⟩
  obtain ⟨op, a, b, c⟩ := i
  simp only at h27
  unfold insM mI
  simp only [nxtM, setR, atW, wp, wp2, stM, adM, updR_upM]
  by_cases e : op = 18
  · simp only [e, if_true]; exact ⟨by trivial, fun _ => ⟨rfl, rfl, rfl, h4, h5, rfl, rfl⟩, h5, by trivial⟩
  rw [if_neg e, if_neg e]; clear e
  by_cases e : op = 19
  · simp only [e, if_true]; exact ⟨by trivial, fun _ => ⟨rfl, rfl, rfl, h4, h5, rfl, rfl⟩, h5, by trivial⟩
  rw [if_neg e, if_neg e]; clear e
  by_cases e : op = 20
  · simp only [e, if_true]; exact ⟨by trivial, fun _ => ⟨rfl, rfl, rfl, h4, h5, rfl, rfl⟩, h5, by trivial⟩
  rw [if_neg e, if_neg e]; clear e
  by_cases e : op = 21
  · simp only [e, if_true]; exact ⟨by trivial, fun _ => ⟨rfl, rfl, rfl, h4, h5, rfl, rfl⟩, h5, by trivial⟩
  rw [if_neg e, if_neg e]; clear e
  by_cases e : op = 22
  · simp only [e, if_true]; exact ⟨by trivial, fun _ => ⟨rfl, rfl, rfl, h4, h5, rfl, rfl⟩, h5, by trivial⟩
  rw [if_neg e, if_neg e]; clear e
  by_cases e : op = 1
  · simp only [e, if_true]; exact ⟨by trivial, fun _ => ⟨rfl, rfl, rfl, h4, h5, rfl, rfl⟩, h5, by trivial⟩
  rw [if_neg e, if_neg e]; clear e
  by_cases e : op = 2
  · simp only [e, if_true]; exact ⟨by trivial, fun _ => ⟨rfl, rfl, rfl, h4, h5, rfl, rfl⟩, h5, by trivial⟩
  rw [if_neg e, if_neg e]; clear e
  by_cases e : op = 3
  · simp only [e, if_true]; exact ⟨by trivial, fun _ => ⟨rfl, rfl, rfl, h4, h5, rfl, rfl⟩, h5, by trivial⟩
  rw [if_neg e, if_neg e]; clear e
  by_cases e : op = 16
  · simp only [e, if_true]
    by_cases q : w32 (rg b.toNat + c) < me.length
    · simp only [eq_true q, if_true]; exact ⟨by trivial, fun _ => ⟨rfl, rfl, rfl, h4, h5, rfl, rfl⟩, h5, by trivial⟩
    · simp only [eq_false q, if_false]; exact ⟨by trivial, fun h => absurd h (by decide), h5, by trivial⟩
  rw [if_neg e, if_neg e]; clear e
  by_cases e : op = 17
  · simp only [e, if_true]
    by_cases q : w32 (rg b.toNat + c) < me.length
    · simp only [eq_true q, if_true]; exact ⟨by trivial, fun _ => ⟨rfl, rfl, rfl, h4, h5, rfl, rfl⟩, h5, by trivial⟩
    · simp only [eq_false q, if_false]; exact ⟨by trivial, fun h => absurd h (by decide), h5, by trivial⟩
  rw [if_neg e, if_neg e]; clear e
  rw [if_neg h27]
  by_cases e : op = 23
  · simp only [e, if_true]
    by_cases q : srd < inp.size
    · have q' : ¬ (rd < 0 ∨ (inp.size : Int) ≤ rd) := by omega
      have wr : IntKind.i64.wrap (rd + 1) = rd + 1 := i64_in (by omega) (by omega)
      simp only [eq_true q, eq_false q', if_true, if_false, wr]
      rw [show rd.toNat = srd by omega]
      exact ⟨by trivial, fun _ => ⟨rfl, rfl, rfl, by simp only; omega, h5, rfl, rfl⟩, h5, by trivial⟩
    · have q' : (rd < 0 ∨ (inp.size : Int) ≤ rd) := by omega
      simp only [eq_false q, eq_true q', if_true, if_false]; exact ⟨by trivial, fun _ => ⟨rfl, rfl, rfl, h4, h5, rfl, rfl⟩, h5, by trivial⟩
  rw [if_neg e, if_neg e]; clear e
  by_cases e : op = 24
  · simp only [e, if_true, hsz]
    by_cases q : 65536 ≤ sout.length
    · simp only [eq_true q, if_true]; exact ⟨by trivial, fun h => absurd h (by decide), h5, by trivial⟩
    · simp only [eq_false q, if_false]
      exact ⟨by trivial, fun _ => ⟨rfl, rfl, rfl, h4, by simp only; rw [push_toList, h5]; rfl, rfl, rfl⟩, by rw [push_toList, h5]; rfl, trivial⟩
  rw [if_neg e, if_neg e]; clear e
  by_cases e : op = 25
  · simp only [e, if_true]
    by_cases q : rg a.toNat < c
    · simp only [eq_true q, if_true]; exact ⟨by trivial, fun _ => ⟨rfl, rfl, rfl, h4, h5, rfl, rfl⟩, h5, by trivial⟩
    · simp only [eq_false q, if_false]; exact ⟨by trivial, fun h => absurd h (by decide), h5, by trivial⟩
  rw [if_neg e, if_neg e]; clear e
  by_cases e : op = 26
  · simp only [e, if_true]; exact ⟨by trivial, fun h => absurd h (by decide), h5, by trivial⟩
  rw [if_neg e, if_neg e]; clear e
  by_cases q : (applyW op (rg b.toNat) (rg c.toNat)).2 = 0
  · simp only [eq_true q, if_true]; exact ⟨by trivial, fun _ => ⟨rfl, rfl, rfl, h4, h5, rfl, rfl⟩, h5, by trivial⟩
  · simp only [eq_false q, if_false]; exact ⟨by trivial, fun h => absurd h (by decide), h5, by trivial⟩
section
variable {code : List Ci} {inp : ByteArray}
theorem step_same (hc : CdOk code) {s : Mc} {t : S} {n : Nat} (h : RSM s t n) (hp : 0 ≤ s.pc) (hp2 : s.pc < code.length) (hrd : s.rd ≤ 2000000000) (hn : n ≤ 4000000000000000000) :
    ((mI inp s (code.getD s.pc.toNat default)).2 = 0 → RSM (mI inp s (code.getD s.pc.toNat default)).1 (stepF (wrds code) inp t) (n + 1)) ∧
    ((mI inp s (code.getD s.pc.toNat default)).2 ≠ 0 → (stepF (wrds code) inp t).fin = (mI inp s (code.getD s.pc.toNat default)).2 ∧ (stepF (wrds code) inp t).out.data.toList = (mI inp s (code.getD s.pc.toNat default)).1.out ∧ (stepF (wrds code) inp t).st = ((n + 1 : Nat) : Int)) := by
  have hlt : s.pc.toNat < code.length := by omega
  have hg : code.getD s.pc.toNat default = code[s.pc.toNat] := by simp [List.getD, hlt]
  have hm : code.getD s.pc.toNat default ∈ code := by rw [hg]; exact List.getElem_mem hlt
  obtain ⟨ho, h27⟩ := hc.ok _ hm
  have hw : (wrds code).getD s.pc.toNat default = encI (code.getD s.pc.toNat default).op (code.getD s.pc.toNat default).a (code.getD s.pc.toNat default).b (code.getD s.pc.toNat default).c := by
    rw [hg, List.getD, List.getElem?_map, List.getElem?_eq_getElem hlt]; rfl
  obtain ⟨d1, d2, d3, d4, d5⟩ := enc_dec ho
  have hok := enc_ok ho
  have hst : IntKind.i64.wrap (t.st + 1) = ((n + 1 : Nat) : Int) := by rw [h.st, i64_in (by omega) (by omega)]; omega
  have hl := hc.len
  obtain ⟨k1, k2, k3, k4⟩ := ins_same (inp := inp) (w := wrds code) (m := n + 1) h (code.getD s.pc.toNat default) h27 hp (by omega) hrd
  have hs : stepF (wrds code) inp t = (if (insM (wrds code) inp { t with st := ((n + 1 : Nat) : Int) } (code.getD s.pc.toNat default).op (code.getD s.pc.toNat default).a (code.getD s.pc.toNat default).b (code.getD s.pc.toNat default).c).1 = 0 then (insM (wrds code) inp { t with st := ((n + 1 : Nat) : Int) } (code.getD s.pc.toNat default).op (code.getD s.pc.toNat default).a (code.getD s.pc.toNat default).b (code.getD s.pc.toNat default).c).2
      else { (insM (wrds code) inp { t with st := ((n + 1 : Nat) : Int) } (code.getD s.pc.toNat default).op (code.getD s.pc.toNat default).a (code.getD s.pc.toNat default).b (code.getD s.pc.toNat default).c).2 with fin := (insM (wrds code) inp { t with st := ((n + 1 : Nat) : Int) } (code.getD s.pc.toNat default).op (code.getD s.pc.toNat default).a (code.getD s.pc.toNat default).b (code.getD s.pc.toNat default).c).1 }) := by
    unfold stepF
    rw [if_pos h.fin, h.pc, if_neg (by rw [List.length_map]; omega), hst, hw]
    unfold wordF
    rw [if_pos hok, d1, d2, d3, d4]
  rw [hs]
  refine ⟨fun e => ?_, fun e => ?_⟩
  · rw [if_pos (k1.trans e)]; exact k2 e
  · rw [if_neg (by rw [k1]; exact e)]; exact ⟨k1, k3, k4⟩
theorem iteQ {α : Type} {p : Prop} [Decidable p] {P : α → Prop} {a b : α} (h1 : p → P a) (h2 : ¬ p → P b) : P (if p then a else b) := by
  by_cases h : p
  · rw [if_pos h]; exact h1 h
  · rw [if_neg h]; exact h2 h
theorem mI_rd (s : Mc) (i : Ci) (h : s.rd ≤ inp.size) : (mI inp s i).1.rd ≤ inp.size := by
  let Q : Mc × Int → Prop := fun p => p.1.rd ≤ inp.size
  show Q (mI inp s i)
  unfold mI
  iterate 8 (refine iteQ (P := Q) (fun _ => h) fun _ => ?_)
  iterate 2 (refine iteQ (P := Q) (fun _ => iteQ (P := Q) (fun _ => h) fun _ => h) fun _ => ?_)
  refine iteQ (P := Q) (fun _ => iteQ (P := Q) (fun q => q) fun _ => h) fun _ => ?_
  iterate 2 (refine iteQ (P := Q) (fun _ => iteQ (P := Q) (fun _ => h) fun _ => h) fun _ => ?_)
  refine iteQ (P := Q) (fun _ => h) fun _ => ?_
  exact iteQ (P := Q) (fun _ => h) fun _ => h
theorem run_same (hc : CdOk code) (hi : inp.size ≤ 1000000000) : ∀ {k n : Nat} {s s' : Mc} {t : S}, Mx code inp k s s' → RSM s t n → s.rd ≤ inp.size → n + k ≤ 4000000000000000000 →
    RSM s' (runN (wrds code) inp t k) (n + k) ∧ s'.rd ≤ inp.size
  | 0, n, s, s', t, h, hr, hd, _ => by cases h; exact ⟨hr, hd⟩
  | k + 1, n, s, s', t, h, hr, hd, hn => by
    obtain ⟨h1, h2, h3, h4⟩ := h
    have hst := (step_same hc hr h1 h2 (by omega) (by omega)).1 h3
    have := run_same hc hi h4 hst (mI_rd _ _ hd) (by omega)
    rw [show n + 1 + k = n + (k + 1) by omega] at this
    rw [show k + 1 = 1 + k by omega, runN_add]
    rw [show n + (1 + k) = n + (k + 1) by omega]
    exact this
theorem end_same (hc : CdOk code) (hi : inp.size ≤ 1000000000) {k : Nat} {s s' : Mc} {t : S} {e : Int} (h : Mn code inp k s e s') (hr : RSM s t 0) (hd : s.rd ≤ inp.size) (hk : k ≤ 4000000000000000000) {F : Nat} (hF : k < F) :
    (runN (wrds code) inp t F).fin = e ∧ (runN (wrds code) inp t F).out.data.toList = s'.out ∧ (runN (wrds code) inp t F).st = ((k + 1 : Nat) : Int) := by
  obtain ⟨s1, h1, h2, h3, h4, h5⟩ := h
  obtain ⟨g1, g2⟩ := run_same hc hi h1 hr hd (by omega)
  rw [Nat.zero_add] at g1
  have := (step_same (inp := inp) hc g1 h2 h3 (by omega) (by omega)).2 (by rw [h4]; exact h5)
  rw [h4] at this
  obtain ⟨q1, q2, q3⟩ := this
  have hs : runN (wrds code) inp t (k + 1) = stepF (wrds code) inp (runN (wrds code) inp t k) := rfl
  rw [show F = k + 1 + (F - (k + 1)) by omega, runN_stays (by rw [hs, q1]; exact h5), hs]
  exact ⟨q1, q2, q3⟩
end
def mc0 (data : Int) : Mc := ⟨0, fun _ => 0, List.replicate data.toNat 0, 0, []⟩
theorem rs0 {data : Int} (h : data ≤ 32768) : RSM (mc0 data) (startF data) 0 := by
  refine ⟨rfl, rfl, ?_, rfl, rfl, rfl, rfl⟩
  unfold startF mc0
  by_cases h0 : 0 < data
  · simp only [if_pos (show 0 < data ∧ data ≤ 32768 from ⟨h0, h⟩)]
  · simp only [if_neg (show ¬ (0 < data ∧ data ≤ 32768) from fun h => h0 h.1)]
    rw [show data.toNat = 0 by omega]; rfl
end Go.Proofs.Ytaedcpipilnpcaa
namespace Go.Proofs.Ytaedcpipilnpcaa
set_option linter.unusedSimpArgs false
set_option linter.unusedVariables false
open Go.V
section
variable {s : SP} {σ : SM} {m : Mc} {inp : ByteArray}
theorem sim_step (hP : SimP s) (hI : InvS s (depS s) σ) (hw : WfS σ) (h : Rk s σ m) (h0 : σ.fin = 0) (ho : σ.out.length < 65536) :
    ((stepS s inp σ).fin = 0 → GoesK s inp σ m) ∧ ((stepS s inp σ).fin ≠ 0 → EndsK s inp σ m) := by
  have hI' := inv_step (inp := inp) hP.r hP.dep hI h0
  have hg := (inv_good hP.r hP.dep hI).ok
  have hfit := (hP.r.fn _ hI.top.f).fits _ hI.top.k
  have go : (stepS s inp σ).fin = 0 → ((InvS s (depS s) (stepS s inp σ)) → GoesK s inp σ m) → ((stepS s inp σ).fin = 0 → GoesK s inp σ m) ∧ ((stepS s inp σ).fin ≠ 0 → EndsK s inp σ m) := fun a b => ⟨fun _ => b (hI' a), fun hf => absurd a hf⟩
  have fin : ∀ {k : Int}, (s.ins σ.top.f σ.top.at_).op = k → (stepI s inp (s.ins σ.top.f σ.top.at_) σ.next).fin = 0 → (stepS s inp σ).fin = 0 := fun e h => by rw [stepS_eq h0]; exact h
  have hf0 : σ.next.fin = 0 := h0
  obtain ⟨f1, f2, f3⟩ := hfit
  have hg2 := hg
  unfold OkI at hg
  rcases hg with e | ⟨e, ha, hb⟩ | ⟨e, ha, hb, hl⟩ | ⟨e, ha, hb, hab, hl⟩ | ⟨e, ha, hb, hab, hl⟩ | ⟨e, hl⟩ | ⟨e, hl⟩ | ⟨e, ha⟩ | ⟨e, ha, hl⟩ | ⟨e, ha, hb, hc⟩ | ⟨e, hl⟩ | e | ⟨e, hl⟩
  · exact go (fin e (by simp only [stepI, e, Int.reduceEq, if_true, if_false, SM.setL]; exact h0)) fun k => op_push hP hI h h0 k e
  · exact go (fin e (by simp only [stepI, e, Int.reduceEq, if_true, if_false, SM.setL]; exact h0)) fun k => op_load hP hI h h0 k e ⟨ha, hb⟩
  · exact go (fin e (by simp only [stepI, e, Int.reduceEq, if_true, if_false, SM.setL]; exact h0)) fun k => op_store hP hI h h0 e ⟨ha, hb⟩ hl
  · exact op_aload hP hI hw h h0 hI' e ⟨ha, hb, hab⟩ hl
  · exact op_astore hP hI hw h h0 e ⟨ha, hb, hab⟩ hl
  · exact op_op hP hI h h0 hI' e (by omega) hl
  · exact go (fin e (by simp only [stepI, e, Int.reduceEq, if_true, if_false, SM.setL]; exact h0)) fun k => op_not hP hI h h0 k e hl
  · exact go (fin e (by simp only [stepI, e, Int.reduceEq, if_true, if_false, SM.jump]; exact h0)) fun k => op_jump hP hI h h0 e (by omega)
  · refine go (fin e ?_) fun k => op_zero hP hI h h0 e (by omega) hl
    simp only [stepI, e, Int.reduceEq, if_true, if_false, SM.jump, SM.setL]
    split <;> exact h0
  · exact go (fin e (by simp only [stepI, e, Int.reduceEq, if_true, if_false, SM.call]; exact h0)) fun k => op_call hP hI h h0 e (by omega) hc
  · exact op_ret hP hI h h0 hI' e hl
  · refine go (fin e ?_) fun k => op_get hP hI h h0 k e
    simp only [stepI, e, Int.reduceEq, if_true, if_false, SM.setL]
    split <;> exact h0
  · exact go (fin e (by simp only [stepI, e, Int.reduceEq, if_false, SM.setL]; exact h0)) fun k => op_put hP hI h h0 ho e hl
theorem inv_start (hP : SimP s) : InvS s (depS s) (startS s) := by
  have hn0 := hP.r.n0
  have hl : s.funcs.length - 1 < s.funcs.length := by omega
  have hs := hP.dep _ hl
  refine ⟨by simp [startS], ⟨hl, ?_, ?_⟩, hP.r.lw⟩
  · show 0 < (s.fn (s.funcs.length - 1)).code.length
    cases hcd : (s.fn (s.funcs.length - 1)).code with
    | nil => exact absurd hcd hs.ne
    | cons a l => simp
  · show (depS s (s.funcs.length - 1)).getD 0 (-1) = _
    rw [hs.zero]; rfl
theorem rk_start (hP : SimP s) (inp : ByteArray) : ∃ m, Mx (fixE s) inp 1 (mc0 (dataE s)) m ∧ Rk s (startS s) m := by
  have hn0 := hP.r.n0
  have hw0 := hP.r.w0
  have hd := hP.dat
  have hwd := words_le (s := s) s.funcs.length
  have hde : dataE s = datE s s.funcs.length := rfl
  have hat := at_one hn0
  refine ⟨_, Mx.one hat rfl (mI_li inp _ 15 0 1), ⟨rfl, rfl, ?_, ?_, fun a ha => ?_, rfl, rfl, trivial, ?_⟩⟩
  · show (0 : Int) + 1 = ((adr s (s.funcs.length - 1) 0 : Nat) : Int)
    rw [adr_zero, ent_last hn0]
    unfold headE
    rw [if_pos (show (exE s (s.funcs.length - 1)).last by unfold Ex.last exE; simp only; omega)]; rfl
  · show ((List.replicate (dataE s).toNat (0 : Int)).length : Int) = _
    rw [List.length_replicate]; omega
  · show (List.replicate (dataE s).toNat (0 : Int)).getD a default = (List.replicate s.words.toNat (0 : Int)).getD a default
    rw [List.getD, List.getD, List.getElem?_replicate, List.getElem?_replicate, if_pos (by omega), if_pos ha]
  · show s.funcs.length - 1 + 1 = s.funcs.length
    omega
theorem sim_run (hP : SimP s) (inp : ByteArray) : ∀ k : Nat, k ≤ 60000 →
    ((runS s inp (startS s) k).fin = 0 → InvS s (depS s) (runS s inp (startS s) k) ∧ WfS (runS s inp (startS s) k) ∧ (runS s inp (startS s) k).out.length ≤ k ∧ (runS s inp (startS s) k).steps = k ∧ ∃ (n : Nat) (m : Mc), (n : Int) ≤ 1 + k * (64 + 8 * s.words) ∧ Mx (fixE s) inp n (mc0 (dataE s)) m ∧ Rk s (runS s inp (startS s) k) m) ∧
    ((runS s inp (startS s) k).fin ≠ 0 → ∃ (n : Nat) (m : Mc), (n : Int) + 1 ≤ ((runS s inp (startS s) k).steps + 1) * (64 + 8 * s.words) ∧ (runS s inp (startS s) k).steps ≤ k ∧ Mn (fixE s) inp n (mc0 (dataE s)) (runS s inp (startS s) k).fin m ∧ m.out = (runS s inp (startS s) k).out)
  | 0, _ => by
    refine ⟨fun _ => ?_, fun h => absurd rfl h⟩
    obtain ⟨m, h1, h2⟩ := rk_start hP inp
    exact ⟨inv_start hP, startS_wf s, Nat.le_refl _, rfl, 1, m, by omega, h1, h2⟩
  | k + 1, hk => by
    obtain ⟨g1, g2⟩ := sim_run hP inp k (by omega)
    have hw0 := hP.r.w0
    have hS : runS s inp (startS s) (k + 1) = stepS s inp (runS s inp (startS s) k) := rfl
    rw [hS]
    by_cases h0 : (runS s inp (startS s) k).fin = 0
    · obtain ⟨hI, hw, ho, hst, n, m, hn, hx, hr⟩ := g1 h0
      have hgood := inv_good hP.r hP.dep hI
      obtain ⟨w1, w2, w3, w4⟩ := stepS_wf (inp := inp) hP.wf hw hgood
      obtain ⟨s1, s2⟩ := sim_step (inp := inp) hP hI hw hr h0 (by omega)
      have hstep : (stepS s inp (runS s inp (startS s) k)).steps = k + 1 := by
        rw [stepS_eq h0, (stepI_wf (inp := inp) (ins_wf hP.wf hgood.f hgood.k) (show WfS (runS s inp (startS s) k).next from ⟨hw.mem, hw.top, hw.below⟩) hgood.ok).2.2.1]
        show (runS s inp (startS s) k).steps + 1 = k + 1
        rw [hst]
      refine ⟨fun h1 => ?_, fun h1 => ?_⟩
      · obtain ⟨n2, m2, q1, q2, q3⟩ := s1 h1
        refine ⟨inv_step hP.r hP.dep hI h0 h1, w1, by omega, hstep, n + n2, m2, ?_, hx.trans q2, q3⟩
        have : ((k + 1 : Nat) : Int) * (64 + 8 * s.words) = k * (64 + 8 * s.words) + (64 + 8 * s.words) := by
          rw [Int.natCast_add, Int.add_mul]; simp
        omega
      · obtain ⟨n2, m2, q1, q2, q3⟩ := s2 h1
        refine ⟨n + n2, m2, ?_, by omega, hx.end_ q2, q3⟩
        rw [hstep]
        have : (((k + 1 : Nat) : Int) + 1) * (64 + 8 * s.words) = k * (64 + 8 * s.words) + (64 + 8 * s.words) + (64 + 8 * s.words) := by
          rw [Int.natCast_add, Int.add_mul, Int.add_mul]; simp
        omega
    · have : stepS s inp (runS s inp (startS s) k) = runS s inp (startS s) k := by unfold stepS; rw [if_neg h0]
      rw [this]
      refine ⟨fun h => absurd h h0, fun _ => ?_⟩
      obtain ⟨n, m, q1, q2, q3⟩ := g2 h0
      exact ⟨n, m, q1, by omega, q3⟩
theorem sim_end (hP : SimP s) (hc : CdOk (fixE s)) (hi : inp.size ≤ 1000000000) {k : Nat} (hk : k ≤ 60000) (hfin : (runS s inp (startS s) k).fin ≠ 0) {F : Nat} (hF : ((runS s inp (startS s) k).steps + 1) * (64 + 8 * s.words) ≤ F) :
    (runN (wrds (fixE s)) inp (startF (dataE s)) F).fin = (runS s inp (startS s) k).fin ∧ (runN (wrds (fixE s)) inp (startF (dataE s)) F).out.data.toList = (runS s inp (startS s) k).out := by
  have hw0 := hP.r.w0
  have hw1 := hP.r.w1
  obtain ⟨n, m, h1, hs, h2, h3⟩ := (sim_run hP inp k hk).2 hfin
  have hb : (((runS s inp (startS s) k).steps : Int) + 1) * (64 + 8 * s.words) ≤ 60001 * 300000 := Int.mul_le_mul (by omega) (by omega) (by omega) (by omega)
  obtain ⟨e1, e2, _⟩ := end_same hc hi h2 (rs0 hP.dat) (Nat.zero_le _) (by omega) (F := F) (by omega)
  exact ⟨e1, e2.trans h3⟩
end
end Go.Proofs.Ytaedcpipilnpcaa
namespace Go.V
set_option linter.unusedSimpArgs false
set_option linter.unusedVariables false
theorem flat_getR {α : Type} {z : Nat} : ∀ {ls : List (List α)}, (∀ l ∈ ls, l.length = z) → ∀ {i j : Nat} {l : List α} {u : α}, ls[i]? = some l → l[j]? = some u → ls.flatten[i * z + j]? = some u
  | [], _, i, j, l, u, h, _ => by simp at h
  | a :: ls, hz, i, j, l, u, h, hu => by
    have ha := hz a (by simp)
    cases i with
    | zero =>
      simp at h; subst h
      rw [List.flatten_cons, Nat.zero_mul, Nat.zero_add, List.getElem?_append_left (List.getElem?_eq_some_iff.1 hu).1]; exact hu
    | succ i =>
      simp only [List.getElem?_cons_succ] at h
      rw [List.flatten_cons, List.getElem?_append_right (by rw [ha, Nat.succ_mul]; omega), ha, show (i + 1) * z + j - z = i * z + j by rw [Nat.succ_mul]; omega]
      exact flat_getR (fun l hl => hz l (by simp [hl])) h hu
theorem RL.splitR {M : MM} : ∀ {xs ys : List AV} {vs : List Value}, RL M (xs ++ ys) vs → ∃ v1 v2, vs = v1 ++ v2 ∧ RL M xs v1 ∧ RL M ys v2
  | [], ys, vs, h => ⟨[], vs, rfl, by simp only [RL], h⟩
  | x :: xs, ys, vs, h => by
    simp only [List.cons_append, RL] at h
    obtain ⟨v, vs', rfl, h1, h2⟩ := h
    obtain ⟨v1, v2, rfl, h3, h4⟩ := RL.splitR h2
    exact ⟨v :: v1, v2, rfl, by simp only [RL]; exact ⟨v, v1, rfl, h1, h3⟩, h4⟩
theorem RL.chunksR {M : MM} : ∀ {yss : List (List AV)} {vs : List Value}, RL M yss.flatten vs → ∃ vss : List (List Value), vs = vss.flatten ∧ vss.length = yss.length ∧ ∀ (i : Nat) (l : List AV) (v : List Value), yss[i]? = some l → vss[i]? = some v → RL M l v
  | [], vs, h => by
    simp only [List.flatten_nil, RL] at h
    exact ⟨[], h, rfl, fun i l v h => by simp at h⟩
  | y :: yss, vs, h => by
    rw [List.flatten_cons] at h
    obtain ⟨v1, v2, rfl, h1, h2⟩ := RL.splitR h
    obtain ⟨vss, rfl, h3, h4⟩ := RL.chunksR h2
    refine ⟨v1 :: vss, by simp, by simp [h3], fun i l v hl hv => ?_⟩
    cases i with
    | zero => simp at hl hv; subst hl; subst hv; exact h1
    | succ i => exact h4 i l v (by simpa using hl) (by simpa using hv)
theorem rl0_aggs {M : MM} {n : Nat} (hR : RH M) : ∀ {yss : List (List AV)} {vss : List (List Value)}, vss.length = yss.length → (∀ (i : Nat) (l : List AV) (v : List Value), yss[i]? = some l → vss[i]? = some v → RL M l v) → (∀ l ∈ yss, l.all AV.pure = true) →
    RL0 M.w (Drop M n) (yss.map .agg) (vss.map fun l => Value.agg l.toArray)
  | [], [], _, _, _ => by simp only [List.map_nil, RL0]
  | [], v :: vs, h, _, _ => by simp at h
  | y :: ys, [], h, _, _ => by simp at h
  | y :: ys, v :: vs, h, h1, h2 => by
    simp only [List.map_cons, RL0]
    refine ⟨_, _, rfl, ?_, rl0_aggs hR (by simpa using h) (fun i l v hl hv => h1 (i + 1) l v (by simpa using hl) (by simpa using hv)) (fun l hl => h2 l (by simp [hl]))⟩
    simp only [RV0]
    exact ⟨v, rfl, (FrzL.pure (n := n) (h2 y (by simp))).rl hR rfl rfl (h1 0 y v (by simp) (by simp))⟩
theorem flatz_lenR {α : Type} {z : Nat} : ∀ {ls : List (List α)}, (∀ l ∈ ls, l.length = z) → ls.flatten.length = ls.length * z
  | [], _ => by simp
  | y :: ys, h => by rw [List.flatten_cons, List.length_append, flatz_lenR (fun l hl => h l (by simp [hl])), h y (by simp), List.length_cons, Nat.succ_mul]; omega
theorem Frz.refS {n : Nat} {H : List VObj} {nx id s len z : Nat} {ob : VObj} {yss : List (List AV)} (hid : n ≤ id) (ho : H[id]? = some ob) (hs : ob.s = s) (hz : ob.sz = z) (hcs : ob.cs = yss.flatten)
    (hy : ∀ l ∈ yss, l.length = z ∧ l.all AV.pure = true) (hlen : len = yss.length) : Frz n H nx (.ref id s 0 len) (.imm z (yss.map .agg)) := fun M hR hH hnx v r => by
  subst hH; subst hlen
  simp only [RV] at r
  obtain ⟨hzz, r⟩ := r.2.2 ob ho hs
  have hfl : yss.flatten.length = yss.length * z := flatz_lenR fun l hl => (hy l hl).1
  cases hm : M.m.getD id none with
  | none =>
    rw [hm] at r
    obtain ⟨rfl, h1, h2⟩ := r
    have : yss = [] := List.length_eq_zero_iff.1 (by omega)
    subst this
    simp only [List.map_nil, RV0, RL0]
    exact ⟨none, 0, 0, [], rfl, rfl, Nat.le_refl _, by simp [maxLen], rfl, by simp, .inl rfl⟩
  | some g =>
    rw [hm] at r
    obtain ⟨oo, cap, rfl, q2, q3, q4, q5, q6⟩ := r
    obtain ⟨vs, g1, g2, g3⟩ := hR.cells ho hzz hm 0 (yss.length * z) (by rw [hcs, hfl]; omega)
    rw [List.drop_zero, hcs, List.take_of_length_le (by omega)] at g2
    obtain ⟨vss, rfl, h3, h4⟩ := RL.chunksR g2
    have hlv : ∀ i v, vss[i]? = some v → ∃ l, yss[i]? = some l ∧ RL M l v ∧ v.length = z := fun i v hv => by
      have hi : i < yss.length := by have := (List.getElem?_eq_some_iff.1 hv).1; omega
      have hl := List.getElem?_eq_getElem hi
      have := h4 i _ v hl hv
      exact ⟨_, hl, this, by rw [this.length]; exact (hy _ (List.getElem_mem hi)).1⟩
    have hmem : ∀ v ∈ vss, v.length = z := fun v hv => by
      obtain ⟨i, hi⟩ := List.getElem?_of_mem hv
      obtain ⟨_, _, _, e⟩ := hlv i v hi
      exact e
    simp only [RV0]
    refine ⟨_, yss.length, cap, vss.map fun l => Value.agg l.toArray, rfl, by simp, q2, q3, ?_, fun u hu => ?_, ?_⟩
    · exact rl0_aggs hR h3 h4 fun l hl => (hy l hl).2
    · obtain ⟨l, hl, rfl⟩ := List.mem_map.1 hu
      simp [Value.cells, hmem l hl]
    · by_cases hl : yss.length = 0
      · exact .inl hl
      · refine .inr ⟨g, oo, rfl, ⟨.inr ⟨(hR.lt hm).1, (hR.lt hm).2.1⟩, fun j hj e => by have := hR.inj j id g e hm; omega⟩, fun i u hu j x hx => ?_⟩
        have hoo : oo = M.o id + 0 := by rcases q5 with q5 | q5 <;> omega
        rw [List.getElem?_map] at hu
        cases hv : vss[i]? with
        | none => rw [hv] at hu; cases hu
        | some l =>
          rw [hv] at hu
          simp only [Option.map_some, Option.some.injEq] at hu
          subst hu
          have hx' : l[j]? = some x := by simpa [Value.cells] using hx
          have := g3 _ _ (flat_getR hmem hv hx')
          rw [hoo, Nat.add_assoc]; exact this
end Go.V
namespace Go.Proofs.Ytaedcpipilnpcaa
set_option linter.unusedSimpArgs false
set_option linter.unusedVariables false
set_option maxRecDepth 10000
open Go.V
end Go.Proofs.Ytaedcpipilnpcaa
namespace Go.Proofs.Ytaedcpipilnpcaa
set_option linter.unusedSimpArgs false
set_option linter.unusedVariables false
set_option maxRecDepth 10000
open Go.V
theorem set_of_getR {α : Type} {l : List α} {i : Nat} {x : α} (h : l[i]? = some x) : l.set i x = l := by
  obtain ⟨hlt, rfl⟩ := List.getElem?_eq_some_iff.1 h
  exact List.set_getElem_self hlt
end Go.Proofs.Ytaedcpipilnpcaa
namespace Go.Proofs.Ytaedcpipilnpcaa
set_option linter.unusedSimpArgs false
set_option linter.unusedVariables false
set_option maxRecDepth 10000
open Go.V
abbrev resA (e : Int) (out : ByteArray) (st : Int) : AV := .agg [I e, strv out, I st]
def endF (σ : S) : Int := if σ.fin = 0 then 5 else σ.fin
def runF (code : List Int) (data : Int) (inp : ByteArray) (fuel : Int) : S := runN code inp (startF data) fuel.toNat
abbrev runA (code : List Int) (data : Int) (inp : ByteArray) (fuel : Int) : AV := resA (endF (runF code data inp fuel)) (runF code data inp fuel).out (runF code data inp fuel).st
def cntL (code : List Int) (inp : ByteArray) (σ : S) : Nat → List Int
  | 0 => List.replicate code.length 0
  | k + 1 => if doneF code (runN code inp σ k) = true then (cntL code inp σ k).set (runN code inp σ k).pc.toNat ((cntL code inp σ k).getD (runN code inp σ k).pc.toNat 0 + 1) else cntL code inp σ k
theorem cntL_len (code : List Int) (inp : ByteArray) (σ : S) : ∀ k, (cntL code inp σ k).length = code.length
  | 0 => by simp [cntL]
  | k + 1 => by
    simp only [cntL]; split
    · rw [List.length_set]; exact cntL_len code inp σ k
    · exact cntL_len code inp σ k
theorem cntL_le (code : List Int) (inp : ByteArray) (σ : S) : ∀ k, ∀ x ∈ cntL code inp σ k, 0 ≤ x ∧ x ≤ k
  | 0 => fun x hx => by
    simp only [cntL, List.mem_replicate] at hx; rw [hx.2]; exact ⟨Int.le_refl _, Int.le_refl _⟩
  | k + 1 => fun x hx => by
    have ih := cntL_le code inp σ k
    simp only [cntL] at hx
    split at hx
    · rcases List.mem_or_eq_of_mem_set hx with hx | hx
      · have := ih x hx; omega
      · rw [hx, List.getD_eq_getElem?_getD]
        cases hg : (cntL code inp σ k)[(runN code inp σ k).pc.toNat]? with
        | none => simp; omega
        | some y => have := ih y (List.mem_of_getElem? hg); simp; omega
    · have := ih x hx; omega
theorem cellT_I1 {xs : List Int} {off : Nat} {C : AV → Prop} : cellT (xs.map I) off false 1 C .mk = (off < xs.length ∧ C (I (xs.getD off default))) := cellT_map fun _ => rfl
end Go.Proofs.Ytaedcpipilnpcaa
namespace Go.Proofs.Ytaedcpipilnpcaa
set_option linter.unusedSimpArgs false
set_option linter.unusedVariables false
set_option maxRecDepth 10000
open Go.V
end Go.Proofs.Ytaedcpipilnpcaa
namespace Go.Proofs.Ytaedcpipilnpcaa
set_option linter.unusedSimpArgs false
set_option linter.unusedVariables false
set_option maxRecDepth 10000
open Go.V Go.ChangeShapes Go.WideShapes Go.ChangeAt Go.RowKit
end Go.Proofs.Ytaedcpipilnpcaa
namespace Go.Proofs.Ytaedcpipilnpcaa
set_option linter.unusedSimpArgs false
set_option linter.unusedVariables false
set_option maxRecDepth 10000
open Go.V Go.ChangeShapes Go.WideShapes Go.ChangeAt Go.RowKit
end Go.Proofs.Ytaedcpipilnpcaa
namespace Go.Proofs.Ytaedcpipilnpcaa
set_option linter.unusedSimpArgs false
set_option linter.unusedVariables false
set_option maxRecDepth 10000
open Go.V
def Fr (s t : S) : Prop :=
  (∃ j v, t.reg = updR s.reg j v ∧ t.mem = s.mem ∧ t.out = s.out ∧ (t.rd = s.rd ∨ t.rd = IntKind.i64.wrap (s.rd + 1))) ∨
  (∃ j v, t.reg = s.reg ∧ t.mem = s.mem.set j v ∧ t.out = s.out ∧ t.rd = s.rd) ∨
  (∃ b, t.reg = s.reg ∧ t.mem = s.mem ∧ t.out = s.out.push b ∧ t.rd = s.rd)
theorem updR_same (f : Nat → Int) : f = updR f 0 (f 0) := by
  funext k; unfold updR; split
  · rename_i h; rw [h]
  · rfl
theorem Fr.same {s t : S} (h1 : t.reg = s.reg) (h2 : t.mem = s.mem) (h3 : t.out = s.out) (h4 : t.rd = s.rd) : Fr s t :=
  .inl ⟨0, s.reg 0, by rw [h1]; exact updR_same _, h2, h3, .inl h4⟩
end Go.Proofs.Ytaedcpipilnpcaa
namespace Go.Proofs.Ytaedcpipilnpcaa
set_option linter.unusedSimpArgs false
set_option linter.unusedVariables false
set_option maxRecDepth 10000
open Go.V
def wkc (pc : Int) (f : Nat → Int) (m : AV) (rd : Int) (so : ByteArray) (st fin : Int) (o cd ok wd : AV) (inp : ByteArray) (ct : AV) : List AV :=
  I pc :: (regs f ++ [m, I rd, strv so, I st, I fin, o, cd, ok, wd, strv inp, ct])
section
variable {pc : Int} {f : Nat → Int} {m : AV} {rd : Int} {so : ByteArray} {st fin : Int} {o cd ok wd : AV} {inp : ByteArray} {ct : AV} {C : AV → Prop}
theorem wkc_length : (wkc pc f m rd so st fin o cd ok wd inp ct).length = 28 := rfl
theorem wkc_all : (wkc pc f m rd so st fin o cd ok wd inp ct).all AV.one = (m.one && o.one && cd.one && ok.one && wd.one && ct.one) := by
  simp [wkc, regs_all]; simp [AV.one, Value.oneCell', Bool.and_assoc]
theorem k_state : cellT (wkc pc f m rd so st fin o cd ok wd inp ct) 0 true 22 C .mk = C (.agg (stc pc f m rd so st fin)) := by
  have e : ((wkc pc f m rd so st fin o cd ok wd inp ct).drop 0).take 22 = stc pc f m rd so st fin := rfl
  simp only [cellT, cellW, partOK, partA, wkc_length, if_true, e]; simp
theorem k_reg {j : Nat} (h : j < 16) : cellT (wkc pc f m rd so st fin o cd ok wd inp ct) (1 + j) false 1 C .mk = C (U32 (f j)) := by
  have e : (wkc pc f m rd so st fin o cd ok wd inp ct).getD (1 + j) .dead = U32 (f j) := by
    rw [← regs_get (f := f) h, wkc, Nat.add_comm, List.getD_cons_succ]
    simp only [List.getD, List.getElem?_append_left (show j < (regs f).length by rw [regs_length]; exact h)]
  simp only [cellT, cellW, partOK, partA, wkc_length, e]
  simp [AV.one, Value.oneCell']; omega
theorem ks_reg {j : Nat} {v : Int} (h : j < 16) : (wkc pc f m rd so st fin o cd ok wd inp ct).set (1 + j) (U32 v) = wkc pc (updR f j v) m rd so st fin o cd ok wd inp ct := by
  rw [wkc, Nat.add_comm, List.set_cons_succ, List.set_append_left _ _ (by rw [regs_length]; exact h), regs_set h]; rfl
theorem k_pc : cellT (wkc pc f m rd so st fin o cd ok wd inp ct) 0 false 1 C .mk = C (I pc) := by
  have e : (wkc pc f m rd so st fin o cd ok wd inp ct).getD 0 .dead = I pc := rfl
  simp only [cellT, cellW, partOK, partA, wkc_length, e]; simp [AV.one, Value.oneCell']
theorem ks_pc {x : Int} : (wkc pc f m rd so st fin o cd ok wd inp ct).set 0 (I x) = wkc x f m rd so st fin o cd ok wd inp ct := rfl
theorem k_mem : cellT (wkc pc f m rd so st fin o cd ok wd inp ct) 17 false 1 C .mk = (m.one = true ∧ C m) := by
  have e : (wkc pc f m rd so st fin o cd ok wd inp ct).getD 17 .dead = m := rfl
  simp only [cellT, cellW, partOK, partA, wkc_length, e]; simp
theorem ks_mem {x : AV} : (wkc pc f m rd so st fin o cd ok wd inp ct).set 17 x = wkc pc f x rd so st fin o cd ok wd inp ct := rfl
theorem k_rd : cellT (wkc pc f m rd so st fin o cd ok wd inp ct) 18 false 1 C .mk = C (I rd) := by
  have e : (wkc pc f m rd so st fin o cd ok wd inp ct).getD 18 .dead = I rd := rfl
  simp only [cellT, cellW, partOK, partA, wkc_length, e]; simp [AV.one, Value.oneCell']
theorem ks_rd {x : Int} : (wkc pc f m rd so st fin o cd ok wd inp ct).set 18 (I x) = wkc pc f m x so st fin o cd ok wd inp ct := rfl
theorem k_so : cellT (wkc pc f m rd so st fin o cd ok wd inp ct) 19 false 1 C .mk = C (strv so) := by
  have e : (wkc pc f m rd so st fin o cd ok wd inp ct).getD 19 .dead = strv so := rfl
  simp only [cellT, cellW, partOK, partA, wkc_length, e]; simp [AV.one, Value.oneCell']
theorem ks_so {x : ByteArray} : (wkc pc f m rd so st fin o cd ok wd inp ct).set 19 (strv x) = wkc pc f m rd x st fin o cd ok wd inp ct := rfl
theorem k_st : cellT (wkc pc f m rd so st fin o cd ok wd inp ct) 20 false 1 C .mk = C (I st) := by
  have e : (wkc pc f m rd so st fin o cd ok wd inp ct).getD 20 .dead = I st := rfl
  simp only [cellT, cellW, partOK, partA, wkc_length, e]; simp [AV.one, Value.oneCell']
theorem ks_st {x : Int} : (wkc pc f m rd so st fin o cd ok wd inp ct).set 20 (I x) = wkc pc f m rd so x fin o cd ok wd inp ct := rfl
theorem k_fin : cellT (wkc pc f m rd so st fin o cd ok wd inp ct) 21 false 1 C .mk = C (I fin) := by
  have e : (wkc pc f m rd so st fin o cd ok wd inp ct).getD 21 .dead = I fin := rfl
  simp only [cellT, cellW, partOK, partA, wkc_length, e]; simp [AV.one, Value.oneCell']
theorem ks_fin {x : Int} : (wkc pc f m rd so st fin o cd ok wd inp ct).set 21 (I x) = wkc pc f m rd so st x o cd ok wd inp ct := rfl
theorem k_o : cellT (wkc pc f m rd so st fin o cd ok wd inp ct) 22 false 1 C .mk = (o.one = true ∧ C o) := by
  have e : (wkc pc f m rd so st fin o cd ok wd inp ct).getD 22 .dead = o := rfl
  simp only [cellT, cellW, partOK, partA, wkc_length, e]; simp
theorem ks_o {x : AV} : (wkc pc f m rd so st fin o cd ok wd inp ct).set 22 x = wkc pc f m rd so st fin x cd ok wd inp ct := rfl
theorem k_cd : cellT (wkc pc f m rd so st fin o cd ok wd inp ct) 23 false 1 C .mk = (cd.one = true ∧ C cd) := by
  have e : (wkc pc f m rd so st fin o cd ok wd inp ct).getD 23 .dead = cd := rfl
  simp only [cellT, cellW, partOK, partA, wkc_length, e]; simp
theorem k_ok : cellT (wkc pc f m rd so st fin o cd ok wd inp ct) 24 false 1 C .mk = (ok.one = true ∧ C ok) := by
  have e : (wkc pc f m rd so st fin o cd ok wd inp ct).getD 24 .dead = ok := rfl
  simp only [cellT, cellW, partOK, partA, wkc_length, e]; simp
theorem k_wd : cellT (wkc pc f m rd so st fin o cd ok wd inp ct) 25 false 1 C .mk = (wd.one = true ∧ C wd) := by
  have e : (wkc pc f m rd so st fin o cd ok wd inp ct).getD 25 .dead = wd := rfl
  simp only [cellT, cellW, partOK, partA, wkc_length, e]; simp
theorem k_in : cellT (wkc pc f m rd so st fin o cd ok wd inp ct) 26 false 1 C .mk = C (strv inp) := by
  have e : (wkc pc f m rd so st fin o cd ok wd inp ct).getD 26 .dead = strv inp := rfl
  simp only [cellT, cellW, partOK, partA, wkc_length, e]; simp [AV.one, Value.oneCell']
theorem k_ct : cellT (wkc pc f m rd so st fin o cd ok wd inp ct) 27 false 1 C .mk = (ct.one = true ∧ C ct) := by
  have e : (wkc pc f m rd so st fin o cd ok wd inp ct).getD 27 .dead = ct := rfl
  simp only [cellT, cellW, partOK, partA, wkc_length, e]; simp
end
end Go.Proofs.Ytaedcpipilnpcaa
namespace Go.Proofs.Ytaedcpipilnpcaa
set_option linter.unusedSimpArgs false
set_option linter.unusedVariables false
set_option maxRecDepth 10000
open Go.V
abbrev wkO (s : Nat) (cs : List AV) : VObj := ⟨s, 140, 1, cs⟩
section
variable {pc : Int} {f : Nat → Int} {m : AV} {rd : Int} {so : ByteArray} {st fin : Int} {o cd ok wd : AV} {inp : ByteArray} {ct : AV} {H : List VObj} {nx w sw : Nat} {C : AV → List VObj → Nat → Prop}
theorem wset_v (a v : Int) (ha : 0 ≤ a ∧ a ≤ 15) (hw : H[w]? = some (wkO sw (wkc pc f m rd so st fin o cd ok wd inp ct))) (h1 : (wkc pc f m rd so st fin o cd ok wd inp ct).all AV.one = true)
    (hC : ∀ r, C r (H.set w (wkO sw (wkc (IntKind.i64.wrap (pc + 1)) (updR f a.toNat v) m rd so st fin o cd ok wd inp ct))) nx) :
    VCall Try.prog 88 [.ptr w sw 0, I a, U32 v] H nx C := by
  refine VCall.of_body hmix f_scref10_work_set (by simp) ?_
  have hlt := (List.getElem?_eq_some_iff.1 hw).1
  have gw : ∀ x, (H.set w x)[w]? = some x := fun x => by rw [List.getElem?_set, if_pos rfl, if_pos hlt]
  have hj : a.toNat < 16 := by omega
  simp only [go_sem, Nat.reduceEqDiff, Nat.reduceAdd, ↓reduceIte, ↓dreduceIte, reduceCtorEq, Nat.reduceLeDiff, c_scref10_work_set, hw, gw, List.set_set, wkc_length, k_pc, ks_reg hj, ks_pc]
  repeat (refine And.intro (by omega) ?_)
  exact hC _
theorem wjump_v (yes : Bool) (to : Int) (hw : H[w]? = some (wkO sw (wkc pc f m rd so st fin o cd ok wd inp ct)))
    (hC : ∀ r, C r (H.set w (wkO sw (wkc (if yes then to else IntKind.i64.wrap (pc + 1)) f m rd so st fin o cd ok wd inp ct))) nx) :
    VCall Try.prog 90 [.ptr w sw 0, B yes, I to] H nx C := by
  refine VCall.of_body hmix f_scref10_work_jump (by simp) ?_
  have hlt := (List.getElem?_eq_some_iff.1 hw).1
  have gw : ∀ x, (H.set w x)[w]? = some x := fun x => by rw [List.getElem?_set, if_pos rfl, if_pos hlt]
  cases yes
  · simp only [go_sem, Nat.reduceEqDiff, Nat.reduceAdd, ↓reduceIte, ↓dreduceIte, reduceCtorEq, Nat.reduceLeDiff, c_scref10_work_jump, hw, wkc_length, k_pc, ks_pc]
    repeat (refine And.intro (by omega) ?_)
    exact hC _
  · simp only [go_sem, Nat.reduceEqDiff, Nat.reduceAdd, ↓reduceIte, reduceCtorEq, Nat.reduceLeDiff, c_scref10_work_jump, hw, wkc_length, ks_pc]
    repeat (refine And.intro (by omega) ?_)
    exact hC _
end
theorem fetchN_c (l : List Int) (b k : Int) (hb : In32 b) (hk : 0 ≤ k ∧ k ≤ 65535) (hl : l.length ≤ 1000000) : ContractN Try.prog 89 [words l, U32 b, I k]
    (fun r => r = (if w32 (b + k) < l.length then AV.tup [U32 (l.getD (w32 (b + k)).toNat default), B true] else AV.tup [U32 0, B false])) := by
  refine ContractN.of_call (VCall.of_body hmix f_scref10_fetch (by simp) ?_)
  have e1 : IntKind.u32.wrap k = k := w32_in ⟨by omega, by omega⟩
  obtain ⟨at_, hat⟩ : ∃ x, IntKind.u32.wrap (b + k) = x := ⟨_, rfl⟩
  have hin : In32 at_ := by rw [← hat, IntKind.wrap_u32]; exact ⟨by omega, by omega⟩
  obtain ⟨p1, p2⟩ := hin
  have e2 : IntKind.u64.wrap at_ = at_ := by rw [IntKind.wrap_u64]; omega
  have e3 : IntKind.u64.wrap (l.length : Int) = l.length := by rw [IntKind.wrap_u64]; omega
  have hat' : w32 (b + k) = at_ := hat
  simp only [hat']
  by_cases h : at_ < l.length
  · simp only [go_sem, Nat.reduceEqDiff, Nat.reduceAdd, ↓reduceIte, reduceCtorEq, c_scref10_fetch, e1, hat, e2, e3, eq_false (show ¬ (l.length : Int) ≤ at_ by omega), if_pos h]
    repeat (refine And.intro (by omega) ?_)
    exact ⟨_, FrzN.tup ⟨_, _, rfl, FrzN.val, _, _, rfl, FrzN.val, rfl⟩, by simp []⟩
  · simp only [go_sem, Nat.reduceEqDiff, Nat.reduceAdd, ↓reduceIte, reduceCtorEq, c_scref10_fetch, e1, hat, e2, e3, eq_true (show (l.length : Int) ≤ at_ by omega), if_neg h]
    exact ⟨_, FrzN.tup ⟨_, _, rfl, FrzN.val, _, _, rfl, FrzN.val, rfl⟩, by simp []⟩
end Go.Proofs.Ytaedcpipilnpcaa
namespace Go.Proofs.Ytaedcpipilnpcaa
set_option linter.unusedSimpArgs false
set_option linter.unusedVariables false
set_option maxRecDepth 10000
open Go.V
def insC (w : Int) : List AV := if okW w then [I (opW w), I (raW w), I (rbW w), I (kW w)] else [I 0, I 0, I 0, I 0]
abbrev insL (code : List Int) : AV := .imm 4 ((code.map insC).map .agg)
abbrev okL (code : List Int) : AV := .imm 1 (code.map fun w => B (okW w))
theorem insC_len (w : Int) : (insC w).length = 4 := by unfold insC; split <;> rfl
theorem insC_pure (w : Int) : (insC w).all AV.pure = true := by unfold insC; split <;> rfl
theorem insC_one (w : Int) : (insC w).all AV.one = true := by unfold insC; split <;> rfl
theorem flat4_len (ls : List (List AV)) (h : ∀ l ∈ ls, l.length = 4) : ls.flatten.length = ls.length * 4 := by
  induction ls with
  | nil => rfl
  | cons a ls ih => rw [List.flatten_cons, List.length_append, h a (by simp), ih (fun l hl => h l (by simp [hl])), List.length_cons]; omega
def insP (code : List Int) (k : Nat) : List (List AV) := (code.take k).map insC ++ List.replicate (code.length - k) [I 0, I 0, I 0, I 0]
theorem insP_len (code : List Int) {k : Nat} (h : k ≤ code.length) : (insP code k).length = code.length := by simp [insP]; omega
theorem insP_4 (code : List Int) (k : Nat) : ∀ l ∈ insP code k, l.length = 4 := fun l hl => by
  unfold insP at hl
  rcases List.mem_append.1 hl with hl | hl
  · obtain ⟨w, _, rfl⟩ := List.mem_map.1 hl; exact insC_len w
  · rw [List.mem_replicate] at hl; rw [hl.2]; rfl
theorem insP_next (code : List Int) {k : Nat} (h : k < code.length) : (insP code k).flatten.take (k * 4) ++ insC (code.getD k default) ++ (insP code k).flatten.drop (k * 4 + 4) = (insP code (k + 1)).flatten := by
  have e1 : ((code.take k).map insC).flatten.length = k * 4 := by
    rw [flat4_len _ (fun l hl => by obtain ⟨w, _, rfl⟩ := List.mem_map.1 hl; exact insC_len w)]; simp; omega
  have e2 : code.length - k = (code.length - (k + 1)) + 1 := by omega
  unfold insP
  rw [List.flatten_append, List.take_append_of_le_length (by omega), List.take_of_length_le (by omega), e2, List.replicate_succ, List.flatten_cons]
  rw [show k * 4 + 4 = ((code.take k).map insC).flatten.length + 4 by rw [e1], ← List.drop_drop, List.drop_left]
  rw [List.take_add_one, List.getElem?_eq_getElem h, List.getD_eq_getElem?_getD, List.getElem?_eq_getElem h]
  simp only [Option.getD_some, Option.toList_some, List.map_append, List.map_cons, List.map_nil, List.flatten_append, List.flatten_cons, List.flatten_nil, List.append_nil, List.append_assoc]
  rfl
def okPR (code : List Int) (k : Nat) : List AV := (code.take k).map (fun w => B (okW w)) ++ List.replicate (code.length - k) (B false)
theorem okP_len (code : List Int) {k : Nat} (h : k ≤ code.length) : (okPR code k).length = code.length := by simp [okPR]; omega
theorem okP_next (code : List Int) {k : Nat} (h : k < code.length) : (okPR code k).set k (B (okW (code.getD k default))) = okPR code (k + 1) := by
  have e2 : code.length - k = (code.length - (k + 1)) + 1 := by omega
  have e1 : ((code.take k).map (fun w => B (okW w))).length = k := by simp; omega
  unfold okPR
  rw [e2, List.replicate_succ, List.set_append_right _ _ (by omega), e1, Nat.sub_self, List.set_cons_zero, List.take_add_one, List.getElem?_eq_getElem h, List.getD_eq_getElem?_getD, List.getElem?_eq_getElem h]
  simp only [Option.getD_some, Option.toList_some, List.map_append, List.map_cons, List.map_nil, List.append_assoc, List.cons_append, List.nil_append]
theorem refcode_c (code : List Int) (data : Int) (hcode : ∀ x ∈ code, In32 x) (hcl : code.length ≤ 1000000) : Contract Try.prog 79 [imgA code data] (fun r => r = .tup [insL code, okL code]) := by
  refine Contract.of_call (VCall.of_body hmix f_scref10_Code (by simp) ?_)
  have hr1 : (List.replicate code.length [I 0, I 0, I 0, I 0]).flatten = (insP code 0).flatten := by simp [insP]
  have hr2 : (List.replicate code.length [B false]).flatten = okPR code 0 := by
    unfold okPR; simp
  have hi0 := flat4_len _ (insP_4 code 0)
  simp only [go_sem, Nat.reduceEqDiff, Nat.reduceAdd, ↓reduceIte, Nat.reduceLeDiff, c_scref10_Code, hr1, hr2]
  repeat (refine And.intro (by omega) ?_)
  refine VW_loop (fun q : Nat × List VObj × Nat => ⟨[(1, .ptr 0 0 0), (4, .ref 1 1 0 code.length), (5, .ref 2 2 0 code.length), (6, I q.1)], ⟨0, 38, 1, [words code, I data]⟩ :: ⟨1, 86, 4, (insP code q.1).flatten⟩ :: ⟨2, 4, 1, okPR code q.1⟩ :: q.2.1, q.2.2⟩)
    (fun q => q.1 ≤ code.length) (fun q => code.length - q.1) (0, [], 3) (Wk.mk (by simp [get_cons]) ⟨[], rfl⟩ (Nat.le_refl _)) (Nat.zero_le _) ?_
  rintro ⟨k, J, nx⟩ hk
  simp only at hk
  by_cases c1 : (k : Int) < code.length
  · have hlt : k < code.length := by omega
    obtain ⟨w, hw⟩ : ∃ w, code.getD k default = w := ⟨_, rfl⟩
    have hwi : In32 w := by
      rw [← hw, List.getD_eq_getElem?_getD, List.getElem?_eq_getElem hlt]
      exact hcode _ (List.getElem_mem _)
    have n1 := insP_next code hlt
    have n2 := okP_next code hlt
    rw [hw] at n1 n2
    have l1 := flat4_len _ (insP_4 code k)
    rw [insP_len code hk] at l1
    have l2 := okP_len code hk
    simp only [go_sem, Nat.reduceEqDiff, Nat.reduceAdd, ↓reduceIte, ↓dreduceIte, Nat.reduceLeDiff, eq_true c1, hw]
    repeat (refine And.intro (by omega) ?_)
    refine VCall.of_contract (refdecode_c w hwi) (SleL.pure rfl) fun x hx => ?_
    subst hx
    unfold decA
    cases hok : okW w
    · have e4 : insC w = [I 0, I 0, I 0, I 0] := by unfold insC; rw [hok]; rfl
      rw [e4] at n1
      rw [hok] at n2
      simp only [go_sem, Nat.reduceEqDiff, Nat.reduceAdd, ↓reduceIte, Nat.reduceLT, ogn, osn, l1, l2, n1, n2, Int.reduceBEq]
      repeat (refine And.intro (by omega) ?_)
      rw [i64_in (by omega) (by omega)]
      exact ⟨(k + 1, _, _), by simp only; omega, by simp only; omega, Wk.mk (by simp [get_cons]) ⟨[], (List.append_nil _).symm⟩ (Nat.le_refl _)⟩
    · have e4 : insC w = [I (opW w), I (raW w), I (rbW w), I (kW w)] := by unfold insC; rw [hok]; rfl
      rw [e4] at n1
      rw [hok] at n2
      simp only [go_sem, Nat.reduceEqDiff, Nat.reduceAdd, ↓reduceIte, Nat.reduceLT, ogn, osn, l1, l2, n1, n2, Int.reduceBEq]
      repeat (refine And.intro (by omega) ?_)
      rw [i64_in (by omega) (by omega)]
      exact ⟨(k + 1, _, _), by simp only; omega, by simp only; omega, Wk.mk (by simp [get_cons]) ⟨[], (List.append_nil _).symm⟩ (Nat.le_refl _)⟩
  · have e : k = code.length := by omega
    subst e
    have hi : insP code code.length = code.map insC := by simp [insP]
    have ho : okPR code code.length = code.map fun w => B (okW w) := by simp [okPR]
    simp only [go_sem, Nat.reduceEqDiff, Nat.reduceAdd, ↓reduceIte, Nat.reduceLeDiff, eq_false c1, hi, ho]
    refine ⟨_, Frz.tup ⟨_, _, rfl, Frz.refS (Nat.zero_le _) rfl rfl rfl rfl (fun l hl => ?_) (by simp), _, _, rfl, Frz.ref (Nat.zero_le _) rfl rfl rfl ?_ (FrzL.pure ?_), rfl⟩, ?_⟩
    · obtain ⟨w, _, rfl⟩ := List.mem_map.1 hl
      exact ⟨insC_len w, insC_pure w⟩
    · rw [List.all_eq_true]; intro y hy; obtain ⟨x, _, rfl⟩ := List.mem_map.1 hy; rfl
    · rw [List.drop_zero, List.take_of_length_le (by simp), List.all_eq_true]; intro y hy; obtain ⟨x, _, rfl⟩ := List.mem_map.1 hy; rfl
    · rw [List.drop_zero, List.take_of_length_le (by simp)]
end Go.Proofs.Ytaedcpipilnpcaa
namespace Go.Proofs.Ytaedcpipilnpcaa
open Go.V
def r_scref10_work_step : VC :=
 (.seq
 (.seq
 (.ops [
 ⟨(some 11), none, (.mv (.tmp 0))⟩,
 ⟨(some 12), none, (.nck (.tmp 11))⟩,
 ⟨(some 13), none, (.fad 0 true 22 (.tmp 12))⟩,
 ⟨(some 14), none, (.fad 0 false 1 (.tmp 13))⟩,
 ⟨(some 15), none, (.ld false 1 (.tmp 14))⟩,
 ⟨(some 16), none, (.bin .lss (.tmp 15) (.const (.int .i64 0)))⟩,
 ⟨(some 17), none, (.mv (.tmp 16))⟩,
 ⟨(some 18), (some (17, false)), (.mv (.tmp 0))⟩,
 ⟨(some 19), (some (17, false)), (.nck (.tmp 18))⟩,
 ⟨(some 20), (some (17, false)), (.fad 0 true 22 (.tmp 19))⟩,
 ⟨(some 21), (some (17, false)), (.fad 0 false 1 (.tmp 20))⟩,
 ⟨(some 22), (some (17, false)), (.ld false 1 (.tmp 21))⟩,
 ⟨(some 23), (some (17, false)), (.mv (.tmp 0))⟩,
 ⟨(some 24), (some (17, false)), (.nck (.tmp 23))⟩,
 ⟨(some 25), (some (17, false)), (.fad 23 false 1 (.tmp 24))⟩,
 ⟨(some 26), (some (17, false)), (.ld false 1 (.tmp 25))⟩,
 ⟨(some 27), (some (17, false)), (.len (.tmp 26))⟩,
 ⟨(some 28), (some (17, false)), (.bin .geq (.tmp 22) (.tmp 27))⟩,
 ⟨(some 29), none, (.pick (.tmp 17) (.const (.bool true)) (.tmp 28))⟩])
 (.cond (.tmp 29)
 (.seq
 (.ops [
 ⟨(some 30), none, (.mv (.tmp 0))⟩,
 ⟨(some 31), none, (.nck (.tmp 30))⟩,
 ⟨(some 32), none, (.fad 0 true 22 (.tmp 31))⟩,
 ⟨(some 33), none, (.fad 21 false 1 (.tmp 32))⟩,
 ⟨none, none, (.sto false 1 (.tmp 33) (.const (.int .i64 7)))⟩])
 .ret)
 .skip))
 (.seq
 (.ops [
 ⟨(some 34), none, (.mv (.tmp 0))⟩,
 ⟨(some 35), none, (.nck (.tmp 34))⟩,
 ⟨(some 36), none, (.fad 0 true 22 (.tmp 35))⟩,
 ⟨(some 37), none, (.fad 20 false 1 (.tmp 36))⟩,
 ⟨(some 38), none, (.ld false 1 (.tmp 37))⟩,
 ⟨(some 39), none, (.bin .add (.tmp 38) (.const (.int .i64 1)))⟩,
 ⟨(some 40), none, (.nck (.tmp 34))⟩,
 ⟨(some 41), none, (.fad 0 true 22 (.tmp 40))⟩,
 ⟨(some 42), none, (.fad 20 false 1 (.tmp 41))⟩,
 ⟨none, none, (.sto false 1 (.tmp 42) (.tmp 39))⟩])
 (.seq
 (.ops [
 ⟨(some 43), none, (.mv (.tmp 0))⟩,
 ⟨(some 44), none, (.nck (.tmp 43))⟩,
 ⟨(some 45), none, (.fad 27 false 1 (.tmp 44))⟩,
 ⟨(some 46), none, (.ld false 1 (.tmp 45))⟩,
 ⟨(some 47), none, (.mv (.tmp 0))⟩,
 ⟨(some 48), none, (.nck (.tmp 47))⟩,
 ⟨(some 49), none, (.fad 0 true 22 (.tmp 48))⟩,
 ⟨(some 50), none, (.fad 0 false 1 (.tmp 49))⟩,
 ⟨(some 51), none, (.ld false 1 (.tmp 50))⟩,
 ⟨(some 52), none, (.idx 1 (.tmp 46) (.tmp 51))⟩,
 ⟨(some 53), none, (.ld false 1 (.tmp 52))⟩,
 ⟨(some 54), none, (.bin .add (.tmp 53) (.const (.int .i64 1)))⟩,
 ⟨(some 55), none, (.idx 1 (.tmp 46) (.tmp 51))⟩,
 ⟨none, none, (.sto false 1 (.tmp 55) (.tmp 54))⟩])
 (.seq
 (.par true (.one ⟨(some 56), none, (.mv (.tmp 0))⟩ (.one ⟨(some 57), none, (.nck (.tmp 56))⟩ (.one ⟨(some 58), none, (.fad 23 false 1 (.tmp 57))⟩ (.one ⟨(some 59), none, (.ld false 1 (.tmp 58))⟩ (.one ⟨(some 60), none, (.mv (.tmp 0))⟩ (.one ⟨(some 61), none, (.nck (.tmp 60))⟩ (.one ⟨(some 62), none, (.fad 0 true 22 (.tmp 61))⟩ (.one ⟨(some 63), none, (.fad 0 false 1 (.tmp 62))⟩ (.one ⟨(some 64), none, (.ld false 1 (.tmp 63))⟩ (.one ⟨(some 65), none, (.idx 4 (.tmp 59) (.tmp 64))⟩ (.one ⟨(some 66), none, (.ld true 4 (.tmp 65))⟩ (.one ⟨(some 2), none, (.alc 86 [(.int .i64 0), (.int .i64 0), (.int .i64 0), (.int .i64 0)])⟩ (.one ⟨none, none, (.sto true 4 (.tmp 2) (.tmp 66))⟩ .done))))))))))))))
 (.seq
 (.seq
 (.ops [
 ⟨(some 67), none, (.mv (.tmp 0))⟩,
 ⟨(some 68), none, (.nck (.tmp 67))⟩,
 ⟨(some 69), none, (.fad 24 false 1 (.tmp 68))⟩,
 ⟨(some 70), none, (.ld false 1 (.tmp 69))⟩,
 ⟨(some 71), none, (.mv (.tmp 0))⟩,
 ⟨(some 72), none, (.nck (.tmp 71))⟩,
 ⟨(some 73), none, (.fad 0 true 22 (.tmp 72))⟩,
 ⟨(some 74), none, (.fad 0 false 1 (.tmp 73))⟩,
 ⟨(some 75), none, (.ld false 1 (.tmp 74))⟩,
 ⟨(some 76), none, (.idx 1 (.tmp 70) (.tmp 75))⟩,
 ⟨(some 77), none, (.ld false 1 (.tmp 76))⟩,
 ⟨(some 78), none, (.un .not (.tmp 77))⟩])
 (.cond (.tmp 78)
 (.seq
 (.ops [
 ⟨(some 79), none, (.mv (.tmp 0))⟩,
 ⟨(some 80), none, (.nck (.tmp 79))⟩,
 ⟨(some 81), none, (.fad 0 true 22 (.tmp 80))⟩,
 ⟨(some 82), none, (.fad 21 false 1 (.tmp 81))⟩,
 ⟨none, none, (.sto false 1 (.tmp 82) (.const (.int .i64 6)))⟩])
 .ret)
 .skip))
 (.seq
 (.ops [
 ⟨(some 83), none, (.mv (.tmp 0))⟩,
 ⟨(some 84), none, (.fad 1 false 1 (.tmp 2))⟩,
 ⟨(some 85), none, (.ld false 1 (.tmp 84))⟩,
 ⟨(some 86), none, (.nck (.tmp 83))⟩,
 ⟨(some 87), none, (.fad 0 true 22 (.tmp 86))⟩,
 ⟨(some 88), none, (.fad 1 true 16 (.tmp 87))⟩,
 ⟨(some 89), none, (.aidx 16 false 1 (.tmp 88) (.tmp 85))⟩,
 ⟨(some 90), none, (.ld false 1 (.tmp 89))⟩,
 ⟨(some 3), none, (.mv (.tmp 90))⟩])
 (.seq
 (.ops [
 ⟨(some 91), none, (.fad 0 false 1 (.tmp 2))⟩,
 ⟨(some 92), none, (.ld false 1 (.tmp 91))⟩])
 (.block 0
 (.seq
 (.ops [
 ⟨(some 127), none, (.bin .eql (.tmp 92) (.const (.int .i64 1)))⟩,
 ⟨(some 126), none, (.mv (.tmp 127))⟩])
 (.cond (.tmp 126)
 (.ops [
 ⟨(some 128), none, (.mv (.tmp 0))⟩,
 ⟨(some 129), none, (.fad 1 false 1 (.tmp 2))⟩,
 ⟨(some 130), none, (.ld false 1 (.tmp 129))⟩,
 ⟨(some 131), none, (.fad 3 false 1 (.tmp 2))⟩,
 ⟨(some 132), none, (.ld false 1 (.tmp 131))⟩,
 ⟨(some 133), none, (.conv .u32 (.tmp 132))⟩,
 ⟨(some 134), none, (.call (.func 88) [(.tmp 128), (.tmp 130), (.tmp 133)])⟩])
 (.seq
 (.ops [
 ⟨(some 136), none, (.bin .eql (.tmp 92) (.const (.int .i64 2)))⟩,
 ⟨(some 135), none, (.mv (.tmp 136))⟩])
 (.cond (.tmp 135)
 (.ops [
 ⟨(some 137), none, (.mv (.tmp 0))⟩,
 ⟨(some 138), none, (.fad 1 false 1 (.tmp 2))⟩,
 ⟨(some 139), none, (.ld false 1 (.tmp 138))⟩,
 ⟨(some 140), none, (.mv (.tmp 3))⟩,
 ⟨(some 141), none, (.bin .rem (.tmp 140) (.const (.int .u32 65536)))⟩,
 ⟨(some 142), none, (.fad 3 false 1 (.tmp 2))⟩,
 ⟨(some 143), none, (.ld false 1 (.tmp 142))⟩,
 ⟨(some 144), none, (.conv .u32 (.tmp 143))⟩,
 ⟨(some 145), none, (.bin .mul (.tmp 144) (.const (.int .u32 65536)))⟩,
 ⟨(some 146), none, (.bin .add (.tmp 141) (.tmp 145))⟩,
 ⟨(some 147), none, (.call (.func 88) [(.tmp 137), (.tmp 139), (.tmp 146)])⟩])
 (.seq
 (.ops [
 ⟨(some 149), none, (.bin .eql (.tmp 92) (.const (.int .i64 3)))⟩,
 ⟨(some 148), none, (.mv (.tmp 149))⟩])
 (.cond (.tmp 148)
 (.ops [
 ⟨(some 150), none, (.mv (.tmp 0))⟩,
 ⟨(some 151), none, (.fad 1 false 1 (.tmp 2))⟩,
 ⟨(some 152), none, (.ld false 1 (.tmp 151))⟩,
 ⟨(some 153), none, (.mv (.tmp 0))⟩,
 ⟨(some 154), none, (.fad 2 false 1 (.tmp 2))⟩,
 ⟨(some 155), none, (.ld false 1 (.tmp 154))⟩,
 ⟨(some 156), none, (.nck (.tmp 153))⟩,
 ⟨(some 157), none, (.fad 0 true 22 (.tmp 156))⟩,
 ⟨(some 158), none, (.fad 1 true 16 (.tmp 157))⟩,
 ⟨(some 159), none, (.aidx 16 false 1 (.tmp 158) (.tmp 155))⟩,
 ⟨(some 160), none, (.ld false 1 (.tmp 159))⟩,
 ⟨(some 161), none, (.call (.func 88) [(.tmp 150), (.tmp 152), (.tmp 160)])⟩])
 (.seq
 (.seq
 (.ops [
 ⟨(some 163), none, (.bin .eql (.tmp 92) (.const (.int .i64 16)))⟩,
 ⟨(some 162), none, (.mv (.tmp 163))⟩])
 (.cond (.tmp 162)
 .skip
 (.ops [
 ⟨(some 164), none, (.bin .eql (.tmp 92) (.const (.int .i64 27)))⟩,
 ⟨(some 162), none, (.mv (.tmp 164))⟩])))
 (.cond (.tmp 162)
 (.seq
 (.ops [
 ⟨(some 165), none, (.mv (.tmp 0))⟩,
 ⟨(some 166), none, (.nck (.tmp 165))⟩,
 ⟨(some 167), none, (.fad 0 true 22 (.tmp 166))⟩,
 ⟨(some 168), none, (.fad 17 false 1 (.tmp 167))⟩,
 ⟨(some 169), none, (.ld false 1 (.tmp 168))⟩,
 ⟨(some 4), none, (.mv (.tmp 169))⟩])
 (.seq
 (.seq
 (.ops [
 ⟨(some 170), none, (.fad 0 false 1 (.tmp 2))⟩,
 ⟨(some 171), none, (.ld false 1 (.tmp 170))⟩,
 ⟨(some 172), none, (.bin .eql (.tmp 171) (.const (.int .i64 27)))⟩])
 (.cond (.tmp 172)
 (.ops [
 ⟨(some 173), none, (.mv (.tmp 0))⟩,
 ⟨(some 174), none, (.nck (.tmp 173))⟩,
 ⟨(some 175), none, (.fad 25 false 1 (.tmp 174))⟩,
 ⟨(some 176), none, (.ld false 1 (.tmp 175))⟩,
 ⟨(some 4), none, (.mv (.tmp 176))⟩])
 .skip))
 (.seq
 (.par true (.one ⟨(some 178), none, (.mv (.tmp 4))⟩ (.one ⟨(some 179), none, (.mv (.tmp 0))⟩ (.one ⟨(some 180), none, (.fad 2 false 1 (.tmp 2))⟩ (.one ⟨(some 181), none, (.ld false 1 (.tmp 180))⟩ (.one ⟨(some 182), none, (.nck (.tmp 179))⟩ (.one ⟨(some 183), none, (.fad 0 true 22 (.tmp 182))⟩ (.one ⟨(some 184), none, (.fad 1 true 16 (.tmp 183))⟩ (.one ⟨(some 185), none, (.aidx 16 false 1 (.tmp 184) (.tmp 181))⟩ (.one ⟨(some 186), none, (.ld false 1 (.tmp 185))⟩ (.one ⟨(some 187), none, (.fad 3 false 1 (.tmp 2))⟩ (.one ⟨(some 188), none, (.ld false 1 (.tmp 187))⟩ (.one ⟨(some 189), none, (.call (.func 89) [(.tmp 178), (.tmp 186), (.tmp 188)])⟩ (.one ⟨(some 177), none, (.mv (.tmp 189))⟩ (.one ⟨(some 190), none, (.ext (.tmp 177) 0)⟩ (.one ⟨(some 191), none, (.ext (.tmp 177) 1)⟩ (.one ⟨(some 5), none, (.mv (.tmp 190))⟩ (.one ⟨(some 6), none, (.mv (.tmp 191))⟩ .done))))))))))))))))))
 (.seq
 (.seq
 (.ops [
 ⟨(some 192), none, (.mv (.tmp 6))⟩,
 ⟨(some 193), none, (.un .not (.tmp 192))⟩])
 (.cond (.tmp 193)
 (.seq
 (.ops [
 ⟨(some 194), none, (.mv (.tmp 0))⟩,
 ⟨(some 195), none, (.nck (.tmp 194))⟩,
 ⟨(some 196), none, (.fad 0 true 22 (.tmp 195))⟩,
 ⟨(some 197), none, (.fad 21 false 1 (.tmp 196))⟩,
 ⟨none, none, (.sto false 1 (.tmp 197) (.const (.int .i64 8)))⟩])
 .ret)
 .skip))
 (.ops [
 ⟨(some 198), none, (.mv (.tmp 0))⟩,
 ⟨(some 199), none, (.fad 1 false 1 (.tmp 2))⟩,
 ⟨(some 200), none, (.ld false 1 (.tmp 199))⟩,
 ⟨(some 201), none, (.mv (.tmp 5))⟩,
 ⟨(some 202), none, (.call (.func 88) [(.tmp 198), (.tmp 200), (.tmp 201)])⟩])))))
 (.seq
 (.ops [
 ⟨(some 204), none, (.bin .eql (.tmp 92) (.const (.int .i64 17)))⟩,
 ⟨(some 203), none, (.mv (.tmp 204))⟩])
 (.cond (.tmp 203)
 (.seq
 (.ops [
 ⟨(some 205), none, (.mv (.tmp 0))⟩,
 ⟨(some 206), none, (.fad 2 false 1 (.tmp 2))⟩,
 ⟨(some 207), none, (.ld false 1 (.tmp 206))⟩,
 ⟨(some 208), none, (.nck (.tmp 205))⟩,
 ⟨(some 209), none, (.fad 0 true 22 (.tmp 208))⟩,
 ⟨(some 210), none, (.fad 1 true 16 (.tmp 209))⟩,
 ⟨(some 211), none, (.aidx 16 false 1 (.tmp 210) (.tmp 207))⟩,
 ⟨(some 212), none, (.ld false 1 (.tmp 211))⟩,
 ⟨(some 213), none, (.fad 3 false 1 (.tmp 2))⟩,
 ⟨(some 214), none, (.ld false 1 (.tmp 213))⟩,
 ⟨(some 215), none, (.conv .u32 (.tmp 214))⟩,
 ⟨(some 216), none, (.bin .add (.tmp 212) (.tmp 215))⟩,
 ⟨(some 7), none, (.mv (.tmp 216))⟩])
 (.seq
 (.seq
 (.ops [
 ⟨(some 217), none, (.mv (.tmp 7))⟩,
 ⟨(some 218), none, (.conv .u64 (.tmp 217))⟩,
 ⟨(some 219), none, (.mv (.tmp 0))⟩,
 ⟨(some 220), none, (.nck (.tmp 219))⟩,
 ⟨(some 221), none, (.fad 0 true 22 (.tmp 220))⟩,
 ⟨(some 222), none, (.fad 17 false 1 (.tmp 221))⟩,
 ⟨(some 223), none, (.ld false 1 (.tmp 222))⟩,
 ⟨(some 224), none, (.len (.tmp 223))⟩,
 ⟨(some 225), none, (.conv .u64 (.tmp 224))⟩,
 ⟨(some 226), none, (.bin .geq (.tmp 218) (.tmp 225))⟩])
 (.cond (.tmp 226)
 (.seq
 (.ops [
 ⟨(some 227), none, (.mv (.tmp 0))⟩,
 ⟨(some 228), none, (.nck (.tmp 227))⟩,
 ⟨(some 229), none, (.fad 0 true 22 (.tmp 228))⟩,
 ⟨(some 230), none, (.fad 21 false 1 (.tmp 229))⟩,
 ⟨none, none, (.sto false 1 (.tmp 230) (.const (.int .i64 8)))⟩])
 .ret)
 .skip))
 (.seq
 (.ops [
 ⟨(some 231), none, (.mv (.tmp 0))⟩,
 ⟨(some 232), none, (.nck (.tmp 231))⟩,
 ⟨(some 233), none, (.fad 0 true 22 (.tmp 232))⟩,
 ⟨(some 234), none, (.fad 17 false 1 (.tmp 233))⟩,
 ⟨(some 235), none, (.ld false 1 (.tmp 234))⟩,
 ⟨(some 236), none, (.mv (.tmp 7))⟩,
 ⟨(some 237), none, (.mv (.tmp 3))⟩,
 ⟨(some 238), none, (.idx 1 (.tmp 235) (.tmp 236))⟩,
 ⟨none, none, (.sto false 1 (.tmp 238) (.tmp 237))⟩])
 (.ops [
 ⟨(some 239), none, (.mv (.tmp 0))⟩,
 ⟨(some 240), none, (.nck (.tmp 239))⟩,
 ⟨(some 241), none, (.fad 0 true 22 (.tmp 240))⟩,
 ⟨(some 242), none, (.fad 0 false 1 (.tmp 241))⟩,
 ⟨(some 243), none, (.ld false 1 (.tmp 242))⟩,
 ⟨(some 244), none, (.bin .add (.tmp 243) (.const (.int .i64 1)))⟩,
 ⟨(some 245), none, (.nck (.tmp 239))⟩,
 ⟨(some 246), none, (.fad 0 true 22 (.tmp 245))⟩,
 ⟨(some 247), none, (.fad 0 false 1 (.tmp 246))⟩,
 ⟨none, none, (.sto false 1 (.tmp 247) (.tmp 244))⟩]))))
 (.seq
 (.ops [
 ⟨(some 249), none, (.bin .eql (.tmp 92) (.const (.int .i64 18)))⟩,
 ⟨(some 248), none, (.mv (.tmp 249))⟩])
 (.cond (.tmp 248)
 (.ops [
 ⟨(some 250), none, (.mv (.tmp 0))⟩,
 ⟨(some 251), none, (.fad 3 false 1 (.tmp 2))⟩,
 ⟨(some 252), none, (.ld false 1 (.tmp 251))⟩,
 ⟨(some 253), none, (.nck (.tmp 250))⟩,
 ⟨(some 254), none, (.fad 0 true 22 (.tmp 253))⟩,
 ⟨(some 255), none, (.fad 0 false 1 (.tmp 254))⟩,
 ⟨none, none, (.sto false 1 (.tmp 255) (.tmp 252))⟩])
 (.seq
 (.ops [
 ⟨(some 257), none, (.bin .eql (.tmp 92) (.const (.int .i64 19)))⟩,
 ⟨(some 256), none, (.mv (.tmp 257))⟩])
 (.cond (.tmp 256)
 (.ops [
 ⟨(some 258), none, (.mv (.tmp 0))⟩,
 ⟨(some 259), none, (.mv (.tmp 3))⟩,
 ⟨(some 260), none, (.bin .eql (.tmp 259) (.const (.int .u32 0)))⟩,
 ⟨(some 261), none, (.fad 3 false 1 (.tmp 2))⟩,
 ⟨(some 262), none, (.ld false 1 (.tmp 261))⟩,
 ⟨(some 263), none, (.call (.func 90) [(.tmp 258), (.tmp 260), (.tmp 262)])⟩])
 (.seq
 (.ops [
 ⟨(some 265), none, (.bin .eql (.tmp 92) (.const (.int .i64 20)))⟩,
 ⟨(some 264), none, (.mv (.tmp 265))⟩])
 (.cond (.tmp 264)
 (.ops [
 ⟨(some 266), none, (.mv (.tmp 0))⟩,
 ⟨(some 267), none, (.mv (.tmp 3))⟩,
 ⟨(some 268), none, (.bin .neq (.tmp 267) (.const (.int .u32 0)))⟩,
 ⟨(some 269), none, (.fad 3 false 1 (.tmp 2))⟩,
 ⟨(some 270), none, (.ld false 1 (.tmp 269))⟩,
 ⟨(some 271), none, (.call (.func 90) [(.tmp 266), (.tmp 268), (.tmp 270)])⟩])
 (.seq
 (.ops [
 ⟨(some 273), none, (.bin .eql (.tmp 92) (.const (.int .i64 21)))⟩,
 ⟨(some 272), none, (.mv (.tmp 273))⟩])
 (.cond (.tmp 272)
 (.seq
 (.ops [
 ⟨(some 274), none, (.mv (.tmp 0))⟩,
 ⟨(some 275), none, (.fad 1 false 1 (.tmp 2))⟩,
 ⟨(some 276), none, (.ld false 1 (.tmp 275))⟩,
 ⟨(some 277), none, (.mv (.tmp 0))⟩,
 ⟨(some 278), none, (.nck (.tmp 277))⟩,
 ⟨(some 279), none, (.fad 0 true 22 (.tmp 278))⟩,
 ⟨(some 280), none, (.fad 0 false 1 (.tmp 279))⟩,
 ⟨(some 281), none, (.ld false 1 (.tmp 280))⟩,
 ⟨(some 282), none, (.conv .u32 (.tmp 281))⟩,
 ⟨(some 283), none, (.bin .add (.tmp 282) (.const (.int .u32 1)))⟩,
 ⟨(some 284), none, (.nck (.tmp 274))⟩,
 ⟨(some 285), none, (.fad 0 true 22 (.tmp 284))⟩,
 ⟨(some 286), none, (.fad 1 true 16 (.tmp 285))⟩,
 ⟨(some 287), none, (.aidx 16 false 1 (.tmp 286) (.tmp 276))⟩,
 ⟨none, none, (.sto false 1 (.tmp 287) (.tmp 283))⟩])
 (.ops [
 ⟨(some 288), none, (.mv (.tmp 0))⟩,
 ⟨(some 289), none, (.fad 3 false 1 (.tmp 2))⟩,
 ⟨(some 290), none, (.ld false 1 (.tmp 289))⟩,
 ⟨(some 291), none, (.nck (.tmp 288))⟩,
 ⟨(some 292), none, (.fad 0 true 22 (.tmp 291))⟩,
 ⟨(some 293), none, (.fad 0 false 1 (.tmp 292))⟩,
 ⟨none, none, (.sto false 1 (.tmp 293) (.tmp 290))⟩]))
 (.seq
 (.ops [
 ⟨(some 295), none, (.bin .eql (.tmp 92) (.const (.int .i64 22)))⟩,
 ⟨(some 294), none, (.mv (.tmp 295))⟩])
 (.cond (.tmp 294)
 (.ops [
 ⟨(some 296), none, (.mv (.tmp 0))⟩,
 ⟨(some 297), none, (.mv (.tmp 3))⟩,
 ⟨(some 298), none, (.conv .i64 (.tmp 297))⟩,
 ⟨(some 299), none, (.nck (.tmp 296))⟩,
 ⟨(some 300), none, (.fad 0 true 22 (.tmp 299))⟩,
 ⟨(some 301), none, (.fad 0 false 1 (.tmp 300))⟩,
 ⟨none, none, (.sto false 1 (.tmp 301) (.tmp 298))⟩])
 (.seq
 (.ops [
 ⟨(some 303), none, (.bin .eql (.tmp 92) (.const (.int .i64 23)))⟩,
 ⟨(some 302), none, (.mv (.tmp 303))⟩])
 (.cond (.tmp 302)
 (.seq
 (.seq
 (.ops [
 ⟨(some 304), none, (.mv (.tmp 0))⟩,
 ⟨(some 305), none, (.nck (.tmp 304))⟩,
 ⟨(some 306), none, (.fad 0 true 22 (.tmp 305))⟩,
 ⟨(some 307), none, (.fad 18 false 1 (.tmp 306))⟩,
 ⟨(some 308), none, (.ld false 1 (.tmp 307))⟩,
 ⟨(some 309), none, (.bin .lss (.tmp 308) (.const (.int .i64 0)))⟩,
 ⟨(some 310), none, (.mv (.tmp 309))⟩,
 ⟨(some 311), (some (310, false)), (.mv (.tmp 0))⟩,
 ⟨(some 312), (some (310, false)), (.nck (.tmp 311))⟩,
 ⟨(some 313), (some (310, false)), (.fad 0 true 22 (.tmp 312))⟩,
 ⟨(some 314), (some (310, false)), (.fad 18 false 1 (.tmp 313))⟩,
 ⟨(some 315), (some (310, false)), (.ld false 1 (.tmp 314))⟩,
 ⟨(some 316), (some (310, false)), (.mv (.tmp 0))⟩,
 ⟨(some 317), (some (310, false)), (.nck (.tmp 316))⟩,
 ⟨(some 318), (some (310, false)), (.fad 26 false 1 (.tmp 317))⟩,
 ⟨(some 319), (some (310, false)), (.ld false 1 (.tmp 318))⟩,
 ⟨(some 320), (some (310, false)), (.lens (.tmp 319))⟩,
 ⟨(some 321), (some (310, false)), (.bin .geq (.tmp 315) (.tmp 320))⟩,
 ⟨(some 322), none, (.pick (.tmp 310) (.const (.bool true)) (.tmp 321))⟩])
 (.cond (.tmp 322)
 (.seq
 (.ops [
 ⟨(some 323), none, (.mv (.tmp 0))⟩,
 ⟨(some 324), none, (.fad 1 false 1 (.tmp 2))⟩,
 ⟨(some 325), none, (.ld false 1 (.tmp 324))⟩,
 ⟨(some 326), none, (.call (.func 88) [(.tmp 323), (.tmp 325), (.const (.int .u32 256))])⟩])
 .ret)
 .skip))
 (.seq
 (.ops [
 ⟨(some 327), none, (.mv (.tmp 0))⟩,
 ⟨(some 328), none, (.nck (.tmp 327))⟩,
 ⟨(some 329), none, (.fad 26 false 1 (.tmp 328))⟩,
 ⟨(some 330), none, (.ld false 1 (.tmp 329))⟩,
 ⟨(some 331), none, (.mv (.tmp 0))⟩,
 ⟨(some 332), none, (.nck (.tmp 331))⟩,
 ⟨(some 333), none, (.fad 0 true 22 (.tmp 332))⟩,
 ⟨(some 334), none, (.fad 18 false 1 (.tmp 333))⟩,
 ⟨(some 335), none, (.ld false 1 (.tmp 334))⟩,
 ⟨(some 336), none, (.pur .six [(.tmp 330), (.tmp 335)])⟩,
 ⟨(some 337), none, (.conv .u32 (.tmp 336))⟩,
 ⟨(some 8), none, (.mv (.tmp 337))⟩])
 (.seq
 (.ops [
 ⟨(some 338), none, (.mv (.tmp 0))⟩,
 ⟨(some 339), none, (.nck (.tmp 338))⟩,
 ⟨(some 340), none, (.fad 0 true 22 (.tmp 339))⟩,
 ⟨(some 341), none, (.fad 18 false 1 (.tmp 340))⟩,
 ⟨(some 342), none, (.ld false 1 (.tmp 341))⟩,
 ⟨(some 343), none, (.bin .add (.tmp 342) (.const (.int .i64 1)))⟩,
 ⟨(some 344), none, (.nck (.tmp 338))⟩,
 ⟨(some 345), none, (.fad 0 true 22 (.tmp 344))⟩,
 ⟨(some 346), none, (.fad 18 false 1 (.tmp 345))⟩,
 ⟨none, none, (.sto false 1 (.tmp 346) (.tmp 343))⟩])
 (.ops [
 ⟨(some 347), none, (.mv (.tmp 0))⟩,
 ⟨(some 348), none, (.fad 1 false 1 (.tmp 2))⟩,
 ⟨(some 349), none, (.ld false 1 (.tmp 348))⟩,
 ⟨(some 350), none, (.mv (.tmp 8))⟩,
 ⟨(some 351), none, (.call (.func 88) [(.tmp 347), (.tmp 349), (.tmp 350)])⟩]))))
 (.seq
 (.ops [
 ⟨(some 353), none, (.bin .eql (.tmp 92) (.const (.int .i64 24)))⟩,
 ⟨(some 352), none, (.mv (.tmp 353))⟩])
 (.cond (.tmp 352)
 (.seq
 (.seq
 (.ops [
 ⟨(some 354), none, (.mv (.tmp 0))⟩,
 ⟨(some 355), none, (.nck (.tmp 354))⟩,
 ⟨(some 356), none, (.fad 22 false 1 (.tmp 355))⟩,
 ⟨(some 357), none, (.ld false 1 (.tmp 356))⟩,
 ⟨(some 358), none, (.len (.tmp 357))⟩,
 ⟨(some 359), none, (.bin .geq (.tmp 358) (.const (.int .i64 65536)))⟩])
 (.cond (.tmp 359)
 (.seq
 (.ops [
 ⟨(some 360), none, (.mv (.tmp 0))⟩,
 ⟨(some 361), none, (.nck (.tmp 360))⟩,
 ⟨(some 362), none, (.fad 0 true 22 (.tmp 361))⟩,
 ⟨(some 363), none, (.fad 21 false 1 (.tmp 362))⟩,
 ⟨none, none, (.sto false 1 (.tmp 363) (.const (.int .i64 4)))⟩])
 .ret)
 .skip))
 (.seq
 (.ops [
 ⟨(some 364), none, (.mv (.tmp 0))⟩,
 ⟨(some 365), none, (.mv (.tmp 0))⟩,
 ⟨(some 366), none, (.nck (.tmp 365))⟩,
 ⟨(some 367), none, (.fad 22 false 1 (.tmp 366))⟩,
 ⟨(some 368), none, (.ld false 1 (.tmp 367))⟩,
 ⟨(some 369), none, (.mv (.tmp 3))⟩,
 ⟨(some 370), none, (.bin .rem (.tmp 369) (.const (.int .u32 256)))⟩,
 ⟨(some 371), none, (.conv .u8 (.tmp 370))⟩,
 ⟨(some 372), none, (.bsl 5 1 1 [(.int .u8 0)] [(0, (1, (.tmp 371)))])⟩,
 ⟨(some 373), none, (.app 5 1 1 (.tmp 368) (.tmp 372))⟩,
 ⟨(some 374), none, (.nck (.tmp 364))⟩,
 ⟨(some 375), none, (.fad 22 false 1 (.tmp 374))⟩,
 ⟨none, none, (.sto false 1 (.tmp 375) (.tmp 373))⟩])
 (.ops [
 ⟨(some 376), none, (.mv (.tmp 0))⟩,
 ⟨(some 377), none, (.nck (.tmp 376))⟩,
 ⟨(some 378), none, (.fad 0 true 22 (.tmp 377))⟩,
 ⟨(some 379), none, (.fad 0 false 1 (.tmp 378))⟩,
 ⟨(some 380), none, (.ld false 1 (.tmp 379))⟩,
 ⟨(some 381), none, (.bin .add (.tmp 380) (.const (.int .i64 1)))⟩,
 ⟨(some 382), none, (.nck (.tmp 376))⟩,
 ⟨(some 383), none, (.fad 0 true 22 (.tmp 382))⟩,
 ⟨(some 384), none, (.fad 0 false 1 (.tmp 383))⟩,
 ⟨none, none, (.sto false 1 (.tmp 384) (.tmp 381))⟩])))
 (.seq
 (.ops [
 ⟨(some 386), none, (.bin .eql (.tmp 92) (.const (.int .i64 25)))⟩,
 ⟨(some 385), none, (.mv (.tmp 386))⟩])
 (.cond (.tmp 385)
 (.seq
 (.seq
 (.ops [
 ⟨(some 387), none, (.mv (.tmp 3))⟩,
 ⟨(some 388), none, (.fad 3 false 1 (.tmp 2))⟩,
 ⟨(some 389), none, (.ld false 1 (.tmp 388))⟩,
 ⟨(some 390), none, (.conv .u32 (.tmp 389))⟩,
 ⟨(some 391), none, (.bin .geq (.tmp 387) (.tmp 390))⟩])
 (.cond (.tmp 391)
 (.seq
 (.ops [
 ⟨(some 392), none, (.mv (.tmp 0))⟩,
 ⟨(some 393), none, (.nck (.tmp 392))⟩,
 ⟨(some 394), none, (.fad 0 true 22 (.tmp 393))⟩,
 ⟨(some 395), none, (.fad 21 false 1 (.tmp 394))⟩,
 ⟨none, none, (.sto false 1 (.tmp 395) (.const (.int .i64 3)))⟩])
 .ret)
 .skip))
 (.ops [
 ⟨(some 396), none, (.mv (.tmp 0))⟩,
 ⟨(some 397), none, (.nck (.tmp 396))⟩,
 ⟨(some 398), none, (.fad 0 true 22 (.tmp 397))⟩,
 ⟨(some 399), none, (.fad 0 false 1 (.tmp 398))⟩,
 ⟨(some 400), none, (.ld false 1 (.tmp 399))⟩,
 ⟨(some 401), none, (.bin .add (.tmp 400) (.const (.int .i64 1)))⟩,
 ⟨(some 402), none, (.nck (.tmp 396))⟩,
 ⟨(some 403), none, (.fad 0 true 22 (.tmp 402))⟩,
 ⟨(some 404), none, (.fad 0 false 1 (.tmp 403))⟩,
 ⟨none, none, (.sto false 1 (.tmp 404) (.tmp 401))⟩]))
 (.seq
 (.ops [
 ⟨(some 406), none, (.bin .eql (.tmp 92) (.const (.int .i64 26)))⟩,
 ⟨(some 405), none, (.mv (.tmp 406))⟩])
 (.cond (.tmp 405)
 (.ops [
 ⟨(some 407), none, (.mv (.tmp 0))⟩,
 ⟨(some 408), none, (.nck (.tmp 407))⟩,
 ⟨(some 409), none, (.fad 0 true 22 (.tmp 408))⟩,
 ⟨(some 410), none, (.fad 21 false 1 (.tmp 409))⟩,
 ⟨none, none, (.sto false 1 (.tmp 410) (.const (.int .i64 1)))⟩])
 (.seq
 (.par true (.one ⟨(some 94), none, (.fad 0 false 1 (.tmp 2))⟩ (.one ⟨(some 95), none, (.ld false 1 (.tmp 94))⟩ (.one ⟨(some 96), none, (.mv (.tmp 0))⟩ (.one ⟨(some 97), none, (.fad 2 false 1 (.tmp 2))⟩ (.one ⟨(some 98), none, (.ld false 1 (.tmp 97))⟩ (.one ⟨(some 99), none, (.nck (.tmp 96))⟩ (.one ⟨(some 100), none, (.fad 0 true 22 (.tmp 99))⟩ (.one ⟨(some 101), none, (.fad 1 true 16 (.tmp 100))⟩ (.one ⟨(some 102), none, (.aidx 16 false 1 (.tmp 101) (.tmp 98))⟩ (.one ⟨(some 103), none, (.ld false 1 (.tmp 102))⟩ (.one ⟨(some 104), none, (.mv (.tmp 0))⟩ (.one ⟨(some 105), none, (.fad 3 false 1 (.tmp 2))⟩ (.one ⟨(some 106), none, (.ld false 1 (.tmp 105))⟩ (.one ⟨(some 107), none, (.nck (.tmp 104))⟩ (.one ⟨(some 108), none, (.fad 0 true 22 (.tmp 107))⟩ (.one ⟨(some 109), none, (.fad 1 true 16 (.tmp 108))⟩ (.one ⟨(some 110), none, (.aidx 16 false 1 (.tmp 109) (.tmp 106))⟩ (.one ⟨(some 111), none, (.ld false 1 (.tmp 110))⟩ (.one ⟨(some 112), none, (.call (.func 36) [(.tmp 95), (.tmp 103), (.tmp 111)])⟩ (.one ⟨(some 93), none, (.mv (.tmp 112))⟩ (.one ⟨(some 113), none, (.ext (.tmp 93) 0)⟩ (.one ⟨(some 114), none, (.ext (.tmp 93) 1)⟩ (.one ⟨(some 9), none, (.mv (.tmp 113))⟩ (.one ⟨(some 10), none, (.mv (.tmp 114))⟩ .done)))))))))))))))))))))))))
 (.seq
 (.seq
 (.ops [
 ⟨(some 115), none, (.mv (.tmp 10))⟩,
 ⟨(some 116), none, (.bin .neq (.tmp 115) (.const (.int .i64 0)))⟩])
 (.cond (.tmp 116)
 (.seq
 (.ops [
 ⟨(some 117), none, (.mv (.tmp 0))⟩,
 ⟨(some 118), none, (.nck (.tmp 117))⟩,
 ⟨(some 119), none, (.fad 0 true 22 (.tmp 118))⟩,
 ⟨(some 120), none, (.fad 21 false 1 (.tmp 119))⟩,
 ⟨none, none, (.sto false 1 (.tmp 120) (.const (.int .i64 2)))⟩])
 .ret)
 .skip))
 (.ops [
 ⟨(some 121), none, (.mv (.tmp 0))⟩,
 ⟨(some 122), none, (.fad 1 false 1 (.tmp 2))⟩,
 ⟨(some 123), none, (.ld false 1 (.tmp 122))⟩,
 ⟨(some 124), none, (.mv (.tmp 9))⟩,
 ⟨(some 125), none, (.call (.func 88) [(.tmp 121), (.tmp 123), (.tmp 124)])⟩])))))))))))))))))))))))))))))))))))))))
theorem s_scref10_work_step : compFq Try.prog false true 80 = some (411, r_scref10_work_step, []) := by kernel_rfl
def t_scref10_run : VC :=
 (.seq
 (.seq
 (.ops [
 ⟨(some 14), none, (.mv (.const (.int .i64 0)))⟩])
 (.block 0
 (.loop
 (.seq
 (.seq
 (.ops [
 ⟨(some 49), none, (.mv (.tmp 14))⟩,
 ⟨(some 50), none, (.mv (.tmp 3))⟩,
 ⟨(some 51), none, (.bin .lss (.tmp 49) (.tmp 50))⟩,
 ⟨(some 52), none, (.mv (.tmp 51))⟩,
 ⟨(some 53), (some (52, true)), (.fad 0 true 22 (.tmp 13))⟩,
 ⟨(some 54), (some (52, true)), (.fad 21 false 1 (.tmp 53))⟩,
 ⟨(some 55), (some (52, true)), (.ld false 1 (.tmp 54))⟩,
 ⟨(some 56), (some (52, true)), (.bin .eql (.tmp 55) (.const (.int .i64 0)))⟩,
 ⟨(some 57), none, (.pick (.tmp 52) (.tmp 56) (.const (.bool false)))⟩])
 (.cond (.tmp 57)
 .skip
 (.exit 0)))
 (.seq
 (.block 1
 (.ops [
 ⟨(some 60), none, (.call (.func 80) [(.tmp 13)])⟩]))
 (.ops [
 ⟨(some 58), none, (.mv (.tmp 14))⟩,
 ⟨(some 59), none, (.bin .add (.tmp 58) (.const (.int .i64 1)))⟩,
 ⟨(some 14), none, (.mv (.tmp 59))⟩]))))))
 (.seq
 (.ops [
 ⟨(some 61), none, (.fad 22 false 1 (.tmp 13))⟩,
 ⟨(some 62), none, (.ld false 1 (.tmp 61))⟩,
 ⟨(some 63), none, (.see .b2s [(.tmp 62)])⟩,
 ⟨(some 64), none, (.fad 0 true 22 (.tmp 13))⟩,
 ⟨(some 65), none, (.fad 19 false 1 (.tmp 64))⟩,
 ⟨none, none, (.sto false 1 (.tmp 65) (.tmp 63))⟩])
 (.seq
 (.par false (.one ⟨(some 66), none, (.fad 0 true 22 (.tmp 13))⟩ (.one ⟨(some 67), none, (.ld true 22 (.tmp 66))⟩ (.one ⟨(some 68), none, (.fad 27 false 1 (.tmp 13))⟩ (.both (.one ⟨(some 69), none, (.ld false 1 (.tmp 68))⟩ (.one ⟨none, none, (.sto true 22 (.tmp 8) (.tmp 67))⟩ (.one ⟨(some 9), none, (.mv (.tmp 69))⟩ .done))) (.one ⟨none, none, (.sto true 22 (.tmp 8) (.tmp 67))⟩ (.one ⟨(some 69), none, (.ld false 1 (.tmp 68))⟩ (.one ⟨(some 9), none, (.mv (.tmp 69))⟩ .done))))))))
 .ret)))
def g_scref10_run : VC :=
 (.seq
 (.ops [
 ⟨(some 4), none, (.box 38 (.tmp 0))⟩,
 ⟨(some 6), none, (.box 91 (.tmp 2))⟩,
 ⟨(some 8), none, (.alc 91 [(.int .i64 0), (.int .u32 0), (.int .u32 0), (.int .u32 0), (.int .u32 0), (.int .u32 0), (.int .u32 0), (.int .u32 0), (.int .u32 0), (.int .u32 0), (.int .u32 0), (.int .u32 0), (.int .u32 0), (.int .u32 0), (.int .u32 0), (.int .u32 0), (.int .u32 0), (.slice none 0 0), (.int .i64 0), (.string ⟨#[]⟩), (.int .i64 0), (.int .i64 0)])⟩,
 ⟨(some 9), none, (.mv (.const (.slice none 0 0)))⟩])
 (.seq
 (.ops [
 ⟨(some 16), none, (.ld true 2 (.tmp 4))⟩,
 ⟨(some 17), none, (.call (.func 79) [(.tmp 16)])⟩,
 ⟨(some 15), none, (.mv (.tmp 17))⟩,
 ⟨(some 18), none, (.ext (.tmp 15) 0)⟩,
 ⟨(some 19), none, (.ext (.tmp 15) 1)⟩,
 ⟨(some 10), none, (.mv (.tmp 18))⟩,
 ⟨(some 11), none, (.mv (.tmp 19))⟩])
 (.seq
 (.par true (.one ⟨(some 20), none, (.fad 0 false 1 (.tmp 6))⟩ (.one ⟨(some 21), none, (.ld false 1 (.tmp 20))⟩ (.one ⟨(some 22), none, (.fad 1 true 16 (.tmp 6))⟩ (.one ⟨(some 23), none, (.ld true 16 (.tmp 22))⟩ (.one ⟨(some 25), none, (.fad 17 false 1 (.tmp 6))⟩ (.one ⟨(some 26), none, (.ld false 1 (.tmp 25))⟩ (.one ⟨(some 28), none, (.fad 18 false 1 (.tmp 6))⟩ (.one ⟨(some 29), none, (.ld false 1 (.tmp 28))⟩ (.one ⟨(some 30), none, (.fad 20 false 1 (.tmp 6))⟩ (.one ⟨(some 31), none, (.ld false 1 (.tmp 30))⟩ (.one ⟨(some 32), none, (.fad 21 false 1 (.tmp 6))⟩ (.one ⟨(some 33), none, (.ld false 1 (.tmp 32))⟩ (.both (.one ⟨(some 24), none, (.bsl 30 1 0 [] [])⟩ (.both (.one ⟨(some 27), none, (.app 30 1 4 (.tmp 24) (.tmp 26))⟩ (.one ⟨(some 34), none, (.bld [(.int .i64 0), (.int .u32 0), (.int .u32 0), (.int .u32 0), (.int .u32 0), (.int .u32 0), (.int .u32 0), (.int .u32 0), (.int .u32 0), (.int .u32 0), (.int .u32 0), (.int .u32 0), (.int .u32 0), (.int .u32 0), (.int .u32 0), (.int .u32 0), (.int .u32 0), (.slice none 0 0), (.int .i64 0), (.string ⟨#[]⟩), (.int .i64 0), (.int .i64 0)] [(0, (1, (.tmp 21))), (1, (16, (.tmp 23))), (17, (1, (.tmp 27))), (18, (1, (.tmp 29))), (20, (1, (.tmp 31))), (21, (1, (.tmp 33)))])⟩ (.one ⟨(some 12), none, (.alc 91 [(.int .i64 0), (.int .u32 0), (.int .u32 0), (.int .u32 0), (.int .u32 0), (.int .u32 0), (.int .u32 0), (.int .u32 0), (.int .u32 0), (.int .u32 0), (.int .u32 0), (.int .u32 0), (.int .u32 0), (.int .u32 0), (.int .u32 0), (.int .u32 0), (.int .u32 0), (.slice none 0 0), (.int .i64 0), (.string ⟨#[]⟩), (.int .i64 0), (.int .i64 0)])⟩ (.one ⟨none, none, (.sto true 22 (.tmp 12) (.tmp 34))⟩ .done)))) (.one ⟨(some 12), none, (.alc 91 [(.int .i64 0), (.int .u32 0), (.int .u32 0), (.int .u32 0), (.int .u32 0), (.int .u32 0), (.int .u32 0), (.int .u32 0), (.int .u32 0), (.int .u32 0), (.int .u32 0), (.int .u32 0), (.int .u32 0), (.int .u32 0), (.int .u32 0), (.int .u32 0), (.int .u32 0), (.slice none 0 0), (.int .i64 0), (.string ⟨#[]⟩), (.int .i64 0), (.int .i64 0)])⟩ (.one ⟨(some 27), none, (.app 30 1 4 (.tmp 24) (.tmp 26))⟩ (.one ⟨(some 34), none, (.bld [(.int .i64 0), (.int .u32 0), (.int .u32 0), (.int .u32 0), (.int .u32 0), (.int .u32 0), (.int .u32 0), (.int .u32 0), (.int .u32 0), (.int .u32 0), (.int .u32 0), (.int .u32 0), (.int .u32 0), (.int .u32 0), (.int .u32 0), (.int .u32 0), (.int .u32 0), (.slice none 0 0), (.int .i64 0), (.string ⟨#[]⟩), (.int .i64 0), (.int .i64 0)] [(0, (1, (.tmp 21))), (1, (16, (.tmp 23))), (17, (1, (.tmp 27))), (18, (1, (.tmp 29))), (20, (1, (.tmp 31))), (21, (1, (.tmp 33)))])⟩ (.one ⟨none, none, (.sto true 22 (.tmp 12) (.tmp 34))⟩ .done)))))) (.one ⟨(some 12), none, (.alc 91 [(.int .i64 0), (.int .u32 0), (.int .u32 0), (.int .u32 0), (.int .u32 0), (.int .u32 0), (.int .u32 0), (.int .u32 0), (.int .u32 0), (.int .u32 0), (.int .u32 0), (.int .u32 0), (.int .u32 0), (.int .u32 0), (.int .u32 0), (.int .u32 0), (.int .u32 0), (.slice none 0 0), (.int .i64 0), (.string ⟨#[]⟩), (.int .i64 0), (.int .i64 0)])⟩ (.one ⟨(some 24), none, (.bsl 30 1 0 [] [])⟩ (.one ⟨(some 27), none, (.app 30 1 4 (.tmp 24) (.tmp 26))⟩ (.one ⟨(some 34), none, (.bld [(.int .i64 0), (.int .u32 0), (.int .u32 0), (.int .u32 0), (.int .u32 0), (.int .u32 0), (.int .u32 0), (.int .u32 0), (.int .u32 0), (.int .u32 0), (.int .u32 0), (.int .u32 0), (.int .u32 0), (.int .u32 0), (.int .u32 0), (.int .u32 0), (.int .u32 0), (.slice none 0 0), (.int .i64 0), (.string ⟨#[]⟩), (.int .i64 0), (.int .i64 0)] [(0, (1, (.tmp 21))), (1, (16, (.tmp 23))), (17, (1, (.tmp 27))), (18, (1, (.tmp 29))), (20, (1, (.tmp 31))), (21, (1, (.tmp 33)))])⟩ (.one ⟨none, none, (.sto true 22 (.tmp 12) (.tmp 34))⟩ .done)))))))))))))))))))
 (.seq
 (.par false (.one ⟨(some 35), none, (.ld true 22 (.tmp 12))⟩ (.one ⟨(some 36), none, (.fad 19 false 1 (.tmp 6))⟩ (.one ⟨(some 37), none, (.ld false 1 (.tmp 36))⟩ (.one ⟨(some 39), none, (.mv (.tmp 10))⟩ (.one ⟨(some 40), none, (.mv (.tmp 11))⟩ (.one ⟨(some 41), none, (.fad 0 false 1 (.tmp 4))⟩ (.one ⟨(some 42), none, (.ld false 1 (.tmp 41))⟩ (.one ⟨(some 43), none, (.mv (.tmp 1))⟩ (.one ⟨(some 44), none, (.fad 0 false 1 (.tmp 4))⟩ (.one ⟨(some 45), none, (.ld false 1 (.tmp 44))⟩ (.one ⟨(some 46), none, (.len (.tmp 45))⟩ (.both (.one ⟨(some 38), none, (.eff (.s2b 5) [(.tmp 37)])⟩ (.both (.one ⟨(some 47), none, (.mk 3 1 8 [(.int .i64 0)] (.tmp 46) (.tmp 46))⟩ (.one ⟨(some 48), none, (.bld [(.int .i64 0), (.int .u32 0), (.int .u32 0), (.int .u32 0), (.int .u32 0), (.int .u32 0), (.int .u32 0), (.int .u32 0), (.int .u32 0), (.int .u32 0), (.int .u32 0), (.int .u32 0), (.int .u32 0), (.int .u32 0), (.int .u32 0), (.int .u32 0), (.int .u32 0), (.slice none 0 0), (.int .i64 0), (.string ⟨#[]⟩), (.int .i64 0), (.int .i64 0), (.slice none 0 0), (.slice none 0 0), (.slice none 0 0), (.slice none 0 0), (.string ⟨#[]⟩), (.slice none 0 0)] [(0, (22, (.tmp 35))), (22, (1, (.tmp 38))), (23, (1, (.tmp 39))), (24, (1, (.tmp 40))), (25, (1, (.tmp 42))), (26, (1, (.tmp 43))), (27, (1, (.tmp 47)))])⟩ (.one ⟨(some 13), none, (.alc 140 [(.int .i64 0), (.int .u32 0), (.int .u32 0), (.int .u32 0), (.int .u32 0), (.int .u32 0), (.int .u32 0), (.int .u32 0), (.int .u32 0), (.int .u32 0), (.int .u32 0), (.int .u32 0), (.int .u32 0), (.int .u32 0), (.int .u32 0), (.int .u32 0), (.int .u32 0), (.slice none 0 0), (.int .i64 0), (.string ⟨#[]⟩), (.int .i64 0), (.int .i64 0), (.slice none 0 0), (.slice none 0 0), (.slice none 0 0), (.slice none 0 0), (.string ⟨#[]⟩), (.slice none 0 0)])⟩ (.one ⟨none, none, (.sto true 28 (.tmp 13) (.tmp 48))⟩ .done)))) (.one ⟨(some 13), none, (.alc 140 [(.int .i64 0), (.int .u32 0), (.int .u32 0), (.int .u32 0), (.int .u32 0), (.int .u32 0), (.int .u32 0), (.int .u32 0), (.int .u32 0), (.int .u32 0), (.int .u32 0), (.int .u32 0), (.int .u32 0), (.int .u32 0), (.int .u32 0), (.int .u32 0), (.int .u32 0), (.slice none 0 0), (.int .i64 0), (.string ⟨#[]⟩), (.int .i64 0), (.int .i64 0), (.slice none 0 0), (.slice none 0 0), (.slice none 0 0), (.slice none 0 0), (.string ⟨#[]⟩), (.slice none 0 0)])⟩ (.one ⟨(some 47), none, (.mk 3 1 8 [(.int .i64 0)] (.tmp 46) (.tmp 46))⟩ (.one ⟨(some 48), none, (.bld [(.int .i64 0), (.int .u32 0), (.int .u32 0), (.int .u32 0), (.int .u32 0), (.int .u32 0), (.int .u32 0), (.int .u32 0), (.int .u32 0), (.int .u32 0), (.int .u32 0), (.int .u32 0), (.int .u32 0), (.int .u32 0), (.int .u32 0), (.int .u32 0), (.int .u32 0), (.slice none 0 0), (.int .i64 0), (.string ⟨#[]⟩), (.int .i64 0), (.int .i64 0), (.slice none 0 0), (.slice none 0 0), (.slice none 0 0), (.slice none 0 0), (.string ⟨#[]⟩), (.slice none 0 0)] [(0, (22, (.tmp 35))), (22, (1, (.tmp 38))), (23, (1, (.tmp 39))), (24, (1, (.tmp 40))), (25, (1, (.tmp 42))), (26, (1, (.tmp 43))), (27, (1, (.tmp 47)))])⟩ (.one ⟨none, none, (.sto true 28 (.tmp 13) (.tmp 48))⟩ .done)))))) (.both (.one ⟨(some 47), none, (.mk 3 1 8 [(.int .i64 0)] (.tmp 46) (.tmp 46))⟩ (.both (.one ⟨(some 38), none, (.eff (.s2b 5) [(.tmp 37)])⟩ (.one ⟨(some 48), none, (.bld [(.int .i64 0), (.int .u32 0), (.int .u32 0), (.int .u32 0), (.int .u32 0), (.int .u32 0), (.int .u32 0), (.int .u32 0), (.int .u32 0), (.int .u32 0), (.int .u32 0), (.int .u32 0), (.int .u32 0), (.int .u32 0), (.int .u32 0), (.int .u32 0), (.int .u32 0), (.slice none 0 0), (.int .i64 0), (.string ⟨#[]⟩), (.int .i64 0), (.int .i64 0), (.slice none 0 0), (.slice none 0 0), (.slice none 0 0), (.slice none 0 0), (.string ⟨#[]⟩), (.slice none 0 0)] [(0, (22, (.tmp 35))), (22, (1, (.tmp 38))), (23, (1, (.tmp 39))), (24, (1, (.tmp 40))), (25, (1, (.tmp 42))), (26, (1, (.tmp 43))), (27, (1, (.tmp 47)))])⟩ (.one ⟨(some 13), none, (.alc 140 [(.int .i64 0), (.int .u32 0), (.int .u32 0), (.int .u32 0), (.int .u32 0), (.int .u32 0), (.int .u32 0), (.int .u32 0), (.int .u32 0), (.int .u32 0), (.int .u32 0), (.int .u32 0), (.int .u32 0), (.int .u32 0), (.int .u32 0), (.int .u32 0), (.int .u32 0), (.slice none 0 0), (.int .i64 0), (.string ⟨#[]⟩), (.int .i64 0), (.int .i64 0), (.slice none 0 0), (.slice none 0 0), (.slice none 0 0), (.slice none 0 0), (.string ⟨#[]⟩), (.slice none 0 0)])⟩ (.one ⟨none, none, (.sto true 28 (.tmp 13) (.tmp 48))⟩ .done)))) (.one ⟨(some 13), none, (.alc 140 [(.int .i64 0), (.int .u32 0), (.int .u32 0), (.int .u32 0), (.int .u32 0), (.int .u32 0), (.int .u32 0), (.int .u32 0), (.int .u32 0), (.int .u32 0), (.int .u32 0), (.int .u32 0), (.int .u32 0), (.int .u32 0), (.int .u32 0), (.int .u32 0), (.int .u32 0), (.slice none 0 0), (.int .i64 0), (.string ⟨#[]⟩), (.int .i64 0), (.int .i64 0), (.slice none 0 0), (.slice none 0 0), (.slice none 0 0), (.slice none 0 0), (.string ⟨#[]⟩), (.slice none 0 0)])⟩ (.one ⟨(some 38), none, (.eff (.s2b 5) [(.tmp 37)])⟩ (.one ⟨(some 48), none, (.bld [(.int .i64 0), (.int .u32 0), (.int .u32 0), (.int .u32 0), (.int .u32 0), (.int .u32 0), (.int .u32 0), (.int .u32 0), (.int .u32 0), (.int .u32 0), (.int .u32 0), (.int .u32 0), (.int .u32 0), (.int .u32 0), (.int .u32 0), (.int .u32 0), (.int .u32 0), (.slice none 0 0), (.int .i64 0), (.string ⟨#[]⟩), (.int .i64 0), (.int .i64 0), (.slice none 0 0), (.slice none 0 0), (.slice none 0 0), (.slice none 0 0), (.string ⟨#[]⟩), (.slice none 0 0)] [(0, (22, (.tmp 35))), (22, (1, (.tmp 38))), (23, (1, (.tmp 39))), (24, (1, (.tmp 40))), (25, (1, (.tmp 42))), (26, (1, (.tmp 43))), (27, (1, (.tmp 47)))])⟩ (.one ⟨none, none, (.sto true 28 (.tmp 13) (.tmp 48))⟩ .done)))))) (.one ⟨(some 13), none, (.alc 140 [(.int .i64 0), (.int .u32 0), (.int .u32 0), (.int .u32 0), (.int .u32 0), (.int .u32 0), (.int .u32 0), (.int .u32 0), (.int .u32 0), (.int .u32 0), (.int .u32 0), (.int .u32 0), (.int .u32 0), (.int .u32 0), (.int .u32 0), (.int .u32 0), (.int .u32 0), (.slice none 0 0), (.int .i64 0), (.string ⟨#[]⟩), (.int .i64 0), (.int .i64 0), (.slice none 0 0), (.slice none 0 0), (.slice none 0 0), (.slice none 0 0), (.string ⟨#[]⟩), (.slice none 0 0)])⟩ (.both (.one ⟨(some 38), none, (.eff (.s2b 5) [(.tmp 37)])⟩ (.one ⟨(some 47), none, (.mk 3 1 8 [(.int .i64 0)] (.tmp 46) (.tmp 46))⟩ (.one ⟨(some 48), none, (.bld [(.int .i64 0), (.int .u32 0), (.int .u32 0), (.int .u32 0), (.int .u32 0), (.int .u32 0), (.int .u32 0), (.int .u32 0), (.int .u32 0), (.int .u32 0), (.int .u32 0), (.int .u32 0), (.int .u32 0), (.int .u32 0), (.int .u32 0), (.int .u32 0), (.int .u32 0), (.slice none 0 0), (.int .i64 0), (.string ⟨#[]⟩), (.int .i64 0), (.int .i64 0), (.slice none 0 0), (.slice none 0 0), (.slice none 0 0), (.slice none 0 0), (.string ⟨#[]⟩), (.slice none 0 0)] [(0, (22, (.tmp 35))), (22, (1, (.tmp 38))), (23, (1, (.tmp 39))), (24, (1, (.tmp 40))), (25, (1, (.tmp 42))), (26, (1, (.tmp 43))), (27, (1, (.tmp 47)))])⟩ (.one ⟨none, none, (.sto true 28 (.tmp 13) (.tmp 48))⟩ .done)))) (.one ⟨(some 47), none, (.mk 3 1 8 [(.int .i64 0)] (.tmp 46) (.tmp 46))⟩ (.one ⟨(some 38), none, (.eff (.s2b 5) [(.tmp 37)])⟩ (.one ⟨(some 48), none, (.bld [(.int .i64 0), (.int .u32 0), (.int .u32 0), (.int .u32 0), (.int .u32 0), (.int .u32 0), (.int .u32 0), (.int .u32 0), (.int .u32 0), (.int .u32 0), (.int .u32 0), (.int .u32 0), (.int .u32 0), (.int .u32 0), (.int .u32 0), (.int .u32 0), (.int .u32 0), (.slice none 0 0), (.int .i64 0), (.string ⟨#[]⟩), (.int .i64 0), (.int .i64 0), (.slice none 0 0), (.slice none 0 0), (.slice none 0 0), (.slice none 0 0), (.string ⟨#[]⟩), (.slice none 0 0)] [(0, (22, (.tmp 35))), (22, (1, (.tmp 38))), (23, (1, (.tmp 39))), (24, (1, (.tmp 40))), (25, (1, (.tmp 42))), (26, (1, (.tmp 43))), (27, (1, (.tmp 47)))])⟩ (.one ⟨none, none, (.sto true 28 (.tmp 13) (.tmp 48))⟩ .done))))))))))))))))))))
 t_scref10_run))))
theorem e_scref10_run : compF Try.prog 44 = some (70, g_scref10_run, [(.cell 8 true 22), (.tmp 9)]) := by kernel_rfl
end Go.Proofs.Ytaedcpipilnpcaa
namespace Go.Proofs.Ytaedcpipilnpcaa
set_option linter.unusedSimpArgs false
set_option linter.unusedVariables false
set_option maxRecDepth 10000
open Go.V
def WAt (code : List Int) (inp : ByteArray) (H : List VObj) (w sw : Nat) (ρ : S) (so : ByteArray) (cnt : List Int) : Prop :=
  ∃ m sm o s1 c sc, H[w]? = some (wkO sw (wkc ρ.pc ρ.reg (.ref m sm 0 ρ.mem.length) ρ.rd so ρ.st ρ.fin (.ref o s1 0 ρ.out.size) (insL code) (okL code) (words code) inp (.ref c sc 0 code.length))) ∧
    H[m]? = some ⟨sm, 30, 1, ρ.mem.map U32⟩ ∧ H[o]? = some ⟨s1, 5, 1, ρ.out.data.toList.map U8⟩ ∧ H[c]? = some ⟨sc, 3, 1, cnt.map I⟩ ∧ cnt.length = code.length
theorem wput {code : List Int} {inp : ByteArray} {H : List VObj} {w sw m sm o s1 c sc : Nat} {mem : List Int} {out so : ByteArray} {cnt : List Int} {pc : Int} {f : Nat → Int} {rd st fin : Int} (hlt : w < H.length) (hm : H[m]? = some ⟨sm, 30, 1, mem.map U32⟩)
    (ho : H[o]? = some ⟨s1, 5, 1, out.data.toList.map U8⟩) (hc : H[c]? = some ⟨sc, 3, 1, cnt.map I⟩) (nm : w ≠ m) (no : w ≠ o) (nc : w ≠ c) (hl : cnt.length = code.length) :
    WAt code inp (H.set w (wkO sw (wkc pc f (.ref m sm 0 mem.length) rd so st fin (.ref o s1 0 out.size) (insL code) (okL code) (words code) inp (.ref c sc 0 code.length)))) w sw ⟨pc, f, mem, rd, out, st, fin⟩ so cnt :=
  ⟨m, sm, o, s1, c, sc, by rw [List.getElem?_set, if_pos rfl, if_pos hlt], by rw [List.getElem?_set, if_neg nm]; exact hm, by rw [List.getElem?_set, if_neg no]; exact ho, by rw [List.getElem?_set, if_neg nc]; exact hc, hl⟩
def KeepS (H H' : List VObj) : Prop := ∀ (id : Nat) (ob : VObj), H[id]? = some ob → ob.ty = 91 → H'[id]? = some ob
def cntS (code : List Int) (ρ : S) (cnt : List Int) : List Int := if doneF code ρ = true then cnt.set ρ.pc.toNat (cnt.getD ρ.pc.toNat default + 1) else cnt
set_option maxHeartbeats 2000000 in
theorem wstep_v (code : List Int) (inp : ByteArray) (ρ : S) (so : ByteArray) (cnt : List Int) (H : List VObj) (nx w sw : Nat) (C : AV → List VObj → Nat → Prop)
    (hcode : ∀ x ∈ code, In32 x) (hcl : code.length ≤ 1000000) (hi : inp.size ≤ 1000000000) (hws : Wf ρ) (hl : ρ.mem.length ≤ 1000000) (hol : ρ.out.size ≤ 1000000) (hf0 : ρ.fin = 0) (hcb : ∀ x ∈ cnt, 0 ≤ x ∧ x ≤ 4000000000000000000)
    (hA : WAt code inp H w sw ρ so cnt) (hC : ∀ r H' nx', KeepS H H' → WAt code inp H' w sw (stepF code inp ρ) so (cntS code ρ cnt) → C r H' nx') :
    VCall Try.prog 80 [.ptr w sw 0] H nx C := by
  refine VCall.of_bodyQ hmix s_scref10_work_step (by simp) ?_
  obtain ⟨pc, f, mem, rd, out, st, fin⟩ := ρ
  simp only at hf0 hl hol
  subst hf0
  have hf : ∀ k, In32 (f k) := hws.reg
  obtain ⟨m, sm, o, s1, c, sc, hw, hm, ho, hc, hcc⟩ := hA
  simp only at hw hm ho
  have hlt := (List.getElem?_eq_some_iff.1 hw).1
  have nm : w ≠ m := fun e => by rw [← e, hw] at hm; simp at hm
  have no : w ≠ o := fun e => by rw [← e, hw] at ho; simp at ho
  have nc : w ≠ c := fun e => by rw [← e, hw] at hc; simp at hc
  have ncm : c ≠ m := fun e => by rw [← e, hc] at hm; simp at hm
  have nco : c ≠ o := fun e => by rw [← e, hc] at ho; simp at ho
  have nmo : m ≠ o := fun e => by rw [← e, hm] at ho; simp at ho
  have hclt := (List.getElem?_eq_some_iff.1 hc).1
  have kA : ∀ (id : Nat) (ob : VObj), H[id]? = some ob → ob.ty = 91 → id ≠ w ∧ id ≠ m ∧ id ≠ o ∧ id ≠ c ∧ id < H.length := fun id ob h1 h2 => by
    refine ⟨fun e => ?_, fun e => ?_, fun e => ?_, fun e => ?_, (List.getElem?_eq_some_iff.1 h1).1⟩
    · rw [e, hw] at h1; cases h1; simp at h2
    · rw [e, hm] at h1; cases h1; simp at h2
    · rw [e, ho] at h1; cases h1; simp at h2
    · rw [e, hc] at h1; cases h1; simp at h2
  have kp0 : ∀ y, KeepS H (H.set w y) := fun y id ob h1 h2 => by
    rw [List.getElem?_set, if_neg (fun e => (kA id ob h1 h2).1 e.symm)]; exact h1
  have gA : ∀ a, (H.set w a)[w]? = some a := fun a => by rw [List.getElem?_set, if_pos rfl, if_pos hlt]
  have hcdl : ((code.map insC).map AV.agg).length = code.length := by simp
  by_cases h2 : pc < 0
  · have e1 : stepF code inp ⟨pc, f, mem, rd, out, st, 0⟩ = ⟨pc, f, mem, rd, out, st, 7⟩ := by unfold stepF; rw [if_pos rfl, if_pos (.inl h2)]
    have e2 : doneF code ⟨pc, f, mem, rd, out, st, 0⟩ = false := by simp [doneF]; omega
    simp only [go_sem, Nat.reduceEqDiff, Nat.reduceAdd, ↓reduceIte, ↓dreduceIte, reduceCtorEq, Nat.reduceLeDiff, r_scref10_work_step, hw, wkc_length, k_pc, ks_fin, eq_true h2]
    repeat (refine And.intro (by omega) ?_)
    refine hC _ _ _ (kp0 _) ?_
    rw [e1, cntS, if_neg (by rw [e2]; simp)]
    exact wput hlt hm ho hc nm no nc hcc
  by_cases h3 : (code.length : Int) ≤ pc
  · have e1 : stepF code inp ⟨pc, f, mem, rd, out, st, 0⟩ = ⟨pc, f, mem, rd, out, st, 7⟩ := by unfold stepF; rw [if_pos rfl, if_pos (.inr h3)]
    have e2 : doneF code ⟨pc, f, mem, rd, out, st, 0⟩ = false := by simp [doneF]; omega
    simp only [go_sem, Nat.reduceEqDiff, Nat.reduceAdd, ↓reduceIte, ↓dreduceIte, reduceCtorEq, Nat.reduceLeDiff, r_scref10_work_step, hw, wkc_length, k_pc, k_cd, ks_fin, hcdl, eq_false h2, eq_true h3]
    repeat (refine And.intro (by omega) ?_)
    refine hC _ _ _ (kp0 _) ?_
    rw [e1, cntS, if_neg (by rw [e2]; simp)]
    exact wput hlt hm ho hc nm no nc hcc
  have e2 : doneF code ⟨pc, f, mem, rd, out, st, 0⟩ = true := by simp [doneF]; omega
  obtain ⟨W, hW⟩ : ∃ W, code.getD pc.toNat default = W := ⟨_, rfl⟩
  have hpl : pc.toNat < code.length := by omega
  have hW32 : In32 W := by
    rw [← hW]; exact hcode _ (mem_getD (by omega))
  obtain ⟨t, ht⟩ : ∃ t, IntKind.i64.wrap (st + 1) = t := ⟨_, rfl⟩
  have e1 : stepF code inp ⟨pc, f, mem, rd, out, st, 0⟩ = wordF code inp ⟨pc, f, mem, rd, out, t, 0⟩ W := by unfold stepF; rw [if_pos rfl, if_neg (fun q => q.elim h2 h3), hW, ← ht]
  obtain ⟨x, hx⟩ : ∃ x, cnt.getD pc.toNat default = x := ⟨_, rfl⟩
  have hxb : 0 ≤ x ∧ x ≤ 4000000000000000000 := by
    rw [← hx, List.getD_eq_getElem?_getD, List.getElem?_eq_getElem (by omega)]
    exact hcb _ (List.getElem_mem _)
  have hxw : IntKind.i64.wrap (x + 1) = x + 1 := i64_in (by omega) (by omega)
  have e5 : cntS code ⟨pc, f, mem, rd, out, st, 0⟩ cnt = cnt.set pc.toNat (x + 1) := by rw [cntS, if_pos e2, hx]
  have hgi : (code.map insC).getD pc.toNat default = insC W := by
    rw [List.getD_eq_getElem?_getD, List.getElem?_map, List.getElem?_eq_getElem hpl, ← hW, List.getD_eq_getElem?_getD, List.getElem?_eq_getElem hpl]; rfl
  have hgo : (code.map fun w => B (okW w)).getD pc.toNat default = B (okW W) := by
    rw [List.getD_eq_getElem?_getD, List.getElem?_map, List.getElem?_eq_getElem hpl, ← hW, List.getD_eq_getElem?_getD, List.getElem?_eq_getElem hpl]; rfl
  have gB : ∀ a, (H.set w a)[c]? = some ⟨sc, 3, 1, cnt.map I⟩ := fun a => by rw [List.getElem?_set, if_neg nc]; exact hc
  have gC : ∀ a b, ((H.set w a).set c b)[w]? = some a := fun a b => by rw [List.getElem?_set, if_neg (fun e => nc e.symm)]; exact gA a
  have gD : ∀ a b z, ((H.set w a).set c b ++ [z])[w]? = some a := fun a b z => by rw [List.getElem?_append_left (by simp; omega)]; exact gC a b
  have gE : ∀ a b (z : VObj), ((H.set w a).set c b ++ [z])[H.length]? = some z := fun a b z => by
    rw [List.getElem?_append_right (by simp)]; simp
  have sE : ∀ a b (z x : VObj), ((H.set w a).set c b ++ [z]).set H.length x = (H.set w a).set c b ++ [x] := fun a b z x => by
    rw [List.set_append_right _ _ (by simp)]; simp
  simp only [go_sem, Nat.reduceEqDiff, Nat.reduceAdd, ↓reduceIte, ↓dreduceIte, reduceCtorEq, Nat.reduceLeDiff, r_scref10_work_step, hw, gA, gB, gC, gD, gE, sE, List.length_set, wkc_length, k_pc, k_st, k_cd, k_ct, ks_st, hcdl, set_map, hcc, hx, hxw, ht, eq_false h2, eq_false h3, hgi, insC_len, eq_true hlt]
  repeat (refine And.intro (by omega) ?_)
  refine ⟨insC_one W, ?_⟩
  rw [k_ok]
  refine ⟨rfl, ?_⟩
  have hdr : insC W ++ List.drop (insC W).length [I 0, I 0, I 0, I 0] = insC W := by
    rw [insC_len]; exact List.append_nil _
  simp only [List.length_set, sE, set_map, ht, hxw, Nat.zero_add, hdr]
  have hw3 := gD (wkO sw (wkc pc f (.ref m sm 0 mem.length) rd so t 0 (.ref o s1 0 out.size) (insL code) (okL code) (words code) inp (.ref c sc 0 code.length))) ⟨sc, 3, 1, (cnt.set pc.toNat (x + 1)).map I⟩ ⟨nx, 86, 1, insC W⟩
  have hi3 := gE (wkO sw (wkc pc f (.ref m sm 0 mem.length) rd so t 0 (.ref o s1 0 out.size) (insL code) (okL code) (words code) inp (.ref c sc 0 code.length))) ⟨sc, 3, 1, (cnt.set pc.toNat (x + 1)).map I⟩ ⟨nx, 86, 1, insC W⟩
  have hm3 : ((H.set w (wkO sw (wkc pc f (.ref m sm 0 mem.length) rd so t 0 (.ref o s1 0 out.size) (insL code) (okL code) (words code) inp (.ref c sc 0 code.length)))).set c ⟨sc, 3, 1, (cnt.set pc.toNat (x + 1)).map I⟩ ++ [⟨nx, 86, 1, insC W⟩])[m]? = some ⟨sm, 30, 1, mem.map U32⟩ := by
    rw [List.getElem?_append_left (by simp; exact (List.getElem?_eq_some_iff.1 hm).1), List.getElem?_set, if_neg ncm, List.getElem?_set, if_neg nm]; exact hm
  have ho3 : ((H.set w (wkO sw (wkc pc f (.ref m sm 0 mem.length) rd so t 0 (.ref o s1 0 out.size) (insL code) (okL code) (words code) inp (.ref c sc 0 code.length)))).set c ⟨sc, 3, 1, (cnt.set pc.toNat (x + 1)).map I⟩ ++ [⟨nx, 86, 1, insC W⟩])[o]? = some ⟨s1, 5, 1, out.data.toList.map U8⟩ := by
    rw [List.getElem?_append_left (by simp; exact (List.getElem?_eq_some_iff.1 ho).1), List.getElem?_set, if_neg nco, List.getElem?_set, if_neg no]; exact ho
  have hc3 : ((H.set w (wkO sw (wkc pc f (.ref m sm 0 mem.length) rd so t 0 (.ref o s1 0 out.size) (insL code) (okL code) (words code) inp (.ref c sc 0 code.length)))).set c ⟨sc, 3, 1, (cnt.set pc.toNat (x + 1)).map I⟩ ++ [⟨nx, 86, 1, insC W⟩])[c]? = some ⟨sc, 3, 1, (cnt.set pc.toNat (x + 1)).map I⟩ := by
    rw [List.getElem?_append_left (by simp; exact hclt), List.getElem?_set, if_pos rfl, if_pos (by simp; exact hclt)]
  have kB : KeepS H ((H.set w (wkO sw (wkc pc f (.ref m sm 0 mem.length) rd so t 0 (.ref o s1 0 out.size) (insL code) (okL code) (words code) inp (.ref c sc 0 code.length)))).set c ⟨sc, 3, 1, (cnt.set pc.toNat (x + 1)).map I⟩ ++ [⟨nx, 86, 1, insC W⟩]) := fun id ob h1 h2 => by
    obtain ⟨i1, i2, i3, i4, i5⟩ := kA id ob h1 h2
    rw [List.getElem?_append_left (by simp; exact i5), List.getElem?_set, if_neg (fun e => i4 e.symm), List.getElem?_set, if_neg (fun e => i1 e.symm)]; exact h1
  clear gA gB gC gD gE sE hdr
  generalize (H.set w (wkO sw (wkc pc f (.ref m sm 0 mem.length) rd so t 0 (.ref o s1 0 out.size) (insL code) (okL code) (words code) inp (.ref c sc 0 code.length)))).set c ⟨sc, 3, 1, (cnt.set pc.toNat (x + 1)).map I⟩ ++ [⟨nx, 86, 1, insC W⟩] = H3 at *
  have nwi : w ≠ H.length := by omega
  have nmi : m ≠ H.length := by have := (List.getElem?_eq_some_iff.1 hm).1; omega
  have noi : o ≠ H.length := by have := (List.getElem?_eq_some_iff.1 ho).1; omega
  generalize H.length = i at *
  clear hw hm ho hc hlt hclt
  have hlt3 := (List.getElem?_eq_some_iff.1 hw3).1
  have hilt := (List.getElem?_eq_some_iff.1 hi3).1
  have hmlt := (List.getElem?_eq_some_iff.1 hm3).1
  have kp : ∀ y, KeepS H (H3.set w y) := fun y id ob h1 h2 => by
    rw [List.getElem?_set, if_neg (fun e => (kA id ob h1 h2).1 e.symm)]; exact kB id ob h1 h2
  have kp2 : ∀ y z, KeepS H ((H3.set m y).set w z) := fun y z id ob h1 h2 => by
    rw [List.getElem?_set, if_neg (fun e => (kA id ob h1 h2).1 e.symm), List.getElem?_set, if_neg (fun e => (kA id ob h1 h2).2.1 e.symm)]; exact kB id ob h1 h2
  have kp3 : ∀ y z u, KeepS H (((H3 ++ [y]).set o z).set w u) := fun y z u id ob h1 h2 => by
    have h3 := kB id ob h1 h2
    rw [List.getElem?_set, if_neg (fun e => (kA id ob h1 h2).1 e.symm), List.getElem?_set, if_neg (fun e => (kA id ob h1 h2).2.2.1 e.symm), List.getElem?_append_left (List.getElem?_eq_some_iff.1 h3).1]; exact h3
  have gw : ∀ y, (H3.set w y)[w]? = some y := fun y => by rw [List.getElem?_set, if_pos rfl, if_pos hlt3]
  have hc5 : (cnt.set pc.toNat (x + 1)).length = code.length := by rw [List.length_set]; exact hcc
  have hone : (wkc pc f (.ref m sm 0 mem.length) rd so t 0 (.ref o s1 0 out.size) (insL code) (okL code) (words code) inp (.ref c sc 0 code.length)).all AV.one = true := by rw [wkc_all]; rfl
  rw [e1, e5] at hC
  cases hok : okW W
  · have e3 : wordF code inp ⟨pc, f, mem, rd, out, t, 0⟩ W = ⟨pc, f, mem, rd, out, t, 6⟩ := by unfold wordF; rw [hok]; rfl
    rw [e3] at hC
    simp only [go_sem, Nat.reduceEqDiff, Nat.reduceAdd, ↓reduceIte, ↓dreduceIte, reduceCtorEq, Nat.reduceLeDiff, hw3, wkc_length, k_pc, ks_fin, hW, hok]
    repeat (refine And.intro (by omega) ?_)
    exact hC _ _ _ (kp _) (wput hlt3 hm3 ho3 hc3 nm no nc hc5)
  have e3 : wordF code inp ⟨pc, f, mem, rd, out, t, 0⟩ W = (if (insM code inp ⟨pc, f, mem, rd, out, t, 0⟩ (opW W) (raW W) (rbW W) (kW W)).1 = 0 then (insM code inp ⟨pc, f, mem, rd, out, t, 0⟩ (opW W) (raW W) (rbW W) (kW W)).2
      else { (insM code inp ⟨pc, f, mem, rd, out, t, 0⟩ (opW W) (raW W) (rbW W) (kW W)).2 with fin := (insM code inp ⟨pc, f, mem, rd, out, t, 0⟩ (opW W) (raW W) (rbW W) (kW W)).1 }) := by
    unfold wordF; rw [hok, if_pos rfl]
  rw [e3] at hC
  have e4 : insC W = [I (opW W), I (raW W), I (rbW W), I (kW W)] := by unfold insC; rw [hok]; rfl
  rw [e4] at hi3
  have hok' := okI_in hok

  clear e3 e1 hws hcode hcb
  generalize opW W = op at *
  generalize raW W = a at *
  generalize rbW W = b at *
  generalize kW W = k at *
  obtain ⟨g1, g2, ga1, ga2, gb1, gb2, gc1, gc2, gc⟩ := hok'
  have ja : a.toNat < 16 := by omega
  have jb : b.toNat < 16 := by omega
  have ec : IntKind.u32.wrap k = k := w32_in ⟨by omega, by omega⟩
  have gi : ∀ y, (H3.set w y)[i]? = some ⟨nx, 86, 1, [I op, I a, I b, I k]⟩ := fun y => by rw [List.getElem?_set, if_neg nwi]; exact hi3
  have hsl : (H3.set w (wkO sw (wkc pc f (.ref m sm 0 mem.length) rd so t 0 (.ref o s1 0 out.size) (insL code) (okL code) (words code) inp (.ref c sc 0 code.length)))) = H3 := set_of_getR hw3
  have hfm : ∀ (H' : List VObj) (nx' : Nat), (∀ id ob, CallA true H3.length id → H3[id]? = some ob → H'[id]? = some ob) → FrzL 0 H' nx' [.ref m sm 0 mem.length, U32 (f b.toNat), I k] [words mem, U32 (f b.toNat), I k] := fun H' nx' hH => by
    refine ⟨_, _, rfl, Frz.ref (Nat.zero_le _) (hH m _ ⟨rfl, hmlt⟩ hm3) rfl rfl ?_ ?_, _, _, rfl, Frz.pure rfl, _, _, rfl, Frz.pure rfl, rfl⟩
    · rw [List.all_eq_true]; intro y hy; obtain ⟨x, _, rfl⟩ := List.mem_map.1 hy; rfl
    · rw [List.drop_zero, List.take_of_length_le (by simp)]
      exact FrzL.pure (by rw [List.all_eq_true]; intro y hy; obtain ⟨x, _, rfl⟩ := List.mem_map.1 hy; rfl)
  by_cases hap : 4 ≤ op ∧ op ≤ 15
  · have hc15 : k ≤ 15 := gc (by unfold cK; rw [if_pos hap])
    have jc : k.toNat < 16 := by omega
    have hins : insM code inp ⟨pc, f, mem, rd, out, t, 0⟩ op a b k = (if (applyW op (f b.toNat) (f k.toNat)).2 = 0 then (0, setR ⟨pc, f, mem, rd, out, t, 0⟩ a (applyW op (f b.toNat) (f k.toNat)).1) else (2, ⟨pc, f, mem, rd, out, t, 0⟩)) := by
      unfold insM
      iterate 15 rw [if_neg (by omega)]
    rw [hins] at hC
    simp only [go_sem, Nat.reduceEqDiff, Nat.reduceAdd, ↓reduceIte, ↓dreduceIte, reduceCtorEq, Nat.reduceLeDiff, hw3, hi3, k_pc, k_reg ja, k_reg jb, hW, hok, k_reg jc, eq_true hlt3, eq_true hilt, eq_false (show ¬ op = 1 by omega), eq_false (show ¬ op = 2 by omega), eq_false (show ¬ op = 3 by omega), eq_false (show ¬ op = 16 by omega), eq_false (show ¬ op = 17 by omega), eq_false (show ¬ op = 18 by omega), eq_false (show ¬ op = 19 by omega), eq_false (show ¬ op = 20 by omega), eq_false (show ¬ op = 21 by omega), eq_false (show ¬ op = 22 by omega), eq_false (show ¬ op = 23 by omega), eq_false (show ¬ op = 24 by omega), eq_false (show ¬ op = 25 by omega), eq_false (show ¬ op = 26 by omega), eq_false (show ¬ op = 27 by omega)]
    repeat (refine And.intro (by omega) ?_)
    refine ECall.of (refapply_c op (f b.toNat) (f k.toNat) (hf _) (hf _)) (SleL.pure rfl) ⟨_, fun _ => Iff.rfl⟩ fun x hx => ?_
    subst hx
    generalize applyW op (f b.toNat) (f k.toNat) = q at *
    by_cases hp : q.2 = 0
    · rw [if_pos hp] at hC
      simp only [go_sem, Nat.reduceEqDiff, Nat.reduceAdd, ↓reduceIte, ↓dreduceIte, reduceCtorEq, Nat.reduceLeDiff, Nat.reduceLT, hi3, hW, hok, eq_true hp]
      repeat (refine And.intro (by omega) ?_)
      refine wset_v a q.1 ⟨ga1, ga2⟩ hw3 hone fun r => ?_
      simp only [go_sem]
      exact hC _ _ _ (kp _) (wput hlt3 hm3 ho3 hc3 nm no nc hc5)
    · rw [if_neg hp] at hC
      simp only [go_sem, Nat.reduceEqDiff, Nat.reduceAdd, ↓reduceIte, reduceCtorEq, Nat.reduceLeDiff, Nat.reduceLT, hw3, wkc_length, ks_fin, hW, hok, eq_false hp]
      repeat (refine And.intro (by omega) ?_)
      exact hC _ _ _ (kp _) (wput hlt3 hm3 ho3 hc3 nm no nc hc5)
  have hcases : op = 1 ∨ op = 2 ∨ op = 3 ∨ op = 16 ∨ op = 27 ∨ op = 17 ∨ op = 18 ∨ op = 19 ∨ op = 20 ∨ op = 21 ∨ op = 22 ∨ op = 23 ∨ op = 24 ∨ op = 25 ∨ op = 26 := by omega
  rcases hcases with rfl | rfl | rfl | rfl | rfl | rfl | rfl | rfl | rfl | rfl | rfl | rfl | rfl | rfl | rfl
  · -- 1
    simp only [go_sem, Nat.reduceEqDiff, Nat.reduceAdd, ↓reduceIte, ↓dreduceIte, reduceCtorEq, Nat.reduceLeDiff, hw3, hi3, k_pc, k_reg ja, ec, hW, hok, Int.reduceBEq]
    repeat (refine And.intro (by omega) ?_)
    refine wset_v a k ⟨ga1, ga2⟩ hw3 hone fun r => ?_
    simp only [go_sem]
    exact hC _ _ _ (kp _) (wput hlt3 hm3 ho3 hc3 nm no nc hc5)
  · -- 2
    have hq : IntKind.u32.wrap ((f a.toNat).tmod 65536 + IntKind.u32.wrap (k * 65536)) = f a.toNat % 65536 + k * 65536 := by
      have h0 := (hf a.toNat).1
      have h1 := (hf a.toNat).2
      rw [Int.tmod_eq_emod_of_nonneg h0, IntKind.wrap_u32, IntKind.wrap_u32]; omega
    simp only [go_sem, Nat.reduceEqDiff, Nat.reduceAdd, ↓reduceIte, ↓dreduceIte, reduceCtorEq, Nat.reduceLeDiff, hw3, hi3, k_pc, k_reg ja, ec, hW, hok, Int.reduceEq, Int.reduceBEq, hq]
    repeat (refine And.intro (by omega) ?_)
    refine wset_v a (f a.toNat % 65536 + k * 65536) ⟨ga1, ga2⟩ hw3 hone fun r => ?_
    simp only [go_sem]
    exact hC _ _ _ (kp _) (wput hlt3 hm3 ho3 hc3 nm no nc hc5)
  · -- 3
    simp only [go_sem, Nat.reduceEqDiff, Nat.reduceAdd, ↓reduceIte, ↓dreduceIte, reduceCtorEq, Nat.reduceLeDiff, hw3, hi3, k_pc, k_reg ja, k_reg jb, hW, hok, Int.reduceBEq]
    repeat (refine And.intro (by omega) ?_)
    refine wset_v a (f b.toNat) ⟨ga1, ga2⟩ hw3 hone fun r => ?_
    simp only [go_sem]
    exact hC _ _ _ (kp _) (wput hlt3 hm3 ho3 hc3 nm no nc hc5)
  · -- 16
    simp only [go_sem, Nat.reduceEqDiff, Nat.reduceAdd, ↓reduceIte, ↓dreduceIte, reduceCtorEq, Nat.reduceLeDiff, hw3, hi3, k_pc, k_mem, k_reg ja, k_reg jb, hW, hok, Int.reduceBEq, eq_true hlt3, eq_true hilt]
    repeat (refine And.intro (by omega) ?_)
    by_cases h : w32 (f b.toNat + k) < (mem.length : Int)
    · have hins : insM code inp ⟨pc, f, mem, rd, out, t, 0⟩ 16 a b k = (0, setR ⟨pc, f, mem, rd, out, t, 0⟩ a (mem.getD (w32 (f b.toNat + k)).toNat default)) := if_pos h
      rw [hins] at hC
      have hfe := fetchN_c mem (f b.toNat) k (hf _) ⟨gc1, gc2⟩ hl
      rw [if_pos h] at hfe
      refine ECall.ofN hfe hfm ⟨_, fun _ => Iff.rfl⟩ fun x hx => ?_
      subst hx
      simp only [go_sem, Nat.reduceEqDiff, Nat.reduceAdd, ↓reduceIte, ↓dreduceIte, reduceCtorEq, Nat.reduceLeDiff, Nat.reduceLT, hi3, hW, hok]
      repeat (refine And.intro (by omega) ?_)
      refine wset_v a (mem.getD (w32 (f b.toNat + k)).toNat default) ⟨ga1, ga2⟩ hw3 hone fun r => ?_
      simp only [go_sem]
      exact hC _ _ _ (kp _) (wput hlt3 hm3 ho3 hc3 nm no nc hc5)
    · have hins : insM code inp ⟨pc, f, mem, rd, out, t, 0⟩ 16 a b k = (8, ⟨pc, f, mem, rd, out, t, 0⟩) := if_neg h
      rw [hins] at hC
      have hfe := fetchN_c mem (f b.toNat) k (hf _) ⟨gc1, gc2⟩ hl
      rw [if_neg h] at hfe
      refine ECall.ofN hfe hfm ⟨_, fun _ => Iff.rfl⟩ fun x hx => ?_
      subst hx
      simp only [go_sem, Nat.reduceEqDiff, Nat.reduceAdd, ↓reduceIte, reduceCtorEq, Nat.reduceLeDiff, Nat.reduceLT, hw3, wkc_length, ks_fin, hW, hok]
      repeat (refine And.intro (by omega) ?_)
      exact hC _ _ _ (kp _) (wput hlt3 hm3 ho3 hc3 nm no nc hc5)
  · -- 27
    simp only [go_sem, Nat.reduceEqDiff, Nat.reduceAdd, ↓reduceIte, ↓dreduceIte, reduceCtorEq, Nat.reduceLeDiff, hw3, hi3, k_pc, k_mem, k_wd, k_reg ja, k_reg jb, hW, hok, Int.reduceBEq, eq_true hlt3, eq_true hilt]
    repeat (refine And.intro (by omega) ?_)
    by_cases h : w32 (f b.toNat + k) < (code.length : Int)
    · have hins : insM code inp ⟨pc, f, mem, rd, out, t, 0⟩ 27 a b k = (0, setR ⟨pc, f, mem, rd, out, t, 0⟩ a (code.getD (w32 (f b.toNat + k)).toNat default)) := if_pos h
      rw [hins] at hC
      have hfe := fetchN_c code (f b.toNat) k (hf _) ⟨gc1, gc2⟩ hcl
      rw [if_pos h] at hfe
      refine ECall.ofN hfe (fun H' nx' _ => ⟨_, _, rfl, Frz.pure rfl, _, _, rfl, Frz.pure rfl, _, _, rfl, Frz.pure rfl, rfl⟩) ⟨_, fun _ => Iff.rfl⟩ fun x hx => ?_
      subst hx
      simp only [go_sem, Nat.reduceEqDiff, Nat.reduceAdd, ↓reduceIte, ↓dreduceIte, reduceCtorEq, Nat.reduceLeDiff, Nat.reduceLT, hi3, hW, hok]
      repeat (refine And.intro (by omega) ?_)
      refine wset_v a (code.getD (w32 (f b.toNat + k)).toNat default) ⟨ga1, ga2⟩ hw3 hone fun r => ?_
      simp only [go_sem]
      exact hC _ _ _ (kp _) (wput hlt3 hm3 ho3 hc3 nm no nc hc5)
    · have hins : insM code inp ⟨pc, f, mem, rd, out, t, 0⟩ 27 a b k = (8, ⟨pc, f, mem, rd, out, t, 0⟩) := if_neg h
      rw [hins] at hC
      have hfe := fetchN_c code (f b.toNat) k (hf _) ⟨gc1, gc2⟩ hcl
      rw [if_neg h] at hfe
      refine ECall.ofN hfe (fun H' nx' _ => ⟨_, _, rfl, Frz.pure rfl, _, _, rfl, Frz.pure rfl, _, _, rfl, Frz.pure rfl, rfl⟩) ⟨_, fun _ => Iff.rfl⟩ fun x hx => ?_
      subst hx
      simp only [go_sem, Nat.reduceEqDiff, Nat.reduceAdd, ↓reduceIte, reduceCtorEq, Nat.reduceLeDiff, Nat.reduceLT, hw3, wkc_length, ks_fin, hW, hok]
      repeat (refine And.intro (by omega) ?_)
      exact hC _ _ _ (kp _) (wput hlt3 hm3 ho3 hc3 nm no nc hc5)
  · -- 17
    obtain ⟨at_, hat⟩ : ∃ y, IntKind.u32.wrap (f b.toNat + k) = y := ⟨_, rfl⟩
    have hin : In32 at_ := by rw [← hat, IntKind.wrap_u32]; exact ⟨by omega, by omega⟩
    obtain ⟨p1, p2⟩ := hin
    have hat' : w32 (f b.toNat + k) = at_ := hat
    have q2 : IntKind.u64.wrap at_ = at_ := by rw [IntKind.wrap_u64]; omega
    have q3 : IntKind.u64.wrap (mem.length : Int) = mem.length := by rw [IntKind.wrap_u64]; omega
    have gm : ∀ y, (H3.set m y)[w]? = some (wkO sw (wkc pc f (.ref m sm 0 mem.length) rd so t 0 (.ref o s1 0 out.size) (insL code) (okL code) (words code) inp (.ref c sc 0 code.length))) := fun y => by rw [List.getElem?_set, if_neg (fun e => nm e.symm)]; exact hw3
    have gm2 : ∀ y z, ((H3.set m y).set w z)[w]? = some z := fun y z => by rw [List.getElem?_set, if_pos rfl, if_pos (by rw [List.length_set]; exact hlt3)]
    by_cases h : at_ < (mem.length : Int)
    · have hins : insM code inp ⟨pc, f, mem, rd, out, t, 0⟩ 17 a b k = (0, ⟨nxtM ⟨pc, f, mem, rd, out, t, 0⟩, f, mem.set at_.toNat (f a.toNat), rd, out, t, 0⟩) := by
        have h' : w32 (f b.toNat + k) < (mem.length : Int) := by rw [hat']; exact h
        rw [← hat']; exact if_pos h'
      rw [hins] at hC
      simp only [go_sem, Nat.reduceEqDiff, Nat.reduceAdd, ↓reduceIte, ↓dreduceIte, reduceCtorEq, Nat.reduceLeDiff, hw3, hi3, set_map, wkc_length, k_pc, k_mem, k_reg ja, k_reg jb, ks_pc, ec, hW, hok, Int.reduceBEq, hat, q2, q3, hm3, gm, eq_false (show ¬ (mem.length : Int) ≤ at_ by omega)]
      repeat (refine And.intro (by first | omega | simp) ?_)
      refine hC _ _ _ (kp2 _ _) ?_
      have := wput (code := code) (inp := inp) (H := H3.set m ⟨sm, 30, 1, (mem.set at_.toNat (f a.toNat)).map U32⟩) (w := w) (sw := sw) (m := m) (sm := sm) (o := o) (s1 := s1) (c := c) (sc := sc) (mem := mem.set at_.toNat (f a.toNat)) (out := out) (so := so) (cnt := cnt.set pc.toNat (x + 1)) (pc := IntKind.i64.wrap (pc + 1)) (f := f) (rd := rd) (st := t) (fin := 0)
        (by rw [List.length_set]; exact hlt3) (by rw [List.getElem?_set, if_pos rfl, if_pos hmlt]) (by rw [List.getElem?_set, if_neg nmo]; exact ho3) (by rw [List.getElem?_set, if_neg (fun e => ncm e.symm)]; exact hc3) nm no nc hc5
      rw [List.length_set] at this
      exact this
    · have hins : insM code inp ⟨pc, f, mem, rd, out, t, 0⟩ 17 a b k = (8, ⟨pc, f, mem, rd, out, t, 0⟩) := by
        have h' : ¬ w32 (f b.toNat + k) < (mem.length : Int) := by rw [hat']; exact h
        exact if_neg h'
      rw [hins] at hC
      simp only [go_sem, Nat.reduceEqDiff, Nat.reduceAdd, ↓reduceIte, ↓dreduceIte, reduceCtorEq, Nat.reduceLeDiff, hw3, hi3, wkc_length, k_pc, k_mem, k_reg ja, k_reg jb, ks_fin, ec, hW, hok, Int.reduceBEq, hm3, hat, q2, q3, eq_true (show (mem.length : Int) ≤ at_ by omega)]
      repeat (refine And.intro (by omega) ?_)
      exact hC _ _ _ (kp _) (wput hlt3 hm3 ho3 hc3 nm no nc hc5)
  · -- 18
    simp only [go_sem, Nat.reduceEqDiff, Nat.reduceAdd, ↓reduceIte, ↓dreduceIte, reduceCtorEq, Nat.reduceLeDiff, hw3, hi3, wkc_length, k_pc, k_reg ja, ks_pc, hW, hok, Int.reduceBEq]
    repeat (refine And.intro (by omega) ?_)
    exact hC _ _ _ (kp _) (wput hlt3 hm3 ho3 hc3 nm no nc hc5)
  · -- 19
    simp only [go_sem, Nat.reduceEqDiff, Nat.reduceAdd, ↓reduceIte, ↓dreduceIte, reduceCtorEq, Nat.reduceLeDiff, hw3, hi3, k_pc, k_reg ja, hW, hok, Int.reduceBEq]
    repeat (refine And.intro (by omega) ?_)
    refine wjump_v _ k hw3 fun r => ?_
    simp only [go_sem]
    refine hC _ _ _ (kp _) ?_
    by_cases hz : f a.toNat = 0
    · have hins : insM code inp ⟨pc, f, mem, rd, out, t, 0⟩ 19 a b k = (0, ⟨k, f, mem, rd, out, t, 0⟩) := by show (0, S.mk (if f a.toNat = 0 then _ else _) f mem rd out t 0) = _; rw [if_pos hz] <;> rfl
      rw [hins]
      simp only [hz, if_true]
      exact wput hlt3 hm3 ho3 hc3 nm no nc hc5
    · have hins : insM code inp ⟨pc, f, mem, rd, out, t, 0⟩ 19 a b k = (0, ⟨(IntKind.i64.wrap (pc + 1)), f, mem, rd, out, t, 0⟩) := by show (0, S.mk (if f a.toNat = 0 then _ else _) f mem rd out t 0) = _; rw [if_neg hz] <;> rfl
      rw [hins]
      simp only [eq_false hz, if_false, if_true]
      exact wput hlt3 hm3 ho3 hc3 nm no nc hc5
  · -- 20
    simp only [go_sem, Nat.reduceEqDiff, Nat.reduceAdd, ↓reduceIte, ↓dreduceIte, reduceCtorEq, Nat.reduceLeDiff, hw3, hi3, k_pc, k_reg ja, hW, hok, Int.reduceBEq]
    repeat (refine And.intro (by omega) ?_)
    refine wjump_v _ k hw3 fun r => ?_
    simp only [go_sem]
    refine hC _ _ _ (kp _) ?_
    by_cases hz : f a.toNat = 0
    · have hins : insM code inp ⟨pc, f, mem, rd, out, t, 0⟩ 20 a b k = (0, ⟨(IntKind.i64.wrap (pc + 1)), f, mem, rd, out, t, 0⟩) := by show (0, S.mk (if f a.toNat = 0 then _ else _) f mem rd out t 0) = _; rw [if_pos hz] <;> rfl
      rw [hins]
      simp only [hz]
      exact wput hlt3 hm3 ho3 hc3 nm no nc hc5
    · have hins : insM code inp ⟨pc, f, mem, rd, out, t, 0⟩ 20 a b k = (0, ⟨k, f, mem, rd, out, t, 0⟩) := by show (0, S.mk (if f a.toNat = 0 then _ else _) f mem rd out t 0) = _; rw [if_neg hz] <;> rfl
      rw [hins]
      simp only [eq_false hz, if_true, not_false_eq_true]
      exact wput hlt3 hm3 ho3 hc3 nm no nc hc5
  · -- 21
    have hq : IntKind.u32.wrap (IntKind.u32.wrap pc + 1) = w32 (nxtM ⟨pc, f, mem, rd, out, t, 0⟩) := by
      simp only [w32, nxtM]; rw [IntKind.wrap_u32, IntKind.wrap_u32, IntKind.wrap_u32, IntKind.wrap_i64]; omega
    simp only [go_sem, Nat.reduceEqDiff, Nat.reduceAdd, ↓reduceIte, ↓dreduceIte, reduceCtorEq, Nat.reduceLeDiff, hw3, hi3, gw, gi, List.set_set, wkc_length, k_pc, k_reg ja, ks_pc, ks_reg ja, hW, hok, Int.reduceBEq, hq]
    repeat (refine And.intro (by omega) ?_)
    exact hC _ _ _ (kp _) (wput hlt3 hm3 ho3 hc3 nm no nc hc5)
  · -- 22
    have hq : IntKind.i64.wrap (f a.toNat) = f a.toNat := by
      have := hf a.toNat
      exact i64_in (by have := this.1; omega) (by have := this.2; omega)
    simp only [go_sem, Nat.reduceEqDiff, Nat.reduceAdd, ↓reduceIte, ↓dreduceIte, reduceCtorEq, Nat.reduceLeDiff, hw3, hi3, wkc_length, k_pc, k_reg ja, ks_pc, hW, hok, Int.reduceBEq, hq]
    repeat (refine And.intro (by omega) ?_)
    exact hC _ _ _ (kp _) (wput hlt3 hm3 ho3 hc3 nm no nc hc5)
  · -- 23
    by_cases r1 : rd < 0
    · have hins : insM code inp ⟨pc, f, mem, rd, out, t, 0⟩ 23 a b k = (0, setR ⟨pc, f, mem, rd, out, t, 0⟩ a 256) := by
        show (0, if rd < 0 ∨ (inp.size : Int) ≤ rd then _ else _) = _; rw [if_pos (.inl r1)]
      rw [hins] at hC
      simp only [go_sem, Nat.reduceEqDiff, Nat.reduceAdd, ↓reduceIte, ↓dreduceIte, reduceCtorEq, Nat.reduceLeDiff, hw3, hi3, k_pc, k_rd, k_reg ja, hW, hok, Int.reduceBEq, eq_true r1]
      repeat (refine And.intro (by omega) ?_)
      refine wset_v a 256 ⟨ga1, ga2⟩ hw3 hone fun r => ?_
      simp only [go_sem]
      exact hC _ _ _ (kp _) (wput hlt3 hm3 ho3 hc3 nm no nc hc5)
    by_cases r2 : (inp.size : Int) ≤ rd
    · have hins : insM code inp ⟨pc, f, mem, rd, out, t, 0⟩ 23 a b k = (0, setR ⟨pc, f, mem, rd, out, t, 0⟩ a 256) := by
        show (0, if rd < 0 ∨ (inp.size : Int) ≤ rd then _ else _) = _; rw [if_pos (.inr r2)]
      rw [hins] at hC
      simp only [go_sem, Nat.reduceEqDiff, Nat.reduceAdd, ↓reduceIte, ↓dreduceIte, reduceCtorEq, Nat.reduceLeDiff, hw3, hi3, k_pc, k_rd, k_in, k_reg ja, hW, hok, Int.reduceBEq, eq_false r1, eq_true r2]
      repeat (refine And.intro (by omega) ?_)
      refine wset_v a 256 ⟨ga1, ga2⟩ hw3 hone fun r => ?_
      simp only [go_sem]
      exact hC _ _ _ (kp _) (wput hlt3 hm3 ho3 hc3 nm no nc hc5)
    · have hins : insM code inp ⟨pc, f, mem, rd, out, t, 0⟩ 23 a b k = (0, setR ⟨pc, f, mem, IntKind.i64.wrap (rd + 1), out, t, 0⟩ a (byteAt inp rd.toNat)) := by
        show (0, if rd < 0 ∨ (inp.size : Int) ≤ rd then _ else _) = _; rw [if_neg (by omega)]
      rw [hins] at hC
      have hb : IntKind.u32.wrap (byteAt inp rd.toNat) = byteAt inp rd.toNat := by
        refine w32_in ⟨?_, ?_⟩ <;> unfold byteAt
        · omega
        · have := (inp.data.toList.getD rd.toNat 0).toNat_lt; omega
      simp only [go_sem, Nat.reduceEqDiff, Nat.reduceAdd, ↓reduceIte, ↓dreduceIte, reduceCtorEq, Nat.reduceLeDiff, hw3, hi3, gi, wkc_length, k_pc, k_rd, k_in, k_reg ja, ks_rd, hW, hok, Int.reduceBEq, eq_false r1, eq_false r2, hb]
      repeat (refine And.intro (by omega) ?_)
      refine wset_v a (byteAt inp rd.toNat) ⟨ga1, ga2⟩ (gw _) (by rw [wkc_all]; rfl) fun r => ?_
      rw [List.set_set]
      simp only [go_sem]
      exact hC _ _ _ (kp _) (wput hlt3 hm3 ho3 hc3 nm no nc hc5)
  · -- 24
    by_cases h : 65536 ≤ out.size
    · have hins : insM code inp ⟨pc, f, mem, rd, out, t, 0⟩ 24 a b k = (4, ⟨pc, f, mem, rd, out, t, 0⟩) := if_pos h
      rw [hins] at hC
      simp only [go_sem, Nat.reduceEqDiff, Nat.reduceAdd, ↓reduceIte, ↓dreduceIte, reduceCtorEq, Nat.reduceLeDiff, hw3, hi3, wkc_length, k_pc, k_o, k_reg ja, ks_fin, hW, hok, Int.reduceBEq, ho3, eq_true (show (65536 : Int) ≤ (out.size : Int) by omega)]
      repeat (refine And.intro (by omega) ?_)
      exact hC _ _ _ (kp _) (wput hlt3 hm3 ho3 hc3 nm no nc hc5)
    · have hins : insM code inp ⟨pc, f, mem, rd, out, t, 0⟩ 24 a b k = (0, ⟨nxtM ⟨pc, f, mem, rd, out, t, 0⟩, f, mem, rd, out.push (byteOf (f a.toNat)), t, 0⟩) := if_neg h
      rw [hins] at hC
      have hby : (AV.val (.int .u8 (IntKind.u8.wrap ((f a.toNat).tmod 256)))) = U8 (byteOf (f a.toNat)) := by
        have h0 := (hf a.toNat).1
        have e := byteOf_eq (f a.toNat)
        show AV.val (.int .u8 (IntKind.u8.wrap ((f a.toNat).tmod 256))) = AV.val (.int .u8 (((byteOf (f a.toNat)).toNat : Nat) : Int))
        rw [e, Int.tmod_eq_emod_of_nonneg h0, IntKind.wrap_u8, IntKind.wrap_u8, Int.emod_emod]
      have holt := (List.getElem?_eq_some_iff.1 ho3).1
      have X1 : ∀ y, (H3 ++ [y])[o]? = some ⟨s1, 5, 1, out.data.toList.map U8⟩ := fun y => by rw [List.getElem?_append_left holt]; exact ho3
      have X2 : ∀ y z, ((H3 ++ [y]).set o z)[w]? = some (wkO sw (wkc pc f (.ref m sm 0 mem.length) rd so t 0 (.ref o s1 0 out.size) (insL code) (okL code) (words code) inp (.ref c sc 0 code.length))) := fun y z => by
        rw [List.getElem?_set, if_neg (fun e => no e.symm), List.getElem?_append_left hlt3]; exact hw3
      have X3 : ∀ y z u, (((H3 ++ [y]).set o z).set w u)[w]? = some u := fun y z u => by rw [List.getElem?_set, if_pos rfl, if_pos (by simp; omega)]
      have X4 : ∀ y : VObj, (H3 ++ [y])[w]? = some (wkO sw (wkc pc f (.ref m sm 0 mem.length) rd so t 0 (.ref o s1 0 out.size) (insL code) (okL code) (words code) inp (.ref c sc 0 code.length))) := fun y => by
        rw [List.getElem?_append_left hlt3]; exact hw3
      have X5 : ∀ y : VObj, (H3 ++ [y])[H3.length]? = some y := fun y => by rw [List.getElem?_append_right (Nat.le_refl _), Nat.sub_self]; rfl
      have hall1 : ∀ v, allCells [U8 v] = [U8 v] := fun v => rfl
      have hmx : (2000000 : Nat) ≤ maxLen := by decide
      have hol2 : out.data.toList.length = out.size := rfl
      have htk : (out.data.toList.map U8).take out.size = out.data.toList.map U8 := List.take_of_length_le (by rw [List.length_map]; exact Nat.le_refl _)
      simp only [go_sem, Nat.reduceEqDiff, Nat.reduceAdd, Nat.reduceMul, ↓reduceIte, ↓dreduceIte, reduceCtorEq, Nat.reduceLeDiff, hw3, hi3, List.set_set, wkc_length, k_pc, k_o, k_reg ja, ks_pc, ks_o, hW, hok, Int.reduceEq, Int.reduceBEq, eq_false (show ¬ (65536 : Int) ≤ (out.size : Int) by omega), hby, ho3, X1, X2, X3, X5, htk]
      repeat (refine And.intro (by first | omega | simp) ?_)
      have hp1 : (out.push (byteOf (f a.toNat))).size = out.size + 1 := ByteArray.size_push ..
      have hp2 : (out.push (byteOf (f a.toNat))).data.toList.map U8 = out.data.toList.map U8 ++ [U8 (byteOf (f a.toNat))] := by
        show (out.data.push (byteOf (f a.toNat))).toList.map U8 = _
        rw [Array.toList_push, List.map_append]; rfl
      have hc3l := (List.getElem?_eq_some_iff.1 hc3).1
      refine hC _ _ _ (kp3 _ _ _) ?_
      have := wput (code := code) (inp := inp) (H := (H3 ++ [(⟨nx + 1, 5, 1, [U8 (byteOf (f a.toNat))]⟩ : VObj)]).set o ⟨nx + 1 + 1, 5, 1, out.data.toList.map U8 ++ [U8 (byteOf (f a.toNat))]⟩) (w := w) (sw := sw) (m := m) (sm := sm) (o := o) (s1 := nx + 1 + 1) (c := c) (sc := sc) (mem := mem) (out := out.push (byteOf (f a.toNat))) (so := so) (cnt := cnt.set pc.toNat (x + 1)) (pc := IntKind.i64.wrap (pc + 1)) (f := f) (rd := rd) (st := t) (fin := 0)
        (by simp; omega) (by rw [List.getElem?_set, if_neg (fun e => nmo e.symm), List.getElem?_append_left hmlt]; exact hm3) (by rw [hp2, List.getElem?_set, if_pos rfl, if_pos (by simp; omega)]) (by rw [List.getElem?_set, if_neg (fun e => nco e.symm), List.getElem?_append_left hc3l]; exact hc3) nm no nc hc5
      rw [hp1] at this
      exact this
  · -- 25
    by_cases h : f a.toNat < k
    · have hins : insM code inp ⟨pc, f, mem, rd, out, t, 0⟩ 25 a b k = (0, ⟨nxtM ⟨pc, f, mem, rd, out, t, 0⟩, f, mem, rd, out, t, 0⟩) := if_pos h
      rw [hins] at hC
      simp only [go_sem, Nat.reduceEqDiff, Nat.reduceAdd, ↓reduceIte, ↓dreduceIte, reduceCtorEq, Nat.reduceLeDiff, hw3, hi3, wkc_length, k_pc, k_reg ja, ks_pc, ec, hW, hok, Int.reduceBEq, eq_false (show ¬ k ≤ f a.toNat by omega)]
      repeat (refine And.intro (by omega) ?_)
      exact hC _ _ _ (kp _) (wput hlt3 hm3 ho3 hc3 nm no nc hc5)
    · have hins : insM code inp ⟨pc, f, mem, rd, out, t, 0⟩ 25 a b k = (3, ⟨pc, f, mem, rd, out, t, 0⟩) := if_neg h
      rw [hins] at hC
      simp only [go_sem, Nat.reduceEqDiff, Nat.reduceAdd, ↓reduceIte, ↓dreduceIte, reduceCtorEq, Nat.reduceLeDiff, hw3, hi3, wkc_length, k_pc, k_reg ja, ks_fin, ec, hW, hok, Int.reduceBEq, eq_true (show k ≤ f a.toNat by omega)]
      repeat (refine And.intro (by omega) ?_)
      exact hC _ _ _ (kp _) (wput hlt3 hm3 ho3 hc3 nm no nc hc5)
  · -- 26
    simp only [go_sem, Nat.reduceEqDiff, Nat.reduceAdd, ↓reduceIte, ↓dreduceIte, reduceCtorEq, Nat.reduceLeDiff, hw3, hi3, wkc_length, k_pc, k_reg ja, ks_fin, hW, hok, Int.reduceBEq]
    repeat (refine And.intro (by omega) ?_)
    exact hC _ _ _ (kp _) (wput hlt3 hm3 ho3 hc3 nm no nc hc5)
end Go.Proofs.Ytaedcpipilnpcaa
namespace Go.Proofs.Ytaedcpipilnpcaa
set_option linter.unusedSimpArgs false
set_option linter.unusedVariables false
set_option maxRecDepth 10000
open Go.V
theorem fold_stc {pc : Int} {f : Nat → Int} {m : AV} {rd : Int} {so : ByteArray} {st fin : Int} : I pc :: (regs f ++ [m, I rd, strv so, I st, I fin]) = stc pc f m rd so st fin := rfl
theorem fold_wkc {pc : Int} {f : Nat → Int} {m : AV} {rd : Int} {so : ByteArray} {st fin : Int} {o cd ok wd ct : AV} {inp : ByteArray} : stc pc f m rd so st fin ++ [o, cd, ok, wd, strv inp, ct] = wkc pc f m rd so st fin o cd ok wd inp ct := by
  simp [stc, wkc]
theorem stw17 {pc : Int} {f : Nat → Int} {m : AV} {rd : Int} {so : ByteArray} {st fin : Int} (x : AV) : List.take 17 (stc pc f m rd so st fin) ++ x :: List.drop 18 (stc pc f m rd so st fin) = stc pc f x rd so st fin := rfl
theorem stw18 {pc : Int} {f : Nat → Int} {m : AV} {rd : Int} {so : ByteArray} {st fin : Int} (x : Int) : List.take 18 (stc pc f m rd so st fin) ++ I x :: List.drop 19 (stc pc f m rd so st fin) = stc pc f m x so st fin := rfl
theorem stw20 {pc : Int} {f : Nat → Int} {m : AV} {rd : Int} {so : ByteArray} {st fin : Int} (x : Int) : List.take 20 (stc pc f m rd so st fin) ++ I x :: List.drop 21 (stc pc f m rd so st fin) = stc pc f m rd so x fin := rfl
theorem stw21 {pc : Int} {f : Nat → Int} {m : AV} {rd : Int} {so : ByteArray} {st fin : Int} (x : Int) : List.take 21 (stc pc f m rd so st fin) ++ I x :: List.drop 22 (stc pc f m rd so st fin) = stc pc f m rd so st x := rfl
theorem wkw22 {pc : Int} {f : Nat → Int} {m : AV} {rd : Int} {so : ByteArray} {st fin : Int} {o cd ok wd ct : AV} {inp : ByteArray} (x : AV) : List.take 22 (wkc pc f m rd so st fin o cd ok wd inp ct) ++ x :: List.drop 23 (wkc pc f m rd so st fin o cd ok wd inp ct) = wkc pc f m rd so st fin x cd ok wd inp ct := rfl
theorem wkw23 {pc : Int} {f : Nat → Int} {m : AV} {rd : Int} {so : ByteArray} {st fin : Int} {o cd ok wd ct : AV} {inp : ByteArray} (x : AV) : List.take 23 (wkc pc f m rd so st fin o cd ok wd inp ct) ++ x :: List.drop 24 (wkc pc f m rd so st fin o cd ok wd inp ct) = wkc pc f m rd so st fin o x ok wd inp ct := rfl
theorem wkw24 {pc : Int} {f : Nat → Int} {m : AV} {rd : Int} {so : ByteArray} {st fin : Int} {o cd ok wd ct : AV} {inp : ByteArray} (x : AV) : List.take 24 (wkc pc f m rd so st fin o cd ok wd inp ct) ++ x :: List.drop 25 (wkc pc f m rd so st fin o cd ok wd inp ct) = wkc pc f m rd so st fin o cd x wd inp ct := rfl
theorem wkw25 {pc : Int} {f : Nat → Int} {m : AV} {rd : Int} {so : ByteArray} {st fin : Int} {o cd ok wd ct : AV} {inp : ByteArray} (x : AV) : List.take 25 (wkc pc f m rd so st fin o cd ok wd inp ct) ++ x :: List.drop 26 (wkc pc f m rd so st fin o cd ok wd inp ct) = wkc pc f m rd so st fin o cd ok x inp ct := rfl
theorem wkw26 {pc : Int} {f : Nat → Int} {m : AV} {rd : Int} {so : ByteArray} {st fin : Int} {o cd ok wd ct : AV} {inp : ByteArray} (x : ByteArray) : List.take 26 (wkc pc f m rd so st fin o cd ok wd inp ct) ++ strv x :: List.drop 27 (wkc pc f m rd so st fin o cd ok wd inp ct) = wkc pc f m rd so st fin o cd ok wd x ct := rfl
theorem wkw27 {pc : Int} {f : Nat → Int} {m : AV} {rd : Int} {so : ByteArray} {st fin : Int} {o cd ok wd ct : AV} {inp : ByteArray} (x : AV) : List.take 27 (wkc pc f m rd so st fin o cd ok wd inp ct) ++ x :: List.drop 28 (wkc pc f m rd so st fin o cd ok wd inp ct) = wkc pc f m rd so st fin o cd ok wd inp x := rfl
theorem dps22 {pc : Int} {f : Nat → Int} {m : AV} {rd : Int} {so : ByteArray} {st fin : Int} : List.drop 22 (stc pc f m rd so st fin) = [] := rfl
theorem dps28 {pc : Int} {f : Nat → Int} {m : AV} {rd : Int} {so : ByteArray} {st fin : Int} {o cd ok wd ct : AV} {inp : ByteArray} : List.drop 28 (wkc pc f m rd so st fin o cd ok wd inp ct) = [] := rfl
theorem stw21' {pc : Int} {f : Nat → Int} {m : AV} {rd : Int} {so : ByteArray} {st fin : Int} (x : Int) : List.take 21 (stc pc f m rd so st fin) ++ [I x] = stc pc f m rd so st x := rfl
theorem wkw27' {pc : Int} {f : Nat → Int} {m : AV} {rd : Int} {so : ByteArray} {st fin : Int} {o cd ok wd ct : AV} {inp : ByteArray} (x : AV) : List.take 27 (wkc pc f m rd so st fin o cd ok wd inp ct) ++ [x] = wkc pc f m rd so st fin o cd ok wd inp x := rfl
theorem cntL_stays {code : List Int} {inp : ByteArray} {σ : S} {k : Nat} (h : (runN code inp σ k).fin ≠ 0) : ∀ d, cntL code inp σ (k + d) = cntL code inp σ k
  | 0 => rfl
  | d + 1 => by
    have hd : doneF code (runN code inp σ (k + d)) = false := by rw [runN_stays h d]; simp [doneF, h]
    show cntL code inp σ (k + d + 1) = _
    simp only [cntL, hd, Bool.false_eq_true, if_false]
    exact cntL_stays h d
structure RQR where
  k : Nat
  H : List VObj
  nx : Nat
theorem insM_out (code : List Int) (inp : ByteArray) (s : S) (op a b c : Int) (h : s.out.size ≤ 65536) : (insM code inp s op a b c).2.out.size ≤ 65536 := by
  unfold insM
  iterate 8 (refine ite_ind (P := fun p : Int × S => p.2.out.size ≤ 65536) (fun _ => h) fun _ => ?_)
  iterate 3 (refine ite_ind (P := fun p : Int × S => p.2.out.size ≤ 65536) (fun _ => ite_ind (P := fun p : Int × S => p.2.out.size ≤ 65536) (fun _ => h) fun _ => h) fun _ => ?_)
  refine ite_ind (P := fun p : Int × S => p.2.out.size ≤ 65536) (fun _ => ?_) fun _ => ?_
  · exact ite_ind (P := fun x : S => x.out.size ≤ 65536) (fun _ => h) fun _ => h
  refine ite_ind (P := fun p : Int × S => p.2.out.size ≤ 65536) (fun _ => ite_ind (P := fun p : Int × S => p.2.out.size ≤ 65536) (fun _ => h) fun h2 => ?_) fun _ => ?_
  · show (s.out.push _).size ≤ _
    rw [ByteArray.size_push]; omega
  refine ite_ind (P := fun p : Int × S => p.2.out.size ≤ 65536) (fun _ => ite_ind (P := fun p : Int × S => p.2.out.size ≤ 65536) (fun _ => h) fun _ => h) fun _ => ?_
  refine ite_ind (P := fun p : Int × S => p.2.out.size ≤ 65536) (fun _ => h) fun _ => ?_
  exact ite_ind (P := fun p : Int × S => p.2.out.size ≤ 65536) (fun _ => h) fun _ => h
theorem stepR_out (code : List Int) (inp : ByteArray) (s : S) (h : s.out.size ≤ 65536) : (stepF code inp s).out.size ≤ 65536 := by
  unfold stepF wordF
  refine ite_ind (P := fun x : S => x.out.size ≤ 65536) (fun _ => ?_) fun _ => h
  refine ite_ind (P := fun x : S => x.out.size ≤ 65536) (fun _ => h) fun _ => ?_
  refine ite_ind (P := fun x : S => x.out.size ≤ 65536) (fun _ => ?_) fun _ => h
  exact ite_ind (P := fun x : S => x.out.size ≤ 65536) (fun _ => insM_out _ _ _ _ _ _ _ h) fun _ => insM_out _ _ _ _ _ _ _ h
theorem runR_out {code : List Int} {inp : ByteArray} {s : S} (h : s.out.size ≤ 65536) : ∀ k, (runN code inp s k).out.size ≤ 65536
  | 0 => h
  | k + 1 => stepR_out _ _ _ (runR_out h k)
theorem refrun_tail (code : List Int) (inp : ByteArray) (σ : S) (fuel : Int) (w sw : Nat) (env : List (Nat × AV)) (H : List VObj) (nx : Nat) (cs : List AV) (C : AV → Prop)
    (hcode : ∀ x ∈ code, In32 x) (hcl : code.length ≤ 1000000) (hi : inp.size ≤ 1000000000) (hws : Wf σ) (hl : σ.mem.length ≤ 1000000) (hol : σ.out.size ≤ 65536) (hfu : fuel ≤ 4000000000000000000)
    (he3 : get env 3 = I fuel) (he8 : get env 8 = .ptr 2 2 0) (he13 : get env 13 = .ptr w sw 0) (hcs : cs.length = 22) (h2 : H[2]? = some ⟨2, 91, 1, cs⟩)
    (hA : WAt code inp H w sw σ ⟨#[]⟩ (cntL code inp σ 0)) (hC : C (.tup [stA (runN code inp σ fuel.toNat), ints (cntL code inp σ fuel.toNat)])) :
    VW Try.prog t_scref10_run (retQ Try.prog [.cell 8 true 22, .tmp 9] fun r H nx => ∃ y, Frz 0 H nx r y ∧ C y) ⟨env, H, nx⟩ := by
  have hwf := runN_wf (code := code) (inp := inp) hcode hws
  have hcnt := cntL_le code inp σ
  simp only [go_sem, t_scref10_run]
  refine VW_loop (fun q : RQR => ⟨[(3, I fuel), (8, .ptr 2 2 0), (13, .ptr w sw 0), (14, I q.k)], q.H, q.nx⟩)
    (fun q => q.k ≤ fuel.toNat ∧ WAt code inp q.H w sw (runN code inp σ q.k) ⟨#[]⟩ (cntL code inp σ q.k) ∧ q.H[2]? = some ⟨2, 91, 1, cs⟩) (fun q => fuel.toNat - q.k)
    ⟨0, H, nx⟩ (Wk.mk (fun p hp => ?_) ⟨[], (List.append_nil _).symm⟩ (Nat.le_refl _)) ⟨Nat.zero_le _, hA, h2⟩ ?_
  · simp only [List.mem_cons, List.not_mem_nil, or_false] at hp
    rcases hp with rfl | rfl | rfl | rfl
    · simpa [get_cons] using he3
    · simpa [get_cons] using he8
    · simpa [get_cons] using he13
    · simp [get_cons]
  clear hA h2 he3 he8 he13
  rintro ⟨k, H, nx⟩ ⟨h1, hA, h2⟩
  simp only at h1 hA h2
  have hA' := hA
  obtain ⟨m, sm, o, s1, c, sc, hw, hm, ho, hc, hcc⟩ := hA'
  have fin_ : runN code inp σ fuel.toNat = runN code inp σ k → cntL code inp σ fuel.toNat = cntL code inp σ k → (k : Int) < fuel → True := fun _ _ _ => trivial
  have hlt := (List.getElem?_eq_some_iff.1 hw).1
  have h2lt := (List.getElem?_eq_some_iff.1 h2).1
  have nw2 : w ≠ 2 := fun e => by rw [e, h2] at hw; simp at hw
  have nm2 : m ≠ 2 := fun e => by rw [e, h2] at hm; simp at hm
  have no2 : o ≠ 2 := fun e => by rw [e, h2] at ho; simp at ho
  have nc2 : c ≠ 2 := fun e => by rw [e, h2] at hc; simp at hc
  have nm : w ≠ m := fun e => by rw [← e, hw] at hm; simp at hm
  have nc : w ≠ c := fun e => by rw [← e, hw] at hc; simp at hc
  have gw : ∀ x, (H.set w x)[w]? = some x := fun x => by rw [List.getElem?_set, if_pos rfl, if_pos hlt]
  have g2 : ∀ x, (H.set w x)[2]? = some ⟨2, 91, 1, cs⟩ := fun x => by rw [List.getElem?_set, if_neg nw2]; exact h2
  have g3 : ∀ x y, ((H.set w x).set 2 y)[w]? = some x := fun x y => by rw [List.getElem?_set, if_neg (fun e => nw2 e.symm)]; exact gw x
  have g4 : ∀ x y, ((H.set w x).set 2 y)[2]? = some y := fun x y => by rw [List.getElem?_set, if_pos rfl, if_pos (by rw [List.length_set]; exact h2lt)]
  have g5 : ∀ x y, ((H.set w x).set 2 y)[m]? = some ⟨sm, 30, 1, (runN code inp σ k).mem.map U32⟩ := fun x y => by
    rw [List.getElem?_set, if_neg (fun e => nm2 e.symm), List.getElem?_set, if_neg nm]; exact hm
  have g6 : ∀ x y, ((H.set w x).set 2 y)[c]? = some ⟨sc, 3, 1, (cntL code inp σ k).map I⟩ := fun x y => by
    rw [List.getElem?_set, if_neg (fun e => nc2 e.symm), List.getElem?_set, if_neg nc]; exact hc
  have htk : ((runN code inp σ k).out.data.toList.map U8).take (runN code inp σ k).out.size = (runN code inp σ k).out.data.toList.map U8 := List.take_of_length_le (by rw [List.length_map]; exact Nat.le_refl _)
  have hstr : (⟨(runN code inp σ k).out.data.toList.toArray⟩ : ByteArray) = (runN code inp σ k).out := bytes_ext (by simp)
  have hdrop : cs.drop 22 = [] := List.drop_eq_nil_of_le (by omega)
  obtain ⟨w1, w2, _⟩ := hwf k
  have w3 := runR_out (code := code) (inp := inp) hol k
  by_cases c1 : (k : Int) < fuel
  · by_cases c2 : (runN code inp σ k).fin = 0
    · simp only [go_sem, Nat.reduceEqDiff, Nat.reduceAdd, ↓reduceIte, ↓dreduceIte, hw, eq_true c1, eq_true c2, k_fin]
      refine wstep_v code inp (runN code inp σ k) ⟨#[]⟩ (cntL code inp σ k) H nx w sw _ hcode hcl hi w1 (by omega) (by omega) c2 (fun x hx => by have := hcnt k x hx; omega) hA fun r H' nx' hk hA' => ?_
      simp only [go_sem, Nat.reduceEqDiff, ↓reduceIte]
      rw [i64_in (by omega) (by omega)]
      exact ⟨⟨k + 1, H', nx'⟩, ⟨by simp only; omega, hA', hk 2 _ h2 rfl⟩, by simp only; omega, Wk.mk (by simp [get_cons]) ⟨[], (List.append_nil _).symm⟩ (Nat.le_refl _)⟩
    · have e1 := runN_stays c2 (fuel.toNat - k)
      have e2 := cntL_stays c2 (fuel.toNat - k)
      rw [show k + (fuel.toNat - k) = fuel.toNat by omega] at e1 e2
      rw [e1, e2] at hC
      simp only [go_sem, Nat.reduceEqDiff, Nat.reduceAdd, ↓reduceIte, ↓dreduceIte, Nat.reduceLeDiff, hw, ho, gw, g2, g3, g4, hdrop, hcs, htk, hstr, s_all, stc_all, eq_true c1, eq_false c2, wkc_length, k_state, k_fin, k_o, k_ct, ks_so, stc_length]
      refine ⟨?_, ?_⟩
      all_goals
        refine ⟨_, Frz.tup ⟨_, _, rfl, stA_frz' (mem := (runN code inp σ k).mem) (Frz.ref (Nat.zero_le _) (g5 _ _) rfl rfl ?_ ?_), _, _, rfl, frz_ints (l := cntL code inp σ k) (Nat.zero_le _) (g6 _ _) hcc.symm, rfl⟩, hC⟩
        · rw [List.all_eq_true]; intro y hy; obtain ⟨x, _, rfl⟩ := List.mem_map.1 hy; rfl
        · rw [List.drop_zero, List.take_of_length_le (by rw [List.length_map]; exact Nat.le_refl _)]
          exact FrzL.pure (by rw [List.all_eq_true]; intro y hy; obtain ⟨x, _, rfl⟩ := List.mem_map.1 hy; rfl)
  · have e : fuel.toNat = k := by omega
    rw [e] at hC
    simp only [go_sem, Nat.reduceEqDiff, Nat.reduceAdd, ↓reduceIte, ↓dreduceIte, Nat.reduceLeDiff, hw, ho, gw, g2, g3, g4, hdrop, hcs, htk, hstr, s_all, stc_all, eq_false c1, wkc_length, k_state, k_o, k_ct, ks_so, stc_length]
    refine ⟨?_, ?_⟩
    all_goals
      refine ⟨_, Frz.tup ⟨_, _, rfl, stA_frz' (mem := (runN code inp σ k).mem) (Frz.ref (Nat.zero_le _) (g5 _ _) rfl rfl ?_ ?_), _, _, rfl, frz_ints (l := cntL code inp σ k) (Nat.zero_le _) (g6 _ _) hcc.symm, rfl⟩, hC⟩
      · rw [List.all_eq_true]; intro y hy; obtain ⟨x, _, rfl⟩ := List.mem_map.1 hy; rfl
      · rw [List.drop_zero, List.take_of_length_le (by rw [List.length_map]; exact Nat.le_refl _)]
        exact FrzL.pure (by rw [List.all_eq_true]; intro y hy; obtain ⟨x, _, rfl⟩ := List.mem_map.1 hy; rfl)
theorem refrun_c (code : List Int) (data : Int) (inp : ByteArray) (σ : S) (fuel : Int) (hcode : ∀ x ∈ code, In32 x) (hcl : code.length ≤ 1000000) (hi : inp.size ≤ 1000000000) (hws : Wf σ) (hl : σ.mem.length ≤ 1000000) (hol : σ.out.size ≤ 65536) (hfu : fuel ≤ 4000000000000000000) :
    Contract Try.prog 44 [imgA code data, strv inp, stA σ, I fuel] (fun r => r = .tup [stA (runN code inp σ fuel.toNat), ints (cntL code inp σ fuel.toNat)]) := by
  refine Contract.of_call (VCall.of_body hmix e_scref10_run (by simp) ?_)
  have hmx : (2000000 : Nat) ≤ maxLen := by decide
  have hall : allCells (σ.mem.map U32) = σ.mem.map U32 := allCells_map1 (fun _ => rfl) σ.mem
  have hrep : (List.replicate code.length [I 0]).flatten = (List.replicate code.length (0 : Int)).map I := by
    induction code.length with
    | zero => rfl
    | succ n ih => simp only [List.replicate_succ, List.flatten_cons, ih, List.map_cons]; rfl
  simp only [go_sem, Nat.reduceEqDiff, Nat.reduceAdd, ↓reduceIte, ↓dreduceIte, reduceCtorEq, g_scref10_run, stc_all]
  refine VCall.of_contract (refcode_c code data hcode hcl) (SleL.pure rfl) fun x hx => ?_
  subst hx
  simp only [go_sem, Nat.reduceEqDiff, Nat.reduceAdd, Nat.reduceMul, ↓reduceIte, ↓dreduceIte, reduceCtorEq, Nat.reduceLeDiff, Nat.reduceLT, s_all, s_pc, s_regs, s_mem, s_rd, s_out, s_st, s_fin, stc_length, stc_all, regs_length, regs_all, wkc_length, wkc_all, fold_stc, fold_wkc, List.append_assoc, hall, hrep, Nat.reduceLeDiff, stw17, stw18, stw20, wkw22, wkw23, wkw24, wkw25, wkw26, dps22, dps28, stw21', wkw27']
  repeat' (with_reducible refine And.intro ?_ ?_)
  all_goals first
    | (intro y hy; obtain ⟨x, _, rfl⟩ := List.mem_map.1 hy; rfl)
    | omega
    | (refine refrun_tail code inp σ fuel _ _ _ _ _ _ (fun y => y = .tup [stA (runN code inp σ fuel.toNat), ints (cntL code inp σ fuel.toNat)]) hcode hcl hi hws hl hol hfu rfl rfl rfl ?_ rfl ⟨_, _, _, _, _, _, rfl, rfl, rfl, rfl, cntL_len ..⟩ rfl
       rfl)
    | skip
end Go.Proofs.Ytaedcpipilnpcaa
namespace Go.Proofs.Ytaedcpipilnpcaa
set_option linter.unusedSimpArgs false
set_option linter.unusedVariables false
set_option maxRecDepth 10000
open Go.V
theorem refgo_c (code : List Int) (data : Int) (inp : ByteArray) (σ : S) (fuel : Int) (hcode : ∀ x ∈ code, In32 x) (hcl : code.length ≤ 1000000) (hi : inp.size ≤ 1000000000) (hws : Wf σ) (hl : σ.mem.length ≤ 1000000) (hol : σ.out.size ≤ 65536) (hfu : fuel ≤ 4000000000000000000) :
    Contract Try.prog 28 [imgA code data, strv inp, stA σ, I fuel] (fun r => r = stA (runN code inp σ fuel.toNat)) := by
  refine Contract.of_call (VCall.of_body hmix f_scref10_Go (by simp) ?_)
  simp only [go_sem, Nat.reduceEqDiff, Nat.reduceAdd, ↓reduceIte, ↓dreduceIte, reduceCtorEq, c_scref10_Go, s_all, s_zero, stc_all]
  refine VCall.of_contract (refrun_c code data inp σ fuel hcode hcl hi hws hl hol hfu) (SleL.pure rfl) fun x hx => ?_
  subst hx
  simp only [go_sem, Nat.reduceEqDiff, Nat.reduceAdd, ↓reduceIte, ↓dreduceIte, Nat.reduceLT, s_all, s_zero, s_put', stc_length, stc_all]
  exact ⟨_, Frz.pure rfl, rfl⟩
theorem refRun_c (code : List Int) (data : Int) (inp : ByteArray) (fuel : Int) (hcode : ∀ x ∈ code, In32 x) (hcl : code.length ≤ 1000000) (hi : inp.size ≤ 1000000000) (hfu : fuel ≤ 4000000000000000000) :
    Contract Try.prog 13 [imgA code data, strv inp, I fuel] (fun r => r = runA code data inp fuel) := by
  have hs := start_len data
  have ho : (startF data).out.size = 0 := rfl
  refine Contract.of_call (VCall.of_body hmix f_scref10_Run (by simp) ?_)
  simp only [go_sem, Nat.reduceEqDiff, Nat.reduceAdd, ↓reduceIte, ↓dreduceIte, reduceCtorEq, Nat.reduceLT, c_scref10_Run]
  refine ECall.of (refstart_c code data) (SleL.pure rfl) ⟨_, fun _ => Iff.rfl⟩ fun x hx => ?_
  subst hx
  simp only [go_sem, Nat.reduceEqDiff, ↓reduceIte, ↓dreduceIte, reduceCtorEq]
  refine ECall.of (refgo_c code data inp (startF data) fuel hcode hcl hi (wf_start data) (by omega) (by omega) (by omega)) (SleL.pure rfl) ⟨_, fun _ => Iff.rfl⟩ fun x hx => ?_
  subst hx
  show _
  unfold runA endF runF
  generalize runN code inp (startF data) fuel.toNat = ρ
  by_cases h : ρ.fin = 0
  · simp only [go_sem, Nat.reduceEqDiff, Nat.reduceAdd, ↓reduceIte, ↓dreduceIte, Nat.reduceLeDiff, s_zero, s_put', stc_length, stc_all, s_fin, s_out, s_st, ss_fin, eq_true h]
    exact ⟨_, Frz.pure rfl, rfl⟩
  · simp only [go_sem, Nat.reduceEqDiff, Nat.reduceAdd, ↓reduceIte, ↓dreduceIte, Nat.reduceLeDiff, s_zero, s_put', stc_length, stc_all, s_fin, s_out, s_st, eq_false h]
    exact ⟨_, Frz.pure rfl, rfl⟩
end Go.Proofs.Ytaedcpipilnpcaa
namespace Go.Proofs.Ytaedcpipilnpcaa
set_option linter.unusedSimpArgs false
set_option linter.unusedVariables false
set_option maxRecDepth 10000
open Go.V
theorem par_in {s : SP} (h : RightP s) (f : Nat) : 0 ≤ (s.fn f).params ∧ (s.fn f).params ≤ 32768 := by
  by_cases hf : f < s.funcs.length
  · obtain ⟨k1, k2, k3, k4, k5⟩ := (h.fn f hf).h
    have := h.w1
    omega
  · unfold SP.fn; rw [List.getD, List.getElem?_eq_none (by omega)]; exact ⟨by decide, by decide⟩
theorem fuel_c (s : SP) (n : Int) (hw : 0 ≤ s.words ∧ s.words ≤ 32768) (hn : 0 ≤ n ∧ n ≤ 1000000) : Contract Try.prog 11 [spA s, I n] (fun r => r = I ((n + 1) * (64 + 8 * s.words))) := by
  refine Contract.of_call (VCall.of_body hmix f_scref22_Fuel (by simp) ?_)
  have e1 : IntKind.i64.wrap (n + 1) = n + 1 := i64_in (by omega) (by omega)
  have e2 : IntKind.i64.wrap (8 * s.words) = 8 * s.words := i64_in (by omega) (by omega)
  have e3 : IntKind.i64.wrap (64 + 8 * s.words) = 64 + 8 * s.words := i64_in (by omega) (by omega)
  have hm : 0 ≤ (n + 1) * (64 + 8 * s.words) ∧ (n + 1) * (64 + 8 * s.words) ≤ 1000001 * 300000 := ⟨Int.mul_nonneg (by omega) (by omega), Int.mul_le_mul (by omega) (by omega) (by omega) (by omega)⟩
  have e4 : IntKind.i64.wrap ((n + 1) * (64 + 8 * s.words)) = (n + 1) * (64 + 8 * s.words) := i64_in (by omega) (by omega)
  simp only [go_sem, Nat.reduceEqDiff, Nat.reduceAdd, ↓reduceIte, reduceCtorEq, Nat.reduceLeDiff, c_scref22_Fuel, e1, e2, e3, e4]
  exact ⟨_, Frz.pure rfl, rfl⟩
theorem ends_c (a b : Int) (s t : ByteArray) (m n : Int) : Contract Try.prog 20 [.agg [I a, .val (.string s), I m], .agg [I b, .val (.string t), I n]] (fun r => r = B (decide (a = b) && (s.toList == t.toList))) := by
  refine Contract.of_call (VCall.of_body hmix f_scref10_Ends (by simp) ?_)
  by_cases h : a = b
  · simp only [go_sem, Nat.reduceEqDiff, Nat.reduceAdd, ↓reduceIte, reduceCtorEq, Nat.reduceLeDiff, c_scref10_Ends, eq_true h]
    exact ⟨_, Frz.pure rfl, by simp []⟩
  · simp only [go_sem, Nat.reduceEqDiff, Nat.reduceAdd, ↓reduceIte, reduceCtorEq, Nat.reduceLeDiff, c_scref10_Ends, eq_false h]
    exact ⟨_, Frz.pure rfl, by simp []⟩
theorem SzP.sim {s : SP} (h : SzP s) : SimP s := ⟨h.r, fun f hf => depS_sol h.r hf, h.ofH.dat, h.wf⟩
theorem SzP.cd {s : SP} (h : SzP s) : CdOk (fixE s) := by
  refine ⟨fun i hi => ⟨(h.fix i hi).1, (h.fix i hi).2.1⟩, ?_⟩
  have : (fixE s).length = (endE s).l.length := by simp [fixE, fixY]
  have := h.ofH.len
  omega
theorem SzP.cok {s : SP} (h : SzP s) : (∀ x ∈ codeE s, In32 x) ∧ (codeE s).length ≤ 1000000 := by
  have hc := h.cd
  refine ⟨wrds_in hc, ?_⟩
  unfold codeE; rw [List.length_map]; exact hc.len
theorem SzP.run {s : SP} (h : SzP s) {inp : ByteArray} (hi : inp.size ≤ 1000000000) {k : Nat} (hk : k ≤ 60000) (hfin : (runS s inp (startS s) k).fin ≠ 0) {F : Int} (hF : (((runS s inp (startS s) k).steps : Int) + 1) * (64 + 8 * s.words) ≤ F) :
    endF (runF (codeE s) (dataE s) inp F) = (runS s inp (startS s) k).fin ∧ (runF (codeE s) (dataE s) inp F).out = ⟨(runS s inp (startS s) k).out.toArray⟩ := by
  have hw := h.r.w0
  have h0 : 0 ≤ (((runS s inp (startS s) k).steps : Int) + 1) * (64 + 8 * s.words) := Int.mul_nonneg (by omega) (by omega)
  obtain ⟨e1, e2⟩ := sim_end h.sim h.cd hi hk hfin (F := F.toNat) (by omega)
  refine ⟨?_, ?_⟩
  · show (if (runN (wrds (fixE s)) inp (startF (dataE s)) F.toNat).fin = 0 then 5 else (runN (wrds (fixE s)) inp (startF (dataE s)) F.toNat).fin) = _
    rw [e1, if_neg hfin]
  · have : ∀ (a : ByteArray) (l : List UInt8), a.data.toList = l → a = ⟨l.toArray⟩ := fun a l e => by subst e; cases a; simp
    exact this _ _ e2

/- The document's example. -/
def plE : SP := ⟨0, [⟨0, 0, 0, false, [⟨1, 0, 0, 65⟩, ⟨13, 0, 0, 0⟩, ⟨11, 0, 0, 0⟩]⟩]⟩
theorem plE_right : RightP plE := by
  refine ⟨by decide, by decide, by decide, by decide, fun f hf => ?_, rfl, rfl⟩
  obtain rfl : f = 0 := by simp [plE] at hf; exact hf
  refine ⟨⟨by decide, by decide, by decide, by decide, by decide⟩, fits_of ?_, ⟨[0, 1, 0], sol_of (by kernel_rfl)⟩⟩
  show ∀ x ∈ [(⟨1, 0, 0, 65⟩ : SI), ⟨13, 0, 0, 0⟩, ⟨11, 0, 0, 0⟩], FitsP plE 0 x
  intro x hx
  simp only [List.mem_cons, List.not_mem_nil, or_false] at hx
  rcases hx with rfl | rfl | rfl <;> decide
theorem plE_sz : SzP plE := by
  refine ⟨plE_right, fun g hg x hx => ?_, by decide, by decide, by decide⟩
  rw [List.mem_singleton.1 hg] at hx
  simp only [List.mem_cons, List.not_mem_nil, or_false] at hx
  rcases hx with rfl | rfl | rfl <;> exact ⟨by decide, by decide⟩
theorem plE_run : runS plE ⟨#[]⟩ (startS plE) 3 = ⟨[], 0, [65], 3, 1, ⟨0, 3, []⟩, []⟩ := by kernel_rfl
theorem plain_c : Contract Try.prog 21 [] (fun r => r = spA plE) := by
  refine Contract.of_call (VCall.of_body hmix f_sclaw22_plain (by simp) ?_)
  simp only [go_sem, Nat.reduceEqDiff, Nat.reduceAdd, Nat.reduceMul, ↓reduceIte, reduceCtorEq, Nat.reduceLeDiff, c_sclaw22_plain]
  exact ⟨_, frz_one 0 ⟨0, 0, 0, false, [⟨1, 0, 0, 65⟩, ⟨13, 0, 0, 0⟩, ⟨11, 0, 0, 0⟩]⟩ rfl rfl, rfl⟩
theorem alive_c : Contract Try.prog 7 [] (fun r => r = B true) := by
  refine Contract.of_call (VCall.of_body hmix f_sclaw22_alive (by simp) ?_)
  have hz := plE_sz
  have hc := hz.cok
  have hrun := hz.run (inp := ⟨#[]⟩) (by decide) (k := 3) (by decide) (by rw [plE_run]; decide) (F := 300) (by rw [plE_run]; decide)
  rw [plE_run] at hrun
  have k1 := of22_c hz.ofH
  unfold ofA at k1
  have k2 := refRun_c (codeE plE) (dataE plE) ⟨#[]⟩ 300 hc.1 hc.2 (by decide) (by decide)
  unfold runA at k2
  rw [hrun.1, hrun.2] at k2
  generalize runF (codeE plE) (dataE plE) ⟨#[]⟩ 300 = ρ at *
  generalize codeE plE = code at *
  generalize dataE plE = data at *
  simp only [go_sem, c_sclaw22_alive]
  refine VCall.of_contract plain_c (SleL.pure rfl) fun r hr => ?_
  subst hr
  simp only [go_sem, ↓reduceIte]
  refine VCall.of_contract k1 (SleL.pure rfl) fun r hr => ?_
  subst hr
  simp only [go_sem, Nat.reduceEqDiff, Nat.reduceAdd, ↓reduceIte, ↓dreduceIte, Nat.reduceLT, Int.reduceBEq]
  refine VCall.of_contract k2 (SleL.pure rfl) fun r hr => ?_
  subst hr
  simp only [go_sem, Nat.reduceEqDiff, Nat.reduceAdd, ↓reduceIte, Nat.reduceLeDiff]
  refine VCall.of_contract (ends_c _ _ _ _ _ _) (SleL.pure rfl) fun r hr => ?_
  subst hr
  simp only [go_sem, Nat.reduceEqDiff, ↓reduceIte]
  exact ⟨_, Frz.pure rfl, by simp⟩
end Go.Proofs.Ytaedcpipilnpcaa
namespace Go.Proofs.Ytaedcpipilnpcaa
set_option linter.unusedSimpArgs false
set_option linter.unusedVariables false
set_option maxRecDepth 10000
open Go.V
def lgF (W : Int) (f : Nat) : SF := ⟨0, W / 2, W / 4, decide (f % 2 = 0), if f % 2 = 0 then [⟨1, 0, 0, f⟩, ⟨11, 0, 0, 0⟩] else [⟨1, 0, 0, f⟩, ⟨3, W - 1, 0, 0⟩, ⟨11, 0, 0, 0⟩]⟩
def lgN (f : Nat) : Nat := 2 * f + f / 2
def preP (m : Nat) : List (SI × SI) := if 0 < m then [(⟨10, 0, 0, 0⟩, ⟨13, 0, 0, 0⟩)] else []
def numP (v : Int) (p : Nat) : List (SI × SI) := (List.range p).map fun j : Nat => (⟨1, 0, 0, v - 2 * j⟩, ⟨13, 0, 0, 0⟩)
def fl2 (ps : List (SI × SI)) : List SI := ps.flatMap fun q => [q.1, q.2]
def lgM (m : Nat) (v : Int) (p : Nat) : SF := ⟨0, 0, 0, false, fl2 (preP m ++ numP v p) ++ [⟨11, 0, 0, 0⟩]⟩
def lgP (W : Int) (m : Nat) (v : Int) (p : Nat) : SP := ⟨W, (List.range m).map (lgF W) ++ [lgM m v p]⟩
theorem numP_succ (v : Int) (p : Nat) : numP v (p + 1) = numP v p ++ [(⟨1, 0, 0, v - 2 * p⟩, ⟨13, 0, 0, 0⟩)] := by simp [numP, List.range_succ]
theorem fl2_app (a b : List (SI × SI)) : fl2 (a ++ b) = fl2 a ++ fl2 b := by simp [fl2]
theorem fl2_len : ∀ ps : List (SI × SI), (fl2 ps).length = 2 * ps.length
  | [] => rfl
  | q :: ps => by
    have := fl2_len ps
    simp only [fl2, List.flatMap_cons, List.length_append, List.length_cons, List.length_nil] at this ⊢
    omega
theorem preP_len (m : Nat) : (preP m).length = if 0 < m then 1 else 0 := by unfold preP; split <;> rfl
theorem fl2_get : ∀ (ps : List (SI × SI)) (t : List SI) (j : Nat), j < ps.length → (fl2 ps ++ t).getD (2 * j) default = (ps.getD j default).1 ∧ (fl2 ps ++ t).getD (2 * j + 1) default = (ps.getD j default).2
  | [], _, _, h => absurd h (Nat.not_lt_zero _)
  | q :: ps, t, 0, _ => ⟨rfl, rfl⟩
  | q :: ps, t, j + 1, h => by
    have := fl2_get ps t j (by simpa using h)
    rw [show 2 * (j + 1) = 2 * j + 1 + 1 by omega]
    exact this
theorem fl2_end : ∀ (ps : List (SI × SI)) (x : SI), (fl2 ps ++ [x]).getD (2 * ps.length) default = x
  | [], x => rfl
  | q :: ps, x => by
    have := fl2_end ps x
    rw [List.length_cons, show 2 * (ps.length + 1) = 2 * ps.length + 1 + 1 by omega]
    exact this
theorem alt_get {N i : Nat} (h : i < N) : ((List.range N).map fun i : Nat => ((i % 2 : Nat) : Int)).getD i (-1) = ((i % 2 : Nat) : Int) := by simp [List.getD, h]
theorem sol_alt {s : SP} {f : Nat} {ps : List (SI × SI)} (hc : (s.fn f).code = fl2 ps ++ [⟨11, 0, 0, 0⟩]) (hw : (s.fn f).word = false) (h1 : ∀ q ∈ ps, tkS s f q.1 = some (0, 1) ∧ q.1.op ≠ 8 ∧ q.1.op ≠ 9 ∧ q.1.op ≠ 11) (h2 : ∀ q ∈ ps, q.2 = ⟨13, 0, 0, 0⟩) :
    Sol s f ((List.range (2 * ps.length + 1)).map fun i : Nat => ((i % 2 : Nat) : Int)) := by
  have hl : (s.fn f).code.length = 2 * ps.length + 1 := by rw [hc, List.length_append, fl2_len]; rfl
  have hm : ∀ {j : Nat}, j < ps.length → ps.getD j default ∈ ps := fun {j} h => by rw [List.getD, List.getElem?_eq_getElem h]; exact List.getElem_mem h
  refine ⟨fun e => by rw [e] at hl; simp at hl, by simp [hl], alt_get (by omega), fun i hi _ => ?_⟩
  rw [List.length_map, List.length_range] at hi
  unfold Cl
  rw [alt_get hi, hl, hc]
  by_cases he : i = 2 * ps.length
  · subst he
    rw [fl2_end]
    refine ⟨0, ?_, fun k hk => ?_⟩
    · unfold effD tkS
      rw [hw]
      simp [cntB]
    · simp [nextL] at hk
  · obtain ⟨j, e | e⟩ : ∃ j, i = 2 * j ∨ i = 2 * j + 1 := ⟨i / 2, by omega⟩
    · subst e
      obtain ⟨g1, g2⟩ := fl2_get ps [⟨11, 0, 0, 0⟩] j (by omega)
      obtain ⟨a1, a2, a3, a4⟩ := h1 _ (hm (show j < ps.length by omega))
      rw [g1]
      have em : ((2 * j % 2 : Nat) : Int) = 0 := by omega
      refine ⟨1, ?_, fun k hk => ?_⟩
      · unfold effD
        rw [a1, em]
        simp []
      · unfold nextL at hk
        rw [if_neg a2, if_neg a3, if_neg a4] at hk
        obtain rfl := List.mem_singleton.1 hk
        rw [show (((2 * j : Nat) : Int) + 1).toNat = 2 * j + 1 by omega, alt_get (by omega)]
        exact ⟨by omega, by omega, by omega⟩
    · subst e
      obtain ⟨g1, g2⟩ := fl2_get ps [⟨11, 0, 0, 0⟩] j (by omega)
      rw [g2, h2 _ (hm (show j < ps.length by omega))]
      have em : (((2 * j + 1) % 2 : Nat) : Int) = 1 := by omega
      refine ⟨0, ?_, fun k hk => ?_⟩
      · unfold effD tkS
        rw [em]
        simp
      · simp only [nextL, Int.reduceEq, if_false, List.mem_singleton] at hk
        subst hk
        rw [show (((2 * j + 1 : Nat) : Int) + 1).toNat = 2 * j + 2 by omega, alt_get (by omega)]
        exact ⟨by omega, by omega, by omega⟩
section
variable {W v : Int} {m p : Nat}
theorem lg_fn {f : Nat} (h : f < m) : (lgP W m v p).fn f = lgF W f := by
  unfold SP.fn lgP
  rw [List.getD, List.getElem?_append_left (by simpa using h)]
  simp [h]
theorem lg_last : (lgP W m v p).fn m = lgM m v p := by
  unfold SP.fn lgP
  rw [List.getD, List.getElem?_append_right (by simp)]
  simp
theorem lg_len : (lgP W m v p).funcs.length = m + 1 := by simp [lgP]
theorem lgF_len (W : Int) (f : Nat) : (lgF W f).code.length = 2 + f % 2 := by
  unfold lgF
  by_cases e : f % 2 = 0
  · simp only [if_pos e]; simp [e]
  · simp only [if_neg e]
    have : f % 2 = 1 := by omega
    simp [this]
theorem lg_ps {q : SI × SI} (hq : q ∈ preP m ++ numP v p) : q.2 = ⟨13, 0, 0, 0⟩ ∧ ((0 < m ∧ q.1 = ⟨10, 0, 0, 0⟩) ∨ ∃ j < p, q.1 = ⟨1, 0, 0, v - 2 * (j : Nat)⟩) := by
  rcases List.mem_append.1 hq with h | h
  · unfold preP at h
    split at h
    · rename_i h0
      rw [List.mem_singleton.1 h]; exact ⟨rfl, .inl ⟨h0, rfl⟩⟩
    · cases h
  · unfold numP at h
    obtain ⟨j, hj, rfl⟩ := List.mem_map.1 h
    exact ⟨rfl, .inr ⟨j, List.mem_range.1 hj, rfl⟩⟩
theorem fl2_mem {ps : List (SI × SI)} {x : SI} (h : x ∈ fl2 ps) : ∃ q ∈ ps, x = q.1 ∨ x = q.2 := by
  obtain ⟨q, hq, hx⟩ := List.mem_flatMap.1 h
  simp at hx
  exact ⟨q, hq, hx⟩
theorem lg_right (hW : 1 ≤ W ∧ W ≤ 8000) (hm : m ≤ 62) : RightP (lgP W m v p) := by
  refine ⟨by show 0 ≤ W; omega, by show W ≤ 32768; omega, by rw [lg_len]; omega, by rw [lg_len]; omega, fun f hf => ?_, ?_, ?_⟩
  · rw [lg_len] at hf
    have hWs : (lgP W m v p).words = W := rfl
    by_cases h : f < m
    · have e := lg_fn (W := W) (v := v) (p := p) h
      refine ⟨⟨?_, ?_, ?_, ?_, ?_⟩, fits_of ?_, ?_⟩
      · rw [e]; exact Int.le_refl _
      · rw [e]; show 0 ≤ W / 2; omega
      · rw [e]; show 0 ≤ W / 4; omega
      · rw [e, hWs]; show W / 2 ≤ W; omega
      · rw [e, hWs]; show W / 4 ≤ W - W / 2; omega
      · rw [e]
        intro x hx
        unfold lgF at hx
        by_cases e2 : f % 2 = 0
        · simp only [if_pos e2, List.mem_cons, List.not_mem_nil, or_false] at hx
          rcases hx with rfl | rfl <;> (unfold FitsP; simp)
        · simp only [if_neg e2, List.mem_cons, List.not_mem_nil, or_false] at hx
          rcases hx with rfl | rfl | rfl <;> (unfold FitsP; simp [hWs])
          all_goals omega
      · by_cases e2 : f % 2 = 0
        · have hc : ((lgP W m v p).fn f).code = [⟨1, 0, 0, f⟩, ⟨11, 0, 0, 0⟩] := by rw [e]; unfold lgF; rw [if_pos e2]
          have hw : ((lgP W m v p).fn f).word = true := by rw [e]; unfold lgF; simp [e2]
          refine ⟨[0, 1], by rw [hc]; simp, by rw [hc]; rfl, rfl, fun i hi _ => ?_⟩
          unfold Cl
          rw [hc]
          have hi2 : i < 2 := hi
          match i with
          | 0 => exact ⟨1, by simp [effD, tkS], fun k hk => by simp [nextL] at hk; subst hk; simp⟩
          | 1 => exact ⟨0, by simp [effD, tkS, hw, cntB], fun k hk => by simp [nextL] at hk⟩
        · have hc : ((lgP W m v p).fn f).code = [⟨1, 0, 0, f⟩, ⟨3, W - 1, 0, 0⟩, ⟨11, 0, 0, 0⟩] := by rw [e]; unfold lgF; rw [if_neg e2]
          have hw : ((lgP W m v p).fn f).word = false := by rw [e]; unfold lgF; simp [e2]
          refine ⟨[0, 1, 0], by rw [hc]; simp, by rw [hc]; rfl, rfl, fun i hi _ => ?_⟩
          unfold Cl
          rw [hc]
          have hi2 : i < 3 := hi
          match i with
          | 0 => exact ⟨1, by simp [effD, tkS], fun k hk => by simp [nextL] at hk; subst hk; simp⟩
          | 1 => exact ⟨0, by simp [effD, tkS], fun k hk => by simp [nextL] at hk; subst hk; simp⟩
          | 2 => exact ⟨0, by simp [effD, tkS, hw, cntB], fun k hk => by simp [nextL] at hk⟩
    · obtain rfl : f = m := by omega
      have e := lg_last (W := W) (m := f) (v := v) (p := p)
      refine ⟨⟨?_, ?_, ?_, ?_, ?_⟩, fits_of ?_, ?_⟩
      · rw [e]; exact Int.le_refl _
      · rw [e]; exact Int.le_refl _
      · rw [e]; exact Int.le_refl _
      · rw [e, hWs]; show (0 : Int) ≤ W; omega
      · rw [e, hWs]; show (0 : Int) ≤ W - 0; omega
      · rw [e]
        intro x hx
        show FitsP _ f x
        rcases List.mem_append.1 (show x ∈ fl2 (preP f ++ numP v p) ++ [⟨11, 0, 0, 0⟩] from hx) with hx | hx
        · obtain ⟨q, hq, hx⟩ := fl2_mem hx
          obtain ⟨h2, h1⟩ := lg_ps hq
          rcases hx with rfl | rfl
          · rcases h1 with ⟨h0, h1⟩ | ⟨j, _, h1⟩
            · rw [h1]; unfold FitsP; simp; omega
            · rw [h1]; unfold FitsP; simp
          · rw [h2]; unfold FitsP; simp
        · rw [List.mem_singleton.1 hx]; unfold FitsP; simp
      · refine ⟨_, sol_alt (ps := preP f ++ numP v p) (by rw [e]; rfl) (by rw [e]; rfl) (fun q hq => ?_) fun q hq => (lg_ps hq).1⟩
        rcases (lg_ps hq).2 with ⟨h0, h1⟩ | ⟨j, _, h1⟩
        · have e0 := lg_fn (W := W) (v := v) (p := p) h0
          rw [h1]
          refine ⟨?_, by decide, by decide, by decide⟩
          unfold tkS
          simp only [Int.reduceEq, if_false, if_true, or_self, Int.le_refl, true_and]
          rw [if_pos (by rw [lg_len]; omega)]
          show some (((lgP W f v p).fn 0).params, ((cntB ((lgP W f v p).fn 0).word : Nat) : Int)) = _
          rw [e0]; rfl
        · rw [h1]
          exact ⟨by simp [tkS], by simp, by simp, by simp⟩
  · rw [lg_len, Nat.add_sub_cancel, lg_last]; rfl
  · rw [lg_len, Nat.add_sub_cancel, lg_last]; rfl
theorem lg_tot (W : Int) : ∀ m, totS lenF ((List.range m).map (lgF W)) = lgN m
  | 0 => rfl
  | m + 1 => by
    have := lg_tot W m
    unfold totS at this ⊢
    rw [List.range_succ, List.map_append, List.map_append, List.sum_append, this]
    simp only [List.map_cons, List.map_nil, List.sum_cons, List.sum_nil]
    show lgN m + ((lgF W m).code.length + 0) = _
    rw [lgF_len]
    unfold lgN; omega
theorem lg_params (k : Nat) : ((lgP W m v p).fn k).params = 0 := by
  by_cases h : k < m
  · rw [lg_fn h]; rfl
  · by_cases h2 : k = m
    · subst h2; rw [lg_last]; rfl
    · unfold SP.fn
      rw [List.getD, List.getElem?_eq_none (by rw [lg_len]; omega)]; rfl
theorem lg_size : sizeN (lgP W m v p) = lgN m + (2 * ((preP m).length + p) + 1) := by
  unfold sizeN lgP
  have h := lg_tot W m
  unfold totS at h ⊢
  rw [List.map_append, List.sum_append, h]
  show lgN m + ((lgM m v p).code.length + 0) = _
  unfold lgM
  simp only
  rw [List.length_append, fl2_len, List.length_append]
  simp [numP]
theorem lg_sz (hW : 1 ≤ W ∧ W ≤ 8000) (hm : m ≤ 62) (hv : v ≤ 100000 ∧ 2 * (p : Int) ≤ v) (hn : lgN m + (2 * ((preP m).length + p) + 1) ≤ 2000) : SzP (lgP W m v p) := by
  refine ⟨lg_right hW hm, fun g hg x hx => ?_, hW.2, by rw [lg_size]; exact hn, ?_⟩
  · rcases List.mem_append.1 (show g ∈ (List.range m).map (lgF W) ++ [lgM m v p] from hg) with hg | hg
    · obtain ⟨f, hf, rfl⟩ := List.mem_map.1 hg
      have hf := List.mem_range.1 hf
      unfold lgF at hx
      by_cases e2 : f % 2 = 0
      · simp only [if_pos e2, List.mem_cons, List.not_mem_nil, or_false] at hx
        rcases hx with rfl | rfl <;> exact ⟨by simp only; omega, by simp only; omega⟩
      · simp only [if_neg e2, List.mem_cons, List.not_mem_nil, or_false] at hx
        rcases hx with rfl | rfl | rfl <;> exact ⟨by simp only; omega, by simp only; omega⟩
    · rw [List.mem_singleton.1 hg] at hx
      rcases List.mem_append.1 (show x ∈ fl2 (preP m ++ numP v p) ++ [⟨11, 0, 0, 0⟩] from hx) with hx | hx
      · obtain ⟨q, hq, hx⟩ := fl2_mem hx
        obtain ⟨h2, h1⟩ := lg_ps hq
        rcases hx with rfl | rfl
        · rcases h1 with ⟨h0, h1⟩ | ⟨j, hj, h1⟩
          · rw [h1]; exact ⟨by decide, by decide⟩
          · rw [h1]; exact ⟨by simp only; omega, by simp only; omega⟩
        · rw [h2]; exact ⟨by decide, by decide⟩
      · rw [List.mem_singleton.1 hx]; exact ⟨by decide, by decide⟩
  · have : ∀ l : List SI, hndL (lgP W m v p) l = 0 := fun l => by
      unfold hndL
      induction l with
      | nil => rfl
      | cons x l ih =>
        simp only [List.map_cons, List.sum_cons, ih, hndI, lg_params]
        split <;> rfl
    have h2 : ∀ l : List SF, totS (fun g => hndL (lgP W m v p) g.code) l = 0 := fun l => by
      unfold totS
      induction l with
      | nil => rfl
      | cons x l ih => rw [List.map_cons, List.sum_cons, this, ih]
    unfold hndN
    rw [h2]; omega
end
end Go.Proofs.Ytaedcpipilnpcaa
namespace Go.Proofs.Ytaedcpipilnpcaa
set_option linter.unusedSimpArgs false
set_option linter.unusedVariables false
set_option maxRecDepth 10000
open Go.V
def hpR (sw : Bool) (o0 o1 mem calls mach : VObj) (T : List VObj) : List VObj := o0 :: o1 :: (if sw then mem else calls) :: (if sw then calls else mem) :: mach :: T
def mi (sw : Bool) : Nat := if sw then 2 else 3
def ci (sw : Bool) : Nat := if sw then 3 else 2
section
variable {sw : Bool} {o0 o1 mem calls mach x : VObj} {T : List VObj} {k : Nat}
theorem q_mach : (hpR sw o0 o1 mem calls mach T)[4]? = some mach := rfl
theorem q_1 : (hpR sw o0 o1 mem calls mach T)[1]? = some o1 := rfl
theorem q_mem : (hpR sw o0 o1 mem calls mach T)[mi sw]? = some mem := by cases sw <;> rfl
theorem q_calls : (hpR sw o0 o1 mem calls mach T)[ci sw]? = some calls := by cases sw <;> rfl
theorem q_T : (hpR sw o0 o1 mem calls mach T)[k + 5]? = T[k]? := rfl
theorem q_len : (hpR sw o0 o1 mem calls mach T).length = T.length + 5 := rfl
theorem q_add : hpR sw o0 o1 mem calls mach T ++ [x] = hpR sw o0 o1 mem calls mach (T ++ [x]) := rfl
theorem qs_mach : (hpR sw o0 o1 mem calls mach T).set 4 x = hpR sw o0 o1 mem calls x T := rfl
theorem qs_1 : (hpR sw o0 o1 mem calls mach T).set 1 x = hpR sw o0 x mem calls mach T := rfl
theorem qs_mem : (hpR sw o0 o1 mem calls mach T).set (mi sw) x = hpR sw o0 o1 x calls mach T := by cases sw <;> rfl
theorem qs_calls : (hpR sw o0 o1 mem calls mach T).set (ci sw) x = hpR sw o0 o1 mem x mach T := by cases sw <;> rfl
theorem qs_T : (hpR sw o0 o1 mem calls mach T).set (k + 5) x = hpR sw o0 o1 mem calls mach (T.set k x) := rfl
end
def idOf : AV → Option Nat
  | .ref id _ _ _ => some id
  | _ => none
def UpT (T T' : List VObj) (v v' : AV) : Prop :=
  (∀ (k : Nat) (ob : VObj), T[k]? = some ob → idOf v ≠ some (k + 5) → T'[k]? = some ob) ∧ (idOf v' = idOf v ∨ ∃ k, idOf v' = some (k + 5) ∧ T.length ≤ k)
def FA (T : List VObj) : List Fm → List AV → Prop
  | [], vs => vs = []
  | c :: fs, vs => ∃ v l, vs = v :: l ∧ PW T v c.L ∧ FA T fs l ∧ ∀ u ∈ l, idOf u = none ∨ idOf u ≠ idOf v
theorem PW.get {T : List VObj} {v : AV} {l : List Int} {k : Nat} (h : PW T v l) (hv : idOf v = some (k + 5)) : ∃ ob : VObj, T[k]? = some ob ∧ ob.ty = 30 := by
  rcases h with ⟨rfl, _⟩ | ⟨k', s, rest, rfl, h2, _⟩
  · cases hv
  · simp only [idOf, Option.some.injEq] at hv
    obtain rfl : k = k' := by omega
    exact ⟨_, h2, rfl⟩
theorem PW.up {T T' : List VObj} {v v' u : AV} {l : List Int} (h : PW T u l) (k : UpT T T' v v') (hn : idOf u = none ∨ idOf u ≠ idOf v) : PW T' u l := by
  rcases h with h | ⟨k0, s, rest, rfl, h2, h3⟩
  · exact .inl h
  · refine .inr ⟨k0, s, rest, rfl, k.1 _ _ h2 fun e => ?_, h3⟩
    rcases hn with hn | hn
    · cases hn
    · exact hn e.symm
theorem FA.up {T T' : List VObj} {v v' : AV} (k : UpT T T' v v') : ∀ {fs : List Fm} {vs : List AV}, FA T fs vs → (∀ u ∈ vs, idOf u = none ∨ idOf u ≠ idOf v) → FA T' fs vs ∧ ∀ u ∈ vs, idOf u = none ∨ idOf u ≠ idOf v'
  | [], vs, h, _ => by simp only [FA] at h; subst h; exact ⟨rfl, by simp⟩
  | c :: fs, vs, h, hn => by
    simp only [FA] at h
    obtain ⟨u, l, rfl, h1, h2, h3⟩ := h
    obtain ⟨g1, g2⟩ := FA.up k h2 fun x hx => hn x (List.mem_cons_of_mem _ hx)
    refine ⟨⟨u, l, rfl, h1.up k (hn u (by simp)), g1, h3⟩, fun x hx => ?_⟩
    rcases List.mem_cons.1 hx with rfl | hx
    · rcases k.2 with e | ⟨j, e, hj⟩
      · rw [e]; exact hn x (by simp)
      · rw [e]
        cases hx : idOf x with
        | none => exact .inl rfl
        | some i =>
          refine .inr fun e2 => ?_
          cases e2
          obtain ⟨ob, ho, _⟩ := h1.get hx
          have := (List.getElem?_eq_some_iff.1 ho).1
          omega
    · exact g2 x hx
theorem PO.up {T T' : List VObj} {v v' u : AV} {l : List UInt8} {m : List Int} (h : PO T u l) (hv : PW T v m) (k : UpT T T' v v') : PO T' u l := by
  rcases h with h | ⟨k0, s, rfl, h2⟩
  · exact .inl h
  · refine .inr ⟨k0, s, rfl, k.1 _ _ h2 fun e => ?_⟩
    obtain ⟨ob, g1, g2⟩ := hv.get e
    rw [h2] at g1; cases g1; exact absurd g2 (by show ¬ 5 = 30; decide)
theorem FA.add {T : List VObj} (R : List VObj) : ∀ {fs : List Fm} {vs : List AV}, FA T fs vs → FA (T ++ R) fs vs
  | [], vs, h => by simp only [FA] at h; subst h; rfl
  | c :: fs, vs, h => by
    simp only [FA] at h
    obtain ⟨u, l, rfl, h1, h2, h3⟩ := h
    exact ⟨u, l, rfl, h1.add R, FA.add R h2, h3⟩
theorem UpT.same {T : List VObj} {v v' : AV} (h : idOf v' = idOf v) : UpT T T v v' := ⟨fun _ _ h _ => h, .inl h⟩
abbrev frO (sc : Nat) (cs : List AV) : VObj := ⟨sc, 69, 3, cs⟩
abbrev rmO (sM : Nat) (cs : List AV) : VObj := ⟨sM, 73, 1, cs⟩
section
variable {bel junk : List AV} {F A v : AV} {t : Nat}
theorem fr_len (ht : bel.length = t * 3) : (bel ++ F :: A :: v :: junk).length = t * 3 + 3 + junk.length := by simp [ht]; omega
theorem fr_0 (ht : bel.length = t * 3) {C : AV → Prop} : cellT (bel ++ F :: A :: v :: junk) (t * 3) false 1 C .mk = (F.one = true ∧ C F) := by
  have e : (bel ++ F :: A :: v :: junk).getD (t * 3) .dead = F := by rw [← ht]; simp [List.getD]
  simp only [cellT, cellW, partOK, partA, e, fr_len ht]; simp <;> omega
theorem fr_1 (ht : bel.length = t * 3) {C : AV → Prop} : cellT (bel ++ F :: A :: v :: junk) (t * 3 + 1) false 1 C .mk = (A.one = true ∧ C A) := by
  have e : (bel ++ F :: A :: v :: junk).getD (t * 3 + 1) .dead = A := by rw [← ht, List.getD, List.getElem?_append_right (by omega)]; simp
  simp only [cellT, cellW, partOK, partA, e, fr_len ht]; simp <;> omega
theorem fr_2 (ht : bel.length = t * 3) {C : AV → Prop} : cellT (bel ++ F :: A :: v :: junk) (t * 3 + 2) false 1 C .mk = (v.one = true ∧ C v) := by
  have e : (bel ++ F :: A :: v :: junk).getD (t * 3 + 2) .dead = v := by rw [← ht, List.getD, List.getElem?_append_right (by omega)]; simp
  simp only [cellT, cellW, partOK, partA, e, fr_len ht]; simp <;> omega
theorem fr_all (ht : bel.length = t * 3) {C : AV → Prop} : cellT (bel ++ F :: A :: v :: junk) (t * 3) true 3 C .mk = C (.agg [F, A, v]) := by
  have e : (bel ++ F :: A :: v :: junk).drop (t * 3) = F :: A :: v :: junk := by rw [← ht, List.drop_left]
  simp only [cellT, cellW, partOK, partA, e, if_true, fr_len ht]; simp <;> omega
theorem frs_1 (ht : bel.length = t * 3) {x : AV} : (bel ++ F :: A :: v :: junk).set (t * 3 + 1) x = bel ++ F :: x :: v :: junk := by
  rw [← ht, List.set_append_right _ _ (by omega)]; simp
theorem frs_2 (ht : bel.length = t * 3) {x : AV} : (bel ++ F :: A :: v :: junk).set (t * 3 + 2) x = bel ++ F :: A :: x :: junk := by
  rw [← ht, List.set_append_right _ _ (by omega)]; simp
end
section
variable (sw : Bool) (o0 o1 mem : VObj) (sc sM nx : Nat) (bel junk : List AV) (F A v : AV) (t : Nat) (c0 c1 c2 c3 c4 c5 c6 c7 : AV) (T : List VObj)
theorem rjump_v (ht : bel.length = t * 3) (h2 : t ≤ 1000000) (a : Int) (C : AV → List VObj → Nat → Prop)
    (hC : ∀ r, C r (hpR sw o0 o1 mem (frO sc (bel ++ F :: I a :: v :: junk)) (rmO sM [c0, c1, c2, c3, c4, c5, c6, c7, .ref (ci sw) sc 0 (t + 1)]) T) nx) :
    VCall Try.prog 33 [.ptr 4 sM 0, I a] (hpR sw o0 o1 mem (frO sc (bel ++ F :: A :: v :: junk)) (rmO sM [c0, c1, c2, c3, c4, c5, c6, c7, .ref (ci sw) sc 0 (t + 1)]) T) nx C := by
  refine VCall.of_body hmix f_scref20_M_jump (by simp) ?_
  have e1 : IntKind.i64.wrap (((t + 1 : Nat) : Int) - 1) = (t : Int) := by rw [i64_in (by omega) (by omega)]; omega
  simp only [go_sem, Nat.reduceEqDiff, Nat.reduceAdd, ↓reduceIte, reduceCtorEq, c_scref20_M_jump, q_mach, q_calls, qs_calls, e1, frs_1 ht, fr_len ht]
  repeat (refine And.intro (by omega) ?_)
  exact hC _
theorem rpush_v (ht : bel.length = t * 3) (h2 : t ≤ 1000000) (l : List Int) (x : Int) (hl : l.length ≤ 1000000) (h : PW T v l) (C : AV → List VObj → Nat → Prop)
    (hC : ∀ r T' v' nx', PW T' v' (x :: l) → UpT T T' v v' → C r (hpR sw o0 o1 mem (frO sc (bel ++ F :: A :: v' :: junk)) (rmO sM [c0, c1, c2, c3, c4, c5, c6, c7, .ref (ci sw) sc 0 (t + 1)]) T') nx') :
    VCall Try.prog 34 [.ptr 4 sM 0, U32 x] (hpR sw o0 o1 mem (frO sc (bel ++ F :: A :: v :: junk)) (rmO sM [c0, c1, c2, c3, c4, c5, c6, c7, .ref (ci sw) sc 0 (t + 1)]) T) nx C := by
  refine VCall.of_body hmix f_scref20_M_push (by simp) ?_
  have hmx : (2000000 : Nat) ≤ maxLen := by decide
  have e1 : IntKind.i64.wrap (((t + 1 : Nat) : Int) - 1) = (t : Int) := by rw [i64_in (by omega) (by omega)]; omega
  rcases h with ⟨rfl, rfl⟩ | ⟨k, s, rest, rfl, hT, hr1⟩
  · have key : ∀ r, C r (hpR sw o0 o1 mem (frO sc (bel ++ F :: A :: AV.ref (T.length + 1 + 5) (nx + 1) 0 1 :: junk)) (rmO sM [c0, c1, c2, c3, c4, c5, c6, c7, .ref (ci sw) sc 0 (t + 1)]) (T ++ [(⟨nx, 30, 1, [U32 x]⟩ : VObj)] ++ [(⟨nx + 1, 30, 1, [U32 x]⟩ : VObj)])) (nx + 1 + 1) := fun r => by
      have hU : UpT T (T ++ [(⟨nx, 30, 1, [U32 x]⟩ : VObj)] ++ [(⟨nx + 1, 30, 1, [U32 x]⟩ : VObj)]) nilv (.ref (T.length + 1 + 5) (nx + 1) 0 1) := ⟨fun k ob hk _ => by
        rw [List.append_assoc, List.getElem?_append_left (List.getElem?_eq_some_iff.1 hk).1]; exact hk, .inr ⟨T.length + 1, rfl, by omega⟩⟩
      exact hC r _ _ _ (.inr ⟨T.length + 1, nx + 1, [], rfl, by rw [pg1]; rfl, rfl⟩) hU
    simp only [go_sem, Nat.reduceEqDiff, Nat.reduceAdd, Nat.reduceMul, ↓reduceIte, ↓dreduceIte, reduceCtorEq, Nat.reduceLeDiff, c_scref20_M_push, q_mach, q_calls, qs_calls, q_len, q_add, q_T, e1, frs_2 ht, fr_2 ht, fr_len ht, ponx, pg0]
    repeat' apply And.intro
    all_goals first | omega | rfl | exact key _
  · have hk := (List.getElem?_eq_some_iff.1 hT).1
    have hT2 : ∀ y : VObj, (T ++ [y])[k]? = some ⟨s, 30, 1, l.reverse.map U32 ++ rest⟩ := fun y => by rw [List.getElem?_append_left hk]; exact hT
    have htk : List.take l.length (l.reverse.map U32 ++ rest) = l.reverse.map U32 := by rw [List.take_append_of_le_length (by simp)]; simp [List.take_of_length_le]
    have key : ∀ r, C r (hpR sw o0 o1 mem (frO sc (bel ++ F :: A :: AV.ref (k + 5) (nx + 1) 0 (l.length + 1) :: junk)) (rmO sM [c0, c1, c2, c3, c4, c5, c6, c7, .ref (ci sw) sc 0 (t + 1)]) ((T ++ [(⟨nx, 30, 1, [U32 x]⟩ : VObj)]).set k ⟨nx + 1, 30, 1, l.reverse.map U32 ++ [U32 x]⟩)) (nx + 1 + 1) := fun r => by
      have hU : UpT T ((T ++ [(⟨nx, 30, 1, [U32 x]⟩ : VObj)]).set k ⟨nx + 1, 30, 1, l.reverse.map U32 ++ [U32 x]⟩) (.ref (k + 5) s 0 l.length) (.ref (k + 5) (nx + 1) 0 (l.length + 1)) := ⟨fun j ob hj hne => by
        have : k ≠ j := fun e => hne (by rw [e]; rfl)
        rw [List.getElem?_set, if_neg this, List.getElem?_append_left (List.getElem?_eq_some_iff.1 hj).1]; exact hj, .inl rfl⟩
      refine hC r _ _ _ (.inr ⟨k, nx + 1, [], rfl, ?_, rfl⟩) hU
      rw [List.getElem?_set, if_pos rfl, if_pos (by simp; omega)]; simp
    simp only [go_sem, Nat.reduceEqDiff, Nat.reduceAdd, ↓reduceIte, ↓dreduceIte, reduceCtorEq, Nat.reduceLeDiff, c_scref20_M_push, q_mach, q_calls, qs_calls, q_len, q_add, q_T, qs_T, e1, frs_2 ht, fr_2 ht, fr_len ht, pg0, hT2, htk]
    repeat' apply And.intro
    all_goals first | omega | rfl | exact key _
theorem rpop_v (ht : bel.length = t * 3) (h2 : t ≤ 1000000) (l : List Int) (x : Int) (hl : l.length ≤ 1000000) (h : PW T v (x :: l)) (C : AV → List VObj → Nat → Prop)
    (hC : ∀ v', PW T v' l → idOf v' = idOf v → C (U32 x) (hpR sw o0 o1 mem (frO sc (bel ++ F :: A :: v' :: junk)) (rmO sM [c0, c1, c2, c3, c4, c5, c6, c7, .ref (ci sw) sc 0 (t + 1)]) T) nx) :
    VCall Try.prog 35 [.ptr 4 sM 0] (hpR sw o0 o1 mem (frO sc (bel ++ F :: A :: v :: junk)) (rmO sM [c0, c1, c2, c3, c4, c5, c6, c7, .ref (ci sw) sc 0 (t + 1)]) T) nx C := by
  refine VCall.of_body hmix f_scref20_M_pop (by simp) ?_
  have e1 : IntKind.i64.wrap (((t + 1 : Nat) : Int) - 1) = (t : Int) := by rw [i64_in (by omega) (by omega)]; omega
  rcases h with ⟨_, h⟩ | ⟨k, s, rest, rfl, hT, hr1⟩
  · cases h
  have e2 : (x :: l).reverse.map U32 ++ rest = l.reverse.map U32 ++ U32 x :: rest := by simp
  rw [e2] at hT
  have e1' : IntKind.i64.wrap ((t : Int) + 1 - 1) = (t : Int) := by rw [i64_in (by omega) (by omega)]; omega
  have hcell : ∀ C : AV → Prop, cellT (l.reverse.map U32 ++ U32 x :: rest) l.length false 1 C .mk = C (U32 x) := fun C => by
    have e : (l.reverse.map U32 ++ U32 x :: rest).getD l.length .dead = U32 x := by simp [List.getD]
    simp only [cellT, cellW, partOK, partA, e]; simp [AV.one, Value.oneCell']
  have e3' : IntKind.i64.wrap ((l.length : Int) + 1 - 1) = (l.length : Int) := by rw [i64_in (by omega) (by omega)]; omega
  simp only [go_sem, Nat.reduceEqDiff, Nat.reduceAdd, ↓reduceIte, ↓dreduceIte, reduceCtorEq, Int.reduceLE, c_scref20_M_pop, q_mach, q_calls, qs_calls, q_T, frs_2 ht, fr_2 ht, fr_len ht, hT, List.length_cons, Int.natCast_add, Int.cast_ofNat_Int, e1', e3', hcell]
  repeat (refine And.intro (by first | omega | rfl) ?_)
  exact hC _ (.inr ⟨k, s, _, rfl, hT, by simpa [AV.one, Value.oneCell'] using hr1⟩) rfl
end
end Go.Proofs.Ytaedcpipilnpcaa
namespace Go.Proofs.Ytaedcpipilnpcaa
set_option linter.unusedSimpArgs false
set_option linter.unusedVariables false
set_option maxRecDepth 10000
open Go.V
theorem putR_cons (m l : List Int) (j : Nat) (x : Int) (h : j + l.length < m.length) : (putR m (j + 1) l).set j x = putR m j (x :: l) := by
  have hj : (m.take j).length = j := by simp; omega
  have e1 : m.take (j + 1) = m.take j ++ [m.getD j default] := by
    rw [List.take_add_one, List.getElem?_eq_getElem (by omega)]; simp [List.getD, List.getElem?_eq_getElem (show j < m.length by omega)]
  unfold putR
  rw [e1, List.append_assoc, List.append_assoc, List.set_append_right _ _ (by omega), hj, Nat.sub_self]
  simp only [List.cons_append, List.nil_append, List.set_cons_zero, List.length_cons, List.append_assoc]
  rw [show j + 1 + l.length = j + (l.length + 1) by omega]
theorem putR_nil (m : List Int) (j : Nat) : putR m j [] = m := by simp [putR]
theorem ownW_get (g : SF) (L : List Int) (k : Nat) (hk : k < g.slots.toNat) (hp : g.params.toNat ≤ L.length) (hs : g.params.toNat ≤ g.slots.toNat) :
    (ownW g L).drop k = (if k < g.params.toNat then L.getD (g.params.toNat - 1 - k) default else 0) :: (ownW g L).drop (k + 1) := by
  have hl : (ownW g L).length = g.slots.toNat := by simp only [ownW, List.length_append, List.length_reverse, List.length_take, List.length_replicate]; omega
  rw [List.drop_eq_getElem_cons (by omega)]
  congr 1
  unfold ownW
  split
  · rename_i h
    rw [List.getElem_append_left (by simp; omega), List.getElem_reverse]
    simp only [List.getElem_take]
    rw [List.getD, List.getElem?_eq_getElem (by omega), Option.getD_some]
    congr 1
    simp; omega
  · rename_i h
    rw [List.getElem_append_right (by simp; omega)]
    simp
section
variable (sw : Bool) (o0 o1 : VObj) (s2 sc sM nx : Nat) (bel junk : List AV) (F A v : AV) (t : Nat) (s : SP) (c0 c2 c3 c5 c6 c7 : AV) (T : List VObj) (mem : List Int) (n : Nat)
theorem rcall_v (ht : bel.length = t * 3) (h2 : t ≤ 1000000) (a : Int) (ha : 0 ≤ a) (hb : a < s.funcs.length) (L : List Int) (hn : n = mem.length) (hg : CallOK (s.fn a.toNat) mem.length L.length) (hm : mem.length ≤ 1000000) (hl : L.length ≤ 1000000)
    (hF : F.one = true) (hA : A.one = true) (h : PW T v L) (C : AV → List VObj → Nat → Prop)
    (hC : ∀ r R v' sc' nx', PW (T ++ R) v' (L.drop (s.fn a.toNat).params.toNat) → idOf v' = idOf v →
      C r (hpR sw o0 o1 (wdO s2 (putR mem (s.fn a.toNat).first.toNat (ownW (s.fn a.toNat) L))) (frO sc' (bel ++ [F, A, v'] ++ I a :: I 0 :: nilv :: [])) (rmO sM [c0, fnsA s.funcs, c2, c3, .ref (mi sw) s2 0 n, c5, c6, c7, .ref (ci sw) sc' 0 (t + 1 + 1)]) (T ++ R)) nx') :
    VCall Try.prog 37 [.ptr 4 sM 0, I a] (hpR sw o0 o1 (wdO s2 mem) (frO sc (bel ++ F :: A :: v :: junk)) (rmO sM [c0, fnsA s.funcs, c2, c3, .ref (mi sw) s2 0 n, c5, c6, c7, .ref (ci sw) sc 0 (t + 1)]) T) nx C := by
  refine VCall.of_body hmix f_scref20_M_call (by simp) ?_
  have hfa : s.funcs.getD a.toNat default = s.fn a.toNat := rfl
  obtain ⟨g, hgg⟩ : ∃ g, s.fn a.toNat = g := ⟨_, rfl⟩
  rw [hgg] at hg hC hfa
  obtain ⟨g1, g2, g3, g4, g5⟩ := hg
  have hmx : (2000000 : Nat) ≤ maxLen := by decide
  have hol : (ownW g L).length = g.slots.toNat := ownW_length ⟨g1, g2, g3, g4, g5⟩ rfl
  simp only [go_sem, Nat.reduceEqDiff, Nat.reduceAdd, ↓reduceIte, reduceCtorEq, Nat.reduceLeDiff, c_scref20_M_call, q_mach, q_len, q_add, q_T, qs_T, pg0, ps0, hfa]
  repeat (refine And.intro (by omega) ?_)
  refine VW_loop (fun q : Nat × AV => ⟨[(0, .ptr 4 sM 0), (1, I a), (4, .ptr (T.length + 5) nx 0), (5, I q.1)],
      hpR sw o0 o1 (wdO s2 (putR mem (g.first.toNat + (g.slots.toNat - q.1)) ((ownW g L).drop (g.slots.toNat - q.1)))) (frO sc (bel ++ F :: A :: q.2 :: junk)) (rmO sM [c0, fnsA s.funcs, c2, c3, .ref (mi sw) s2 0 n, c5, c6, c7, .ref (ci sw) sc 0 (t + 1)])
        (T ++ [⟨nx, 29, 1, [I g.params, I g.slots, I g.first, B g.word, .imm 4 (g.code.map siA)]⟩]), nx + 1⟩)
    (fun q => q.1 ≤ g.slots.toNat ∧ PW (T ++ [⟨nx, 29, 1, [I g.params, I g.slots, I g.first, B g.word, .imm 4 (g.code.map siA)]⟩]) q.2 (L.drop (q.1 - (g.slots.toNat - g.params.toNat))) ∧ idOf q.2 = idOf v) (fun q => g.slots.toNat - q.1)
    (0, v) (Wk.mk (by simp [get_cons]) ⟨[], ?_⟩ (Nat.le_refl _)) ⟨Nat.zero_le _, by simpa using h.add _, rfl⟩ ?_
  · simp only [Nat.sub_zero, List.append_nil]
    rw [List.drop_eq_nil_of_le (by omega), putR_nil]
  rintro ⟨i, v1⟩ ⟨h1, h3, h4⟩
  simp only at h1 h3 h4
  by_cases hi : (i : Int) < g.slots
  · have e1 : IntKind.i64.wrap (IntKind.i64.wrap (g.slots - 1) - (i : Int)) = ((g.slots.toNat - 1 - i : Nat) : Int) := by rw [i64_in (n := g.slots - 1) (by omega) (by omega), i64_in (by omega) (by omega)]; omega
    have e2 : IntKind.i64.wrap ((i : Int) + 1) = ((i + 1 : Nat) : Int) := by rw [i64_in (by omega) (by omega)]; omega
    have e3 : IntKind.i64.wrap (g.first + ((g.slots.toNat - 1 - i : Nat) : Int)) = ((g.first.toNat + (g.slots.toNat - 1 - i) : Nat) : Int) := by rw [i64_in (by omega) (by omega)]; omega
    have hk := ownW_get g L (g.slots.toNat - 1 - i) (by omega) (by omega) (by omega)
    rw [show g.slots.toNat - 1 - i + 1 = g.slots.toNat - i by omega] at hk
    have hplen : ∀ j l, j + l.length ≤ mem.length → (putR mem j l).length = mem.length := fun j l hjl => putR_length hjl
    have hset : ∀ w, (ownW g L).drop (g.slots.toNat - 1 - i) = w :: (ownW g L).drop (g.slots.toNat - i) →
        ((putR mem (g.first.toNat + (g.slots.toNat - i)) ((ownW g L).drop (g.slots.toNat - i))).map U32).set (g.first.toNat + (g.slots.toNat - 1 - i)) (U32 w) = (putR mem (g.first.toNat + (g.slots.toNat - (i + 1))) ((ownW g L).drop (g.slots.toNat - (i + 1)))).map U32 := fun w hw => by
      rw [set_map U32]
      congr 1
      rw [show g.slots.toNat - (i + 1) = g.slots.toNat - 1 - i by omega, hw, ← putR_cons _ _ _ _ (by simp only [List.length_drop, hol]; omega)]
      rw [show g.first.toNat + (g.slots.toNat - i) = g.first.toNat + (g.slots.toNat - 1 - i) + 1 by omega]
    have hpl : (putR mem (g.first.toNat + (g.slots.toNat - i)) ((ownW g L).drop (g.slots.toNat - i))).length = mem.length := hplen _ _ (by simp only [List.length_drop, hol]; omega)
    by_cases hp : ((g.slots.toNat - 1 - i : Nat) : Int) < g.params
    · have hdr : L.drop (i - (g.slots.toNat - g.params.toNat)) = L.getD (g.params.toNat - 1 - (g.slots.toNat - 1 - i)) default :: L.drop (i + 1 - (g.slots.toNat - g.params.toNat)) := by
        rw [List.drop_eq_getElem_cons (by omega)]
        congr 1
        · rw [List.getD, List.getElem?_eq_getElem (by omega), Option.getD_some]; congr 1; omega
        · congr 1; omega
      rw [if_pos (by omega)] at hk
      rw [hdr] at h3
      simp only [go_sem, Nat.reduceEqDiff, Nat.reduceAdd, ↓reduceIte, ↓dreduceIte, reduceCtorEq, Nat.reduceLeDiff, q_T, pg0, eq_true hi, e1, eq_true hp]
      refine rpop_v sw o0 o1 _ sc sM _ bel junk F A v1 t c0 _ c2 c3 _ c5 c6 c7 _ ht h2 _ _ (by simp; omega) h3 _ fun v' k1 k2 => ?_
      simp only [go_sem, Nat.reduceEqDiff, Nat.reduceAdd, ↓reduceIte, reduceCtorEq, Nat.reduceLeDiff, q_mach, q_mem, qs_mem, q_T, pg0, e1, e3, e2, hset _ hk, hpl]
      repeat (refine And.intro (by omega) ?_)
      exact ⟨(i + 1, v'), ⟨by simp only; omega, k1, k2.trans h4⟩, by simp only; omega, Wk.mk (by simp [get_cons]) ⟨[], (List.append_nil _).symm⟩ (Nat.le_refl _)⟩
    · rw [if_neg (by omega)] at hk
      rw [show i - (g.slots.toNat - g.params.toNat) = i + 1 - (g.slots.toNat - g.params.toNat) by omega] at h3
      simp only [go_sem, Nat.reduceEqDiff, Nat.reduceAdd, ↓reduceIte, reduceCtorEq, Nat.reduceLeDiff, q_mach, q_mem, qs_mem, q_T, pg0, eq_true hi, e1, eq_false hp, e3, e2, hset _ hk, hpl]
      repeat (refine And.intro (by omega) ?_)
      exact ⟨(i + 1, v1), ⟨by simp only; omega, h3, h4⟩, by simp only; omega, Wk.mk (by simp [get_cons]) ⟨[], (List.append_nil _).symm⟩ (Nat.le_refl _)⟩
  · obtain rfl : i = g.slots.toNat := by omega
    rw [show g.slots.toNat - (g.slots.toNat - g.params.toNat) = g.params.toNat by omega] at h3
    have hv1 := h3.one
    have htk : (bel ++ F :: A :: v1 :: junk).take ((t + 1) * 3) = bel ++ [F, A, v1] := by
      rw [show (t + 1) * 3 = bel.length + 3 by omega, List.take_length_add_append]; rfl
    simp only [go_sem, Nat.reduceEqDiff, Nat.reduceAdd, Nat.reduceMul, ↓reduceIte, reduceCtorEq, Nat.reduceLeDiff, q_mach, q_calls, qs_calls, qs_mach, q_len, q_add, q_T, ponx, pg0, pg1, eq_false hi, Nat.sub_self, htk]
    repeat (refine And.intro (by first | omega | rfl) ?_)
    have := hC (AV.tup []) [⟨nx, 29, 1, [I g.params, I g.slots, I g.first, B g.word, .imm 4 (g.code.map siA)]⟩, ⟨nx + 1, 69, 3, [I a, I 0, nilv]⟩] v1 (nx + 1 + 1) (nx + 1 + 1 + 1) (by simpa using h3.add [⟨nx + 1, 69, 3, [I a, I 0, nilv]⟩]) h4
    simpa using this
theorem rret_v (ht : bel.length = t * 3) (h2 : t ≤ 1000000) (f : Nat) (hf : f < s.funcs.length) (L : List Int) (hL : L.length = cntB (s.fn f).word) (h : PW T v L) (m4 : AV) (C : AV → List VObj → Nat → Prop)
    (hC0 : t = 0 → ∀ r co cr, cr.one = true → C r (hpR sw o0 o1 (wdO s2 mem) co (rmO sM [c0, fnsA s.funcs, c2, c3, m4, c5, c6, I 1, cr]) T) nx)
    (hC1 : ∀ u, t = u + 1 → ∃ bel2 F2 A2 v2 l2, bel = bel2 ++ [F2, A2, v2] ∧ bel2.length = u * 3 ∧ PW T v2 l2 ∧ l2.length ≤ 900000 ∧ (idOf v2 = none ∨ idOf v2 ≠ idOf v) ∧
      ∀ r T' v' junk' nx', PW T' v' ((if (s.fn f).word then [L.headD 0] else []) ++ l2) → UpT T T' v2 v' →
        C r (hpR sw o0 o1 (wdO s2 mem) (frO sc (bel2 ++ F2 :: A2 :: v' :: junk')) (rmO sM [c0, fnsA s.funcs, c2, c3, m4, c5, c6, c7, .ref (ci sw) sc 0 (u + 1)]) T') nx') :
    VCall Try.prog 38 [.ptr 4 sM 0] (hpR sw o0 o1 (wdO s2 mem) (frO sc (bel ++ I f :: A :: v :: junk)) (rmO sM [c0, fnsA s.funcs, c2, c3, m4, c5, c6, c7, .ref (ci sw) sc 0 (t + 1)]) T) nx C := by
  refine VCall.of_body hmix f_scref20_M_ret (by simp) ?_
  have hfa : s.funcs.getD f default = s.fn f := rfl
  have e1 : IntKind.i64.wrap (((t + 1 : Nat) : Int) - 1) = (t : Int) := by rw [i64_in (by omega) (by omega)]; omega
  have hvo := h.one
  have hone : (AV.ref (ci sw) sc 0 t).one = true := rfl
  cases hw : (s.fn f).word with
  | false =>
    simp only [hw] at hL hC1
    by_cases h0 : (t : Int) = 0
    · simp only [go_sem, Nat.reduceEqDiff, Nat.reduceAdd, ↓reduceIte, ↓dreduceIte, reduceCtorEq, Nat.reduceLeDiff, Int.reduceLE, q_mach, q_calls, qs_mach, c_scref20_M_ret, e1, hfa, hw, fr_0 ht, Nat.sub_zero, eq_true h0]
      repeat (refine And.intro (by first | omega | rfl) ?_)
      exact hC0 (by omega) _ _ _ hone
    · simp only [go_sem, Nat.reduceEqDiff, Nat.reduceAdd, ↓reduceIte, ↓dreduceIte, reduceCtorEq, Nat.reduceLeDiff, Int.reduceLE, q_mach, q_calls, qs_mach, c_scref20_M_ret, e1, hfa, hw, fr_0 ht, Nat.sub_zero, eq_false h0]
      repeat (refine And.intro (by first | omega | rfl) ?_)
      obtain ⟨bel2, F2, A2, v2, l2, rfl, b1, b2, b3, b4, b5⟩ := hC1 (t - 1) (by omega)
      have := b5 (AV.tup []) T v2 (I f :: A :: v :: junk) nx (by simpa using b2) (UpT.same rfl)
      rw [show t - 1 + 1 = t by omega] at this
      simpa using this
  | true =>
    simp only [hw] at hL hC1
    obtain ⟨x, rfl⟩ : ∃ x, L = [x] := by
      match L, hL with
      | [x], _ => exact ⟨x, rfl⟩
    by_cases h0 : (t : Int) = 0
    · simp only [go_sem, Nat.reduceEqDiff, Nat.reduceAdd, ↓reduceIte, ↓dreduceIte, reduceCtorEq, Nat.reduceLeDiff, q_mach, q_calls, c_scref20_M_ret, e1, hfa, hw, fr_0 ht]
      repeat (refine And.intro (by first | omega | rfl) ?_)
      refine rpop_v sw o0 o1 _ sc sM _ bel junk (I f) A v t c0 _ c2 c3 m4 c5 c6 c7 _ ht h2 [] x (by simp) h _ fun v' k1 k2 => ?_
      simp only [go_sem, Nat.reduceEqDiff, Nat.reduceAdd, ↓reduceIte, reduceCtorEq, Nat.reduceLeDiff, Int.reduceLE, q_mach, q_calls, qs_mach, e1, hfa, hw, Nat.sub_zero, eq_true h0]
      repeat (refine And.intro (by first | omega | rfl) ?_)
      exact hC0 (by omega) _ _ _ hone
    · obtain ⟨bel2, F2, A2, v2, l2, hbel, b1, b2, b3, b4, b5⟩ := hC1 (t - 1) (by omega)
      simp only [go_sem, Nat.reduceEqDiff, Nat.reduceAdd, ↓reduceIte, ↓dreduceIte, reduceCtorEq, Nat.reduceLeDiff, q_mach, q_calls, c_scref20_M_ret, e1, hfa, hw, fr_0 ht]
      repeat (refine And.intro (by first | omega | rfl) ?_)
      refine rpop_v sw o0 o1 _ sc sM _ bel junk (I f) A v t c0 _ c2 c3 m4 c5 c6 c7 _ ht h2 [] x (by simp) h _ fun v' k1 k2 => ?_
      simp only [go_sem, Nat.reduceEqDiff, Nat.reduceAdd, Nat.reduceMul, ↓reduceIte, ↓dreduceIte, reduceCtorEq, Int.reduceLE, q_mach, q_calls, qs_mach, e1, hfa, hw, Nat.sub_zero, eq_false h0]
      repeat (refine And.intro (by first | omega | rfl) ?_)
      subst hbel
      obtain ⟨u, hu⟩ : ∃ u, t = u + 1 := ⟨t - 1, by omega⟩
      subst hu
      have e9 : bel2 ++ [F2, A2, v2] ++ I f :: A :: v' :: junk = bel2 ++ F2 :: A2 :: v2 :: (I f :: A :: v' :: junk) := by simp
      rw [e9]
      refine rpush_v sw o0 o1 _ sc sM _ bel2 _ F2 A2 v2 u c0 _ c2 c3 m4 c5 c6 c7 T b1 (by omega) l2 x (by omega) b2 _ fun r T' v3 nx' k3 k4 => ?_
      simp only [go_sem]
      exact b5 _ _ _ _ _ (by simpa using k3) k4
end
end Go.Proofs.Ytaedcpipilnpcaa
namespace Go.Proofs.Ytaedcpipilnpcaa
set_option linter.unusedSimpArgs false
set_option linter.unusedVariables false
set_option maxRecDepth 10000
open Go.V
def frCs : List Fm → List AV → List AV
  | c :: fs, v :: vs => frCs fs vs ++ [I c.f, I c.at_, v]
  | _, _ => []
theorem frCs_len {T : List VObj} : ∀ {fs : List Fm} {vs : List AV}, FA T fs vs → (frCs fs vs).length = fs.length * 3
  | [], vs, h => by simp only [FA] at h; subst h; rfl
  | c :: fs, vs, h => by
    simp only [FA] at h
    obtain ⟨u, l, rfl, h1, h2, h3⟩ := h
    simp only [frCs, List.length_append, frCs_len h2, List.length_cons, List.length_nil]; omega
abbrev hM (sw : Bool) (s : SP) (inp : ByteArray) (o0 o1 : VObj) (s2 sc sM n : Nat) (mem : List Int) (rd steps : Nat) (fin : Int) (vo : AV) (top : Fm) (v : AV) (below : List Fm) (bvs junk : List AV) (T : List VObj) : List VObj :=
  hpR sw o0 o1 (wdO s2 mem) (frO sc (frCs below bvs ++ I top.f :: I top.at_ :: v :: junk)) (rmO sM [I s.words, fnsA s.funcs, strv inp, I rd, .ref (mi sw) s2 0 n, vo, I steps, I fin, .ref (ci sw) sc 0 (below.length + 1)]) T
theorem FA.kp {T T' : List VObj} (k : Kp 5 T T') : ∀ {fs : List Fm} {vs : List AV}, FA T fs vs → FA T' fs vs
  | [], vs, h => by simp only [FA] at h; subst h; rfl
  | c :: fs, vs, h => by
    simp only [FA] at h
    obtain ⟨u, l, rfl, h1, h2, h3⟩ := h
    exact ⟨u, l, rfl, h1.kp k (by decide), FA.kp k h2, h3⟩
theorem Stab.trans1 {A B C : List VObj} (h : Stab (fun _ => True) 1 A B) (k : Stab (fun _ => True) 1 B C) : Stab (fun _ => True) 1 A C := fun id ob _ ho => by
  obtain ⟨ob1, h1, h2, h3⟩ := h id ob trivial ho
  obtain ⟨ob2, k1, k2, k3⟩ := k id ob1 trivial h1
  exact ⟨ob2, k1, k2.trans h2, k3.trans h3⟩
theorem q_stab {sw : Bool} {o0 o1 mem calls calls' mach mach' : VObj} {T : List VObj} (h : calls'.s = calls.s) (hz : calls'.sz = calls.sz) (h' : mach'.s = mach.s) (hz' : mach'.sz = mach.sz) : Stab (fun _ => True) 1 (hpR sw o0 o1 mem calls mach T) (hpR sw o0 o1 mem calls' mach' T) := by
  have k1 := Stab.put (H := hpR sw o0 o1 mem calls mach T) (k := ci sw) (ob := calls) (ob' := calls') q_calls h hz
  have k2 := Stab.put (H := hpR sw o0 o1 mem calls' mach T) (k := 4) (ob := mach) (ob' := mach') q_mach h' hz'
  rw [qs_calls] at k1
  rw [qs_mach] at k2
  exact Stab.trans1 k1 k2
theorem rmstep_v (sw : Bool) (s : SP) (inp : ByteArray) (σ : SM) (hP : FitP s) (hg : Good s σ) (hw : WfS σ) (h0 : σ.fin = 0)
    (hi : inp.size ≤ 1000000000) (hr : σ.rd ≤ 1000000000) (n : Nat) (hn : n = σ.mem.length) (hm : n ≤ 1000000) (hl : (flat σ).length ≤ 900000) (ho : σ.out.length < 65536) (hbl : σ.below.length ≤ 1000000) (hst : σ.steps ≤ 1000000)
    (o0 o1 : VObj) (s2 sc sM nx : Nat) (vo v : AV) (bvs junk : List AV) (T : List VObj) (hpv : PW T v σ.top.L) (hfa : FA T σ.below bvs) (hdis : ∀ u ∈ bvs, idOf u = none ∨ idOf u ≠ idOf v) (hpo : PO T vo σ.out) (C : AV → List VObj → Nat → Prop)
    (hC1 : ∀ r sc' v' bvs' junk' vo' T' nx', (stepS s inp σ).fin = 0 → PW T' v' (stepS s inp σ).top.L → FA T' (stepS s inp σ).below bvs' → (∀ u ∈ bvs', idOf u = none ∨ idOf u ≠ idOf v') → PO T' vo' (stepS s inp σ).out →
      C r (hM sw s inp o0 o1 s2 sc' sM n (stepS s inp σ).mem (stepS s inp σ).rd (stepS s inp σ).steps (stepS s inp σ).fin vo' (stepS s inp σ).top v' (stepS s inp σ).below bvs' junk' T') nx')
    (hC2 : ∀ r memO co c3' m4' cr vo' T' nx', (stepS s inp σ).fin ≠ 0 → PO T' vo' (stepS s inp σ).out →
      C r (hpR sw o0 o1 memO co (rmO sM [I s.words, fnsA s.funcs, strv inp, c3', m4', vo', I (stepS s inp σ).steps, I (stepS s inp σ).fin, cr]) T') nx') :
    VCall Try.prog 24 [.ptr 4 sM 0] (hM sw s inp o0 o1 s2 sc sM n σ.mem σ.rd σ.steps σ.fin vo σ.top v σ.below bvs junk T) nx C := by
  refine VCall.of_body hmix f_scref20_M_step (by simp) ?_
  rw [stepS_eq h0] at hC1 hC2
  obtain ⟨p1, p2, p3, p4, p5, p6⟩ := hP
  obtain ⟨gf, gk, gok⟩ := hg
  have hxn := ins_wf p1 gf gk
  have hP6 := p6 σ.top.f
  obtain ⟨⟨op, a, b, q⟩, hx⟩ : ∃ x, s.ins σ.top.f σ.top.at_ = x := ⟨_, rfl⟩
  rw [hx] at gok hxn hC1 hC2
  obtain ⟨mem, rd, out, steps, fin, ⟨f, k, L⟩, below⟩ := σ
  obtain ⟨wm, wt, wb⟩ := hw
  simp only at hxn h0 hr hn hl ho wm wt wb hpv hfa hpo hbl gf gk hP6 hst
  subst h0
  have hlen : n ≤ mem.length := by omega
  have hmx : (2000000 : Nat) ≤ maxLen := by decide
  have ht : (frCs below bvs).length = below.length * 3 := frCs_len hfa
  have hfn : s.funcs.getD f default = s.fn f := rfl
  have hin : (s.fn f).code.getD k default = ⟨op, a, b, q⟩ := hx
  have e1 : IntKind.i64.wrap (((below.length + 1 : Nat) : Int) - 1) = (below.length : Int) := by rw [i64_in (by omega) (by omega)]; omega
  have e2 : IntKind.i64.wrap ((k : Int) + 1) = ((k + 1 : Nat) : Int) := by rw [i64_in (by omega) (by omega)]; omega
  have e3 : IntKind.i64.wrap ((steps : Int) + 1) = ((steps + 1 : Nat) : Int) := by rw [i64_in (by omega) (by omega)]; omega
  have hll : L.length ≤ 900000 := by simp only [flat, List.length_append] at hl; omega
  have hlF : (L ++ below.flatMap (·.L)).length ≤ 900000 := hl
  have hl := hll
  have hvo := hpv.one
  obtain ⟨cO, hcO⟩ : ∃ cO : VObj, cO = ⟨nx, 69, 1, [I f, I k, v]⟩ := ⟨_, rfl⟩
  obtain ⟨xO, hxO⟩ : ∃ xO : VObj, xO = ⟨nx + 1, 32, 1, [I op, I a, I b, U32 q]⟩ := ⟨_, rfl⟩
  have hpv' : PW (T ++ [cO] ++ [xO]) v L := (hpv.add _).add _
  have hfa' : FA (T ++ [cO] ++ [xO]) below bvs := (hfa.add _).add _
  have hpo' : PO (T ++ [cO] ++ [xO]) vo out := (hpo.add _).add _
  unfold OkI at gok
  simp only [] at gok
  rcases gok with e | ⟨e, ha, hb⟩ | ⟨e, ha, hb, h1⟩ | ⟨e, ha, hb, hab, h1⟩ | ⟨e, ha, hb, hab, h1⟩ | ⟨e, h1⟩ | ⟨e, h1⟩ | ⟨e, ha⟩ | ⟨e, ha, h1⟩ | ⟨e, ha, hb, hcall⟩ | ⟨e, h1⟩ | e | ⟨e, h1⟩
  all_goals subst e
  all_goals subst hcO
  all_goals subst hxO
  · -- push
    simp only [go_sem, Nat.reduceEqDiff, Nat.reduceAdd, ↓reduceIte, ↓dreduceIte, reduceCtorEq, Nat.reduceLeDiff, q_mach, q_calls, q_len, q_add, q_T, qs_T, ponx, pg0, pg01, pg1, ps0, ps1, fr_all ht, ↓hvo, e1, e2, hfn, hin, c_scref20_M_step]
    repeat (refine And.intro (by first | omega | rfl) ?_)
    refine rjump_v sw o0 o1 _ sc sM _ (frCs below bvs) junk (I f) _ v below.length _ _ _ _ _ _ _ _ _ ht hbl ((k + 1 : Nat) : Int) _ fun r => ?_
    simp only [go_sem, Nat.reduceEqDiff, Nat.reduceAdd, ↓reduceIte, ↓dreduceIte, reduceCtorEq, Nat.reduceLeDiff, q_mach, qs_mach, q_T, ponx, pg1, ps0, e1, e2, e3, hfn, hin, Int.reduceBEq]
    repeat (refine And.intro (by first | omega | rfl) ?_)
    refine rpush_v sw o0 o1 _ sc sM _ (frCs below bvs) junk (I f) _ v below.length _ _ _ _ _ _ _ _ _ ht hbl (L) _ (by omega) hpv' _ fun r T' v9 nx' k1 k2 => ?_
    simp only [go_sem]
    obtain ⟨j1, j2⟩ := FA.up k2 hfa' hdis
    exact hC1 _ _ _ _ _ _ _ _ rfl k1 j1 j2 (hpo'.up hpv' k2)
  · -- load
    simp only [go_sem, Nat.reduceEqDiff, Nat.reduceAdd, ↓reduceIte, ↓dreduceIte, reduceCtorEq, Nat.reduceLeDiff, q_mach, q_calls, q_len, q_add, q_T, qs_T, ponx, pg0, pg01, pg1, ps0, ps1, fr_all ht, ↓hvo, e1, e2, hfn, hin, c_scref20_M_step]
    repeat (refine And.intro (by first | omega | rfl) ?_)
    refine rjump_v sw o0 o1 _ sc sM _ (frCs below bvs) junk (I f) _ v below.length _ _ _ _ _ _ _ _ _ ht hbl ((k + 1 : Nat) : Int) _ fun r => ?_
    simp only [go_sem, Nat.reduceEqDiff, Nat.reduceAdd, ↓reduceIte, ↓dreduceIte, reduceCtorEq, Nat.reduceLeDiff, q_mach, q_mem, qs_mach, q_T, ponx, pg1, ps0, cellT_U32, e1, e2, e3, hfn, hin, Int.reduceBEq]
    repeat (refine And.intro (by first | omega | rfl) ?_)
    refine rpush_v sw o0 o1 _ sc sM _ (frCs below bvs) junk (I f) _ v below.length _ _ _ _ _ _ _ _ _ ht hbl (L) _ (by omega) hpv' _ fun r T' v9 nx' k1 k2 => ?_
    simp only [go_sem]
    obtain ⟨j1, j2⟩ := FA.up k2 hfa' hdis
    exact hC1 _ _ _ _ _ _ _ _ rfl k1 j1 j2 (hpo'.up hpv' k2)
  · -- store
    obtain ⟨x, L, rfl⟩ : ∃ x L', L = x :: L' := by cases L with | nil => simp at h1 | cons x L => exact ⟨x, L, rfl⟩
    have hl1 : L.length ≤ 1000000 := by simp at hl ⊢; omega
    have hv : In32 x := wt x (by simp)
    have hset : (mem.map U32).set a.toNat (U32 x) = (mem.set a.toNat x).map U32 := set_map U32 _ _ _
    simp only [go_sem, Nat.reduceEqDiff, Nat.reduceAdd, ↓reduceIte, ↓dreduceIte, reduceCtorEq, Nat.reduceLeDiff, q_mach, q_calls, q_len, q_add, q_T, qs_T, ponx, pg0, pg01, pg1, ps0, ps1, fr_all ht, ↓hvo, e1, e2, hfn, hin, c_scref20_M_step]
    repeat (refine And.intro (by first | omega | rfl) ?_)
    refine rjump_v sw o0 o1 _ sc sM _ (frCs below bvs) junk (I f) _ v below.length _ _ _ _ _ _ _ _ _ ht hbl ((k + 1 : Nat) : Int) _ fun r => ?_
    simp only [go_sem, Nat.reduceEqDiff, Nat.reduceAdd, ↓reduceIte, ↓dreduceIte, reduceCtorEq, Nat.reduceLeDiff, q_mach, qs_mach, q_len, q_T, ponx, pg1, ps0, e1, e2, e3, hfn, hin, Int.reduceBEq]
    repeat (refine And.intro (by first | omega | rfl) ?_)
    refine ⟨⟨?_, ?_⟩, ⟨?_, ?_⟩, ?_⟩
    all_goals
      refine rpop_v sw o0 o1 _ sc sM _ (frCs below bvs) junk (I f) _ v below.length _ _ _ _ _ _ _ _ _ ht hbl (L) x hl1 hpv' _ fun v2 g g2 => ?_
      have hd2 : ∀ u ∈ bvs, idOf u = none ∨ idOf u ≠ idOf v2 := fun u hu => by rw [g2]; exact hdis u hu
      refine ⟨q_stab rfl rfl rfl rfl, ?_⟩
      simp only [go_sem, Nat.reduceEqDiff, Nat.reduceAdd, ↓reduceIte, Nat.reduceLeDiff, q_mach, q_mem, qs_mem, q_T, ponx, pg1, ps0, e1, e2, e3, hfn, hin, hset]
      repeat (refine And.intro (by first | omega | (simp; omega)) ?_)
      exact hC1 _ _ _ _ _ _ _ _ rfl g hfa' hd2 hpo'
  · -- aload
    obtain ⟨x, L, rfl⟩ : ∃ x L', L = x :: L' := by cases L with | nil => simp at h1 | cons x L => exact ⟨x, L, rfl⟩
    have hl1 : L.length ≤ 1000000 := by simp at hl ⊢; omega
    have hv : In32 x := wt x (by simp)
    have e4 : IntKind.u32.wrap b = b := w32_in ⟨by omega, by omega⟩
    have hv1 := hv.1
    have hv2 := hv.2
    simp only [go_sem, Nat.reduceEqDiff, Nat.reduceAdd, ↓reduceIte, ↓dreduceIte, reduceCtorEq, Nat.reduceLeDiff, q_mach, q_calls, q_len, q_add, q_T, qs_T, ponx, pg0, pg01, pg1, ps0, ps1, fr_all ht, ↓hvo, e1, e2, hfn, hin, c_scref20_M_step]
    repeat (refine And.intro (by first | omega | rfl) ?_)
    refine rjump_v sw o0 o1 _ sc sM _ (frCs below bvs) junk (I f) _ v below.length _ _ _ _ _ _ _ _ _ ht hbl ((k + 1 : Nat) : Int) _ fun r => ?_
    simp only [go_sem, Nat.reduceEqDiff, Nat.reduceAdd, ↓reduceIte, ↓dreduceIte, reduceCtorEq, Nat.reduceLeDiff, q_mach, qs_mach, q_T, ponx, pg1, ps0, e1, e2, e3, hfn, hin, Int.reduceBEq]
    repeat (refine And.intro (by first | omega | rfl) ?_)
    refine rpop_v sw o0 o1 _ sc sM _ (frCs below bvs) junk (I f) _ v below.length _ _ _ _ _ _ _ _ _ ht hbl (L) x hl1 hpv' _ fun v2 g g2 => ?_
    have hd2 : ∀ u ∈ bvs, idOf u = none ∨ idOf u ≠ idOf v2 := fun u hu => by rw [g2]; exact hdis u hu
    by_cases h : x < b
    · have hs : stepI s inp ⟨4, a, b, q⟩ (SM.next ⟨mem, rd, out, steps, 0, ⟨f, k, x :: L⟩, below⟩) = ⟨mem, rd, out, steps + 1, 0, ⟨f, k + 1, mem.getD (a + x).toNat default :: L⟩, below⟩ := by
        show (if x < b then _ else _) = _
        rw [if_pos h]; rfl
      rw [hs] at hC1 hC2
      have e5 : IntKind.i64.wrap x = x := i64_in (by omega) (by omega)
      have e6 : IntKind.i64.wrap (a + x) = a + x := i64_in (by omega) (by omega)
      simp only [go_sem, Nat.reduceEqDiff, Nat.reduceAdd, ↓reduceIte, ↓dreduceIte, reduceCtorEq, Nat.reduceLeDiff, q_mach, q_mem, q_T, ponx, pg1, ps0, cellT_U32, e1, e2, e3, hfn, hin, e4, e5, e6, eq_false (show ¬ b ≤ x by omega)]
      repeat (refine And.intro (by omega) ?_)
      refine rpush_v sw o0 o1 _ sc sM _ (frCs below bvs) junk (I f) _ v2 below.length _ _ _ _ _ _ _ _ _ ht hbl (L) _ hl1 g _ fun r T' v9 nx' k1 k2 => ?_
      simp only [go_sem]
      obtain ⟨j1, j2⟩ := FA.up k2 hfa' hd2
      exact hC1 _ _ _ _ _ _ _ _ rfl k1 j1 j2 (hpo'.up g k2)
    · have hs : stepI s inp ⟨4, a, b, q⟩ (SM.next ⟨mem, rd, out, steps, 0, ⟨f, k, x :: L⟩, below⟩) = ⟨mem, rd, out, steps + 1, 3, ⟨f, k + 1, x :: L⟩, below⟩ := by
        show (if x < b then _ else _) = _
        rw [if_neg h]; rfl
      rw [hs] at hC1 hC2
      simp only [go_sem, Nat.reduceEqDiff, Nat.reduceAdd, ↓reduceIte, reduceCtorEq, Nat.reduceLeDiff, q_mach, qs_mach, q_T, ponx, pg1, ps0, e1, e2, e3, hfn, hin, e4, eq_true (show b ≤ x by omega)]
      exact hC2 _ _ _ _ _ _ _ _ _ (by simp) hpo'
  · -- astore
    obtain ⟨x, w, L, rfl⟩ : ∃ x w L', L = x :: w :: L' := by
      match L, h1 with
      | x :: w :: L, _ => exact ⟨x, w, L, rfl⟩
    have hl1 : L.length ≤ 1000000 := by simp at hl ⊢; omega
    have hl2 : (w :: L).length ≤ 1000000 := by simp at hl ⊢; omega
    have hv : In32 x := wt x (by simp)
    have hw : In32 w := wt w (by simp)
    have e4 : IntKind.u32.wrap b = b := w32_in ⟨by omega, by omega⟩
    have hv1 := hw.1
    have hv2 := hw.2
    simp only [go_sem, Nat.reduceEqDiff, Nat.reduceAdd, ↓reduceIte, ↓dreduceIte, reduceCtorEq, Nat.reduceLeDiff, q_mach, q_calls, q_len, q_add, q_T, qs_T, ponx, pg0, pg01, pg1, ps0, ps1, fr_all ht, ↓hvo, e1, e2, hfn, hin, c_scref20_M_step]
    repeat (refine And.intro (by first | omega | rfl) ?_)
    refine rjump_v sw o0 o1 _ sc sM _ (frCs below bvs) junk (I f) _ v below.length _ _ _ _ _ _ _ _ _ ht hbl ((k + 1 : Nat) : Int) _ fun r => ?_
    simp only [go_sem, Nat.reduceEqDiff, Nat.reduceAdd, ↓reduceIte, ↓dreduceIte, reduceCtorEq, Nat.reduceLeDiff, q_mach, qs_mach, q_T, ponx, pg1, ps0, e1, e2, e3, hfn, hin, Int.reduceBEq]
    repeat (refine And.intro (by first | omega | rfl) ?_)
    refine rpop_v sw o0 o1 _ sc sM _ (frCs below bvs) junk (I f) _ v below.length _ _ _ _ _ _ _ _ _ ht hbl (w :: L) x hl2 hpv' _ fun v2 g g2 => ?_
    simp only [go_sem, ↓reduceIte, ↓dreduceIte, reduceCtorEq, ponx, ps0, e1, e2, e3, hfn, hin]
    refine rpop_v sw o0 o1 _ sc sM _ (frCs below bvs) junk (I f) _ v2 below.length _ _ _ _ _ _ _ _ _ ht hbl (L) w hl1 g _ fun v3 g3 g4 => ?_
    have hd2 : ∀ u ∈ bvs, idOf u = none ∨ idOf u ≠ idOf v3 := fun u hu => by rw [g4, g2]; exact hdis u hu
    by_cases h : w < b
    · have hs : stepI s inp ⟨5, a, b, q⟩ (SM.next ⟨mem, rd, out, steps, 0, ⟨f, k, x :: w :: L⟩, below⟩) = ⟨mem.set (a + w).toNat x, rd, out, steps + 1, 0, ⟨f, k + 1, L⟩, below⟩ := by
        show (if w < b then _ else _) = _
        rw [if_pos h]; rfl
      rw [hs] at hC1 hC2
      have e5 : IntKind.i64.wrap w = w := i64_in (by omega) (by omega)
      have e6 : IntKind.i64.wrap (a + w) = a + w := i64_in (by omega) (by omega)
      have hset : (mem.map U32).set (a + w).toNat (U32 x) = (mem.set (a + w).toNat x).map U32 := set_map U32 _ _ _
      simp only [go_sem, Nat.reduceEqDiff, Nat.reduceAdd, ↓reduceIte, reduceCtorEq, Nat.reduceLeDiff, q_mach, q_mem, qs_mem, q_T, ponx, pg1, ps0, e1, e2, e3, hfn, hin, e4, e5, e6, hset, eq_false (show ¬ b ≤ w by omega)]
      repeat (refine And.intro (by omega) ?_)
      exact hC1 _ _ _ _ _ _ _ _ rfl g3 hfa' hd2 hpo'
    · have hs : stepI s inp ⟨5, a, b, q⟩ (SM.next ⟨mem, rd, out, steps, 0, ⟨f, k, x :: w :: L⟩, below⟩) = ⟨mem, rd, out, steps + 1, 3, ⟨f, k + 1, x :: w :: L⟩, below⟩ := by
        show (if w < b then _ else _) = _
        rw [if_neg h]; rfl
      rw [hs] at hC1 hC2
      simp only [go_sem, Nat.reduceEqDiff, Nat.reduceAdd, ↓reduceIte, reduceCtorEq, Nat.reduceLeDiff, q_mach, qs_mach, q_T, ponx, pg1, ps0, e1, e2, e3, hfn, hin, e4, eq_true (show b ≤ w by omega)]
      exact hC2 _ _ _ _ _ _ _ _ _ (by simp) hpo'
  · -- op
    obtain ⟨x, w, L, rfl⟩ : ∃ x w L', L = x :: w :: L' := by
      match L, h1 with
      | x :: w :: L, _ => exact ⟨x, w, L, rfl⟩
    have hl1 : L.length ≤ 1000000 := by simp at hl ⊢; omega
    have hl2 : (w :: L).length ≤ 1000000 := by simp at hl ⊢; omega
    have hv : In32 x := wt x (by simp)
    have hw : In32 w := wt w (by simp)
    simp only [go_sem, Nat.reduceEqDiff, Nat.reduceAdd, ↓reduceIte, ↓dreduceIte, reduceCtorEq, Nat.reduceLeDiff, q_mach, q_calls, q_len, q_add, q_T, qs_T, ponx, pg0, pg01, pg1, ps0, ps1, fr_all ht, ↓hvo, e1, e2, hfn, hin, c_scref20_M_step]
    repeat (refine And.intro (by first | omega | rfl) ?_)
    refine rjump_v sw o0 o1 _ sc sM _ (frCs below bvs) junk (I f) _ v below.length _ _ _ _ _ _ _ _ _ ht hbl ((k + 1 : Nat) : Int) _ fun r => ?_
    simp only [go_sem, Nat.reduceEqDiff, Nat.reduceAdd, ↓reduceIte, ↓dreduceIte, reduceCtorEq, Nat.reduceLeDiff, q_mach, qs_mach, q_T, ponx, pg1, ps0, e1, e2, e3, hfn, hin, Int.reduceBEq]
    repeat (refine And.intro (by first | omega | rfl) ?_)
    refine rpop_v sw o0 o1 _ sc sM _ (frCs below bvs) junk (I f) _ v below.length _ _ _ _ _ _ _ _ _ ht hbl (w :: L) x hl2 hpv' _ fun v2 g g2 => ?_
    simp only [go_sem, ↓reduceIte, ↓dreduceIte, reduceCtorEq, ponx, ps0, e1, e2, e3, hfn, hin]
    refine rpop_v sw o0 o1 _ sc sM _ (frCs below bvs) junk (I f) _ v2 below.length _ _ _ _ _ _ _ _ _ ht hbl (L) w hl1 g _ fun v3 g3 g4 => ?_
    have hd2 : ∀ u ∈ bvs, idOf u = none ∨ idOf u ≠ idOf v3 := fun u hu => by rw [g4, g2]; exact hdis u hu
    simp only [go_sem, Nat.reduceEqDiff, Nat.reduceAdd, ↓reduceIte, ↓dreduceIte, Nat.reduceLeDiff, q_T, ponx, pg1, ps0, e1, e2, e3, hfn, hin]
    refine VCall.of_contract (refapply_c a w x hw hv) (SleL.pure rfl) fun r hr => ?_
    subst hr
    by_cases h : (applyW a w x).2 = 0
    · have hs : stepI s inp ⟨6, a, b, q⟩ (SM.next ⟨mem, rd, out, steps, 0, ⟨f, k, x :: w :: L⟩, below⟩) = ⟨mem, rd, out, steps + 1, 0, ⟨f, k + 1, (applyW a w x).1 :: L⟩, below⟩ := by
        show (if (applyW a w x).2 = 0 then _ else _) = _
        rw [if_pos h]; rfl
      rw [hs] at hC1 hC2
      simp only [go_sem, Nat.reduceEqDiff, Nat.reduceAdd, ↓reduceIte, ↓dreduceIte, reduceCtorEq, Nat.reduceLT, ponx, ps0, e1, e2, e3, hfn, hin, h]
      refine rpush_v sw o0 o1 _ sc sM _ (frCs below bvs) junk (I f) _ v3 below.length _ _ _ _ _ _ _ _ _ ht hbl (L) _ hl1 g3 _ fun r T' v9 nx' k1 k2 => ?_
      simp only [go_sem]
      obtain ⟨j1, j2⟩ := FA.up k2 hfa' hd2
      exact hC1 _ _ _ _ _ _ _ _ rfl k1 j1 j2 (hpo'.up g3 k2)
    · have hs : stepI s inp ⟨6, a, b, q⟩ (SM.next ⟨mem, rd, out, steps, 0, ⟨f, k, x :: w :: L⟩, below⟩) = ⟨mem, rd, out, steps + 1, 2, ⟨f, k + 1, x :: w :: L⟩, below⟩ := by
        show (if (applyW a w x).2 = 0 then _ else _) = _
        rw [if_neg h]; rfl
      rw [hs] at hC1 hC2
      simp only [go_sem, Nat.reduceEqDiff, Nat.reduceAdd, ↓reduceIte, reduceCtorEq, Nat.reduceLeDiff, Nat.reduceLT, q_mach, qs_mach, ponx, ps0, e1, e2, e3, hfn, hin, eq_false h]
      repeat (refine And.intro (by first | omega | simp [h]) ?_)
      exact hC2 _ _ _ _ _ _ _ _ _ (by simp) hpo'
  · -- not
    obtain ⟨x, L, rfl⟩ : ∃ x L', L = x :: L' := by cases L with | nil => simp at h1 | cons x L => exact ⟨x, L, rfl⟩
    have hl1 : L.length ≤ 1000000 := by simp at hl ⊢; omega
    have hv : In32 x := wt x (by simp)
    simp only [go_sem, Nat.reduceEqDiff, Nat.reduceAdd, ↓reduceIte, ↓dreduceIte, reduceCtorEq, Nat.reduceLeDiff, q_mach, q_calls, q_len, q_add, q_T, qs_T, ponx, pg0, pg01, pg1, ps0, ps1, fr_all ht, ↓hvo, e1, e2, hfn, hin, c_scref20_M_step]
    repeat (refine And.intro (by first | omega | rfl) ?_)
    refine rjump_v sw o0 o1 _ sc sM _ (frCs below bvs) junk (I f) _ v below.length _ _ _ _ _ _ _ _ _ ht hbl ((k + 1 : Nat) : Int) _ fun r => ?_
    simp only [go_sem, Nat.reduceEqDiff, Nat.reduceAdd, ↓reduceIte, ↓dreduceIte, reduceCtorEq, Nat.reduceLeDiff, q_mach, qs_mach, q_T, ponx, pg1, ps0, e1, e2, e3, hfn, hin, Int.reduceBEq]
    repeat (refine And.intro (by first | omega | rfl) ?_)
    refine rpop_v sw o0 o1 _ sc sM _ (frCs below bvs) junk (I f) _ v below.length _ _ _ _ _ _ _ _ _ ht hbl (L) x hl1 hpv' _ fun v2 g g2 => ?_
    have hd2 : ∀ u ∈ bvs, idOf u = none ∨ idOf u ≠ idOf v2 := fun u hu => by rw [g2]; exact hdis u hu
    have hs : stepI s inp ⟨7, a, b, q⟩ (SM.next ⟨mem, rd, out, steps, 0, ⟨f, k, x :: L⟩, below⟩) = ⟨mem, rd, out, steps + 1, 0, ⟨f, k + 1, (if x = 0 then 1 else 0) :: L⟩, below⟩ := rfl
    rw [hs] at hC1 hC2
    by_cases h : x = 0
    · rw [if_pos h] at hC1
      simp only [go_sem, ↓reduceIte, ↓dreduceIte, reduceCtorEq, ponx, ps0, e1, e2, e3, hfn, hin, eq_true h]
      refine rpush_v sw o0 o1 _ sc sM _ (frCs below bvs) junk (I f) _ v2 below.length _ _ _ _ _ _ _ _ _ ht hbl (L) _ hl1 g _ fun r T' v9 nx' k1 k2 => ?_
      simp only [go_sem]
      obtain ⟨j1, j2⟩ := FA.up k2 hfa' hd2
      exact hC1 _ _ _ _ _ _ _ _ rfl k1 j1 j2 (hpo'.up g k2)
    · rw [if_neg h] at hC1
      simp only [go_sem, ↓reduceIte, ↓dreduceIte, reduceCtorEq, ponx, ps0, e1, e2, e3, hfn, hin, eq_false h]
      refine rpush_v sw o0 o1 _ sc sM _ (frCs below bvs) junk (I f) _ v2 below.length _ _ _ _ _ _ _ _ _ ht hbl (L) _ hl1 g _ fun r T' v9 nx' k1 k2 => ?_
      simp only [go_sem]
      obtain ⟨j1, j2⟩ := FA.up k2 hfa' hd2
      exact hC1 _ _ _ _ _ _ _ _ rfl k1 j1 j2 (hpo'.up g k2)
  · -- jump
    simp only [go_sem, Nat.reduceEqDiff, Nat.reduceAdd, ↓reduceIte, ↓dreduceIte, reduceCtorEq, Nat.reduceLeDiff, q_mach, q_calls, q_len, q_add, q_T, qs_T, ponx, pg0, pg01, pg1, ps0, ps1, fr_all ht, ↓hvo, e1, e2, hfn, hin, c_scref20_M_step]
    repeat (refine And.intro (by first | omega | rfl) ?_)
    refine rjump_v sw o0 o1 _ sc sM _ (frCs below bvs) junk (I f) _ v below.length _ _ _ _ _ _ _ _ _ ht hbl ((k + 1 : Nat) : Int) _ fun r => ?_
    simp only [go_sem, Nat.reduceEqDiff, Nat.reduceAdd, ↓reduceIte, ↓dreduceIte, reduceCtorEq, Nat.reduceLeDiff, q_mach, qs_mach, q_T, ponx, pg1, ps0, e1, e2, e3, hfn, hin, Int.reduceBEq]
    repeat (refine And.intro (by first | omega | rfl) ?_)
    refine rjump_v sw o0 o1 _ sc sM _ (frCs below bvs) junk (I f) _ v below.length _ _ _ _ _ _ _ _ _ ht hbl a _ fun r => ?_
    simp only [go_sem]
    have := hC1 (AV.tup []) sc v bvs junk vo _ (nx + 1 + 1) rfl hpv' hfa' hdis hpo'
    simp only [stepI, SM.jump, SM.next, Int.reduceEq, if_true, if_false, hM, Int.toNat_of_nonneg ha] at this
    exact this
  · -- zero
    obtain ⟨x, L, rfl⟩ : ∃ x L', L = x :: L' := by cases L with | nil => simp at h1 | cons x L => exact ⟨x, L, rfl⟩
    have hl1 : L.length ≤ 1000000 := by simp at hl ⊢; omega
    have hv : In32 x := wt x (by simp)
    simp only [go_sem, Nat.reduceEqDiff, Nat.reduceAdd, ↓reduceIte, ↓dreduceIte, reduceCtorEq, Nat.reduceLeDiff, q_mach, q_calls, q_len, q_add, q_T, qs_T, ponx, pg0, pg01, pg1, ps0, ps1, fr_all ht, ↓hvo, e1, e2, hfn, hin, c_scref20_M_step]
    repeat (refine And.intro (by first | omega | rfl) ?_)
    refine rjump_v sw o0 o1 _ sc sM _ (frCs below bvs) junk (I f) _ v below.length _ _ _ _ _ _ _ _ _ ht hbl ((k + 1 : Nat) : Int) _ fun r => ?_
    simp only [go_sem, Nat.reduceEqDiff, Nat.reduceAdd, ↓reduceIte, ↓dreduceIte, reduceCtorEq, Nat.reduceLeDiff, q_mach, qs_mach, q_T, ponx, pg1, ps0, e1, e2, e3, hfn, hin, Int.reduceBEq]
    repeat (refine And.intro (by first | omega | rfl) ?_)
    refine rpop_v sw o0 o1 _ sc sM _ (frCs below bvs) junk (I f) _ v below.length _ _ _ _ _ _ _ _ _ ht hbl (L) x hl1 hpv' _ fun v2 g g2 => ?_
    have hd2 : ∀ u ∈ bvs, idOf u = none ∨ idOf u ≠ idOf v2 := fun u hu => by rw [g2]; exact hdis u hu
    by_cases h : x = 0
    · have hs : stepI s inp ⟨9, a, b, q⟩ (SM.next ⟨mem, rd, out, steps, 0, ⟨f, k, x :: L⟩, below⟩) = ⟨mem, rd, out, steps + 1, 0, ⟨f, a.toNat, L⟩, below⟩ := by
        show (if x = 0 then _ else _) = _
        rw [if_pos h]; rfl
      rw [hs] at hC1 hC2
      simp only [go_sem, Nat.reduceEqDiff, Nat.reduceAdd, ↓reduceIte, ↓dreduceIte, reduceCtorEq, Nat.reduceLeDiff, q_T, ponx, pg1, ps0, e1, e2, e3, hfn, hin, eq_true h]
      repeat (refine And.intro (by omega) ?_)
      refine rjump_v sw o0 o1 _ sc sM _ (frCs below bvs) junk (I f) _ v2 below.length _ _ _ _ _ _ _ _ _ ht hbl a _ fun r => ?_
      simp only [go_sem]
      have := hC1 (AV.tup []) sc v2 bvs junk vo _ (nx + 1 + 1) rfl g hfa' hd2 hpo'
      simp only [hM, Int.toNat_of_nonneg ha] at this
      exact this
    · have hs : stepI s inp ⟨9, a, b, q⟩ (SM.next ⟨mem, rd, out, steps, 0, ⟨f, k, x :: L⟩, below⟩) = ⟨mem, rd, out, steps + 1, 0, ⟨f, k + 1, L⟩, below⟩ := by
        show (if x = 0 then _ else _) = _
        rw [if_neg h]; rfl
      rw [hs] at hC1 hC2
      simp only [go_sem, ↓reduceIte, ponx, ps0, e1, e2, e3, hfn, hin, eq_false h]
      exact hC1 _ _ _ _ _ _ _ _ rfl g hfa' hd2 hpo'
  · -- call
    simp only [go_sem, Nat.reduceEqDiff, Nat.reduceAdd, ↓reduceIte, ↓dreduceIte, reduceCtorEq, Nat.reduceLeDiff, q_mach, q_calls, q_len, q_add, q_T, qs_T, ponx, pg0, pg01, pg1, ps0, ps1, fr_all ht, ↓hvo, e1, e2, hfn, hin, c_scref20_M_step]
    repeat (refine And.intro (by first | omega | rfl) ?_)
    refine rjump_v sw o0 o1 _ sc sM _ (frCs below bvs) junk (I f) _ v below.length _ _ _ _ _ _ _ _ _ ht hbl ((k + 1 : Nat) : Int) _ fun r => ?_
    simp only [go_sem, Nat.reduceEqDiff, Nat.reduceAdd, ↓reduceIte, ↓dreduceIte, reduceCtorEq, Nat.reduceLeDiff, q_mach, qs_mach, q_T, ponx, pg1, ps0, e1, e2, e3, hfn, hin, Int.reduceBEq]
    repeat (refine And.intro (by first | omega | rfl) ?_)
    refine rcall_v sw o0 o1 s2 sc sM _ (frCs below bvs) junk (I f) _ v below.length s _ _ _ _ _ _ _ mem n ht hbl a ha hb L hn hcall (by omega) (by omega) rfl rfl hpv' _ fun r R v' sc' nx' k1 k2 => ?_
    simp only [go_sem]
    have := hC1 (AV.tup []) sc' nilv (v' :: bvs) [] vo _ nx' rfl (.inl ⟨rfl, rfl⟩) ⟨v', bvs, rfl, k1, hfa'.add R, fun u hu => by rw [k2]; exact hdis u hu⟩ (fun u _ => by
      cases h : idOf u with
      | none => exact .inl rfl
      | some x => exact .inr (by simp [idOf])) (hpo'.add R)
    simp only [stepI, SM.call, SM.next, Int.reduceEq, if_true, if_false, hM, Int.toNat_of_nonneg ha] at this
    exact this
  · -- ret
    simp only [go_sem, Nat.reduceEqDiff, Nat.reduceAdd, ↓reduceIte, ↓dreduceIte, reduceCtorEq, Nat.reduceLeDiff, q_mach, q_calls, q_len, q_add, q_T, qs_T, ponx, pg0, pg01, pg1, ps0, ps1, fr_all ht, ↓hvo, e1, e2, hfn, hin, c_scref20_M_step]
    repeat (refine And.intro (by first | omega | rfl) ?_)
    refine rjump_v sw o0 o1 _ sc sM _ (frCs below bvs) junk (I f) _ v below.length _ _ _ _ _ _ _ _ _ ht hbl ((k + 1 : Nat) : Int) _ fun r => ?_
    simp only [go_sem, Nat.reduceEqDiff, Nat.reduceAdd, ↓reduceIte, ↓dreduceIte, reduceCtorEq, Nat.reduceLeDiff, q_mach, qs_mach, q_T, ponx, pg1, ps0, e1, e2, e3, hfn, hin, Int.reduceBEq]
    repeat (refine And.intro (by first | omega | rfl) ?_)
    cases below with
    | nil =>
      refine rret_v sw o0 o1 s2 sc sM _ _ junk _ v _ s _ _ _ _ _ _ _ mem ht hbl f gf L h1 hpv' _ _ (fun _ r co cr _ => ?_) fun u hu => by simp at hu
      simp only [go_sem]
      exact hC2 _ _ _ _ _ _ _ _ _ (by simp [stepI, SM.ret, SM.next]) hpo'
    | cons c rest =>
      simp only [FA] at hfa'
      obtain ⟨v2, l2, rfl, f1, f2, f3⟩ := hfa'
      have hcl : c.L.length ≤ 900000 := by simp only [List.flatMap_cons, List.length_append] at hlF; omega
      have hrl : (frCs rest l2).length = rest.length * 3 := frCs_len f2
      refine rret_v sw o0 o1 s2 sc sM _ _ junk _ v _ s _ _ _ _ _ _ _ mem ht hbl f gf L h1 hpv' _ _ (fun h => by simp at h) fun u hu => ?_
      simp only [List.length_cons] at hu
      obtain rfl : rest.length = u := by omega
      refine ⟨frCs rest l2, I c.f, I c.at_, v2, c.L, rfl, hrl, f1, hcl, hdis v2 (by simp), fun r T' v' junk' nx' k1 k2 => ?_⟩
      simp only [go_sem]
      obtain ⟨j1, j2⟩ := FA.up k2 f2 f3
      exact hC1 _ _ _ _ _ _ _ _ rfl k1 j1 j2 (hpo'.up f1 k2)
  · -- get
    have hb : IntKind.u32.wrap (byteAt inp rd) = byteAt inp rd := by
      refine w32_in ⟨?_, ?_⟩ <;> unfold byteAt
      · omega
      · have := (inp.data.toList.getD rd 0).toNat_lt; omega
    have e7 : IntKind.i64.wrap ((rd : Int) + 1) = ((rd + 1 : Nat) : Int) := by rw [i64_in (by omega) (by omega)]; omega
    by_cases h : rd < inp.size
    · have hs : stepI s inp ⟨12, a, b, q⟩ (SM.next ⟨mem, rd, out, steps, 0, ⟨f, k, L⟩, below⟩) = ⟨mem, rd + 1, out, steps + 1, 0, ⟨f, k + 1, byteAt inp rd :: L⟩, below⟩ := by
        show (if rd < inp.size then _ else _) = _
        rw [if_pos h]; rfl
      rw [hs] at hC1 hC2
      simp only [go_sem, Nat.reduceEqDiff, Nat.reduceAdd, ↓reduceIte, ↓dreduceIte, reduceCtorEq, Nat.reduceLeDiff, q_mach, q_calls, q_len, q_add, q_T, qs_T, ponx, pg0, pg01, pg1, ps0, ps1, fr_all ht, ↓hvo, e1, e2, hfn, hin, c_scref20_M_step]
      repeat (refine And.intro (by first | omega | rfl) ?_)
      refine rjump_v sw o0 o1 _ sc sM _ (frCs below bvs) junk (I f) _ v below.length _ _ _ _ _ _ _ _ _ ht hbl ((k + 1 : Nat) : Int) _ fun r => ?_
      simp only [go_sem, Nat.reduceEqDiff, Nat.reduceAdd, ↓reduceIte, ↓dreduceIte, reduceCtorEq, Nat.reduceLeDiff, q_mach, qs_mach, q_T, ponx, pg1, ps0, e1, e2, e3, hfn, hin, Int.reduceBEq, hb, e7, eq_true (show (rd : Int) < (inp.size : Int) by omega)]
      repeat (refine And.intro (by first | omega | rfl) ?_)
      refine rpush_v sw o0 o1 _ sc sM _ (frCs below bvs) junk (I f) _ v below.length _ _ _ _ _ _ _ _ _ ht hbl (L) _ (by omega) hpv' _ fun r T' v9 nx' k1 k2 => ?_
      simp only [go_sem]
      obtain ⟨j1, j2⟩ := FA.up k2 hfa' hdis
      exact hC1 _ _ _ _ _ _ _ _ rfl k1 j1 j2 (hpo'.up hpv' k2)
    · have hs : stepI s inp ⟨12, a, b, q⟩ (SM.next ⟨mem, rd, out, steps, 0, ⟨f, k, L⟩, below⟩) = ⟨mem, rd, out, steps + 1, 0, ⟨f, k + 1, 256 :: L⟩, below⟩ := by
        show (if rd < inp.size then _ else _) = _
        rw [if_neg h]; rfl
      rw [hs] at hC1 hC2
      simp only [go_sem, Nat.reduceEqDiff, Nat.reduceAdd, ↓reduceIte, ↓dreduceIte, reduceCtorEq, Nat.reduceLeDiff, q_mach, q_calls, q_len, q_add, q_T, qs_T, ponx, pg0, pg01, pg1, ps0, ps1, fr_all ht, ↓hvo, e1, e2, hfn, hin, c_scref20_M_step]
      repeat (refine And.intro (by first | omega | rfl) ?_)
      refine rjump_v sw o0 o1 _ sc sM _ (frCs below bvs) junk (I f) _ v below.length _ _ _ _ _ _ _ _ _ ht hbl ((k + 1 : Nat) : Int) _ fun r => ?_
      simp only [go_sem, Nat.reduceEqDiff, Nat.reduceAdd, ↓reduceIte, ↓dreduceIte, reduceCtorEq, Nat.reduceLeDiff, q_mach, qs_mach, q_T, ponx, pg1, ps0, e1, e2, e3, hfn, hin, Int.reduceBEq, eq_false (show ¬ (rd : Int) < (inp.size : Int) by omega)]
      repeat (refine And.intro (by first | omega | rfl) ?_)
      refine rpush_v sw o0 o1 _ sc sM _ (frCs below bvs) junk (I f) _ v below.length _ _ _ _ _ _ _ _ _ ht hbl (L) _ (by omega) hpv' _ fun r T' v9 nx' k1 k2 => ?_
      simp only [go_sem]
      obtain ⟨j1, j2⟩ := FA.up k2 hfa' hdis
      exact hC1 _ _ _ _ _ _ _ _ rfl k1 j1 j2 (hpo'.up hpv' k2)
  · -- put
    obtain ⟨x, L, rfl⟩ : ∃ x L', L = x :: L' := by cases L with | nil => simp at h1 | cons x L => exact ⟨x, L, rfl⟩
    have hl1 : L.length ≤ 1000000 := by simp at hl ⊢; omega
    have hv : In32 x := wt x (by simp)
    simp only [go_sem, Nat.reduceEqDiff, Nat.reduceAdd, ↓reduceIte, ↓dreduceIte, reduceCtorEq, Nat.reduceLeDiff, q_mach, q_calls, q_len, q_add, q_T, qs_T, ponx, pg0, pg01, pg1, ps0, ps1, fr_all ht, ↓hvo, e1, e2, hfn, hin, c_scref20_M_step]
    repeat (refine And.intro (by first | omega | rfl) ?_)
    refine rjump_v sw o0 o1 _ sc sM _ (frCs below bvs) junk (I f) _ v below.length _ _ _ _ _ _ _ _ _ ht hbl ((k + 1 : Nat) : Int) _ fun r => ?_
    simp only [go_sem, Nat.reduceEqDiff, Nat.reduceAdd, ↓reduceIte, ↓dreduceIte, reduceCtorEq, Nat.reduceLeDiff, q_mach, qs_mach, q_T, ponx, pg1, ps0, e1, e2, e3, hfn, hin, Int.reduceBEq]
    repeat (refine And.intro (by first | omega | rfl) ?_)
    refine rpop_v sw o0 o1 _ sc sM _ (frCs below bvs) junk (I f) _ v below.length _ _ _ _ _ _ _ _ _ ht hbl (L) x hl1 hpv' _ fun v2 g g2 => ?_
    have hd2 : ∀ u ∈ bvs, idOf u = none ∨ idOf u ≠ idOf v2 := fun u hu => by rw [g2]; exact hdis u hu
    have hs : stepI s inp ⟨13, a, b, q⟩ (SM.next ⟨mem, rd, out, steps, 0, ⟨f, k, x :: L⟩, below⟩) = ⟨mem, rd, out ++ [byteS x], steps + 1, 0, ⟨f, k + 1, L⟩, below⟩ := rfl
    rw [hs] at hC1 hC2
    have hU8 : (AV.val (.int .u8 (IntKind.u8.wrap x))) = U8 (byteS x) := by rw [← byteS_eq]
    have hlt := eq_false (show ¬ (65536 : Int) ≤ (out.length : Int) by omega)
    have g9 := g
    have hpo9 := hpo'
    generalize hT1 : (T ++ [(⟨nx, 69, 1, [I f, I k, v]⟩ : VObj)] ++ [(⟨nx + 1, 32, 1, [I 13, I a, I b, U32 q]⟩ : VObj)]) = T1 at *
    rcases hpo9 with ⟨rfl, rfl⟩ | ⟨k0, so, rfl, hT⟩
    · simp only [go_sem, Nat.reduceEqDiff, Nat.reduceAdd, ↓reduceIte, reduceCtorEq, Nat.reduceLeDiff, Int.reduceLE, q_mach, qs_mach, q_len, q_add, q_T, ponx, pg0, ps0, e1, e2, e3, hfn, hin, hU8]
      repeat (refine And.intro (by omega) ?_)
      refine hC1 _ _ _ _ _ _ _ _ rfl ((g.add _).add _) ((hfa'.add _).add _) hd2 (.inr ⟨T1.length + 1, _, rfl, ?_⟩)
      rw [pg1]; rfl
    · have hk := (List.getElem?_eq_some_iff.1 hT).1
      have hT2 : ∀ x : VObj, (T1 ++ [x])[k0]? = some ⟨so, 5, 1, out.map U8⟩ := fun x => by rw [List.getElem?_append_left hk]; exact hT
      simp only [go_sem, Nat.reduceEqDiff, Nat.reduceAdd, ↓reduceIte, reduceCtorEq, Nat.reduceLeDiff, q_mach, qs_mach, q_len, q_add, q_T, qs_T, ponx, pg0, ps0, e1, e2, e3, hfn, hin, hU8, hT, hT2, hlt]
      repeat (refine And.intro (by omega) ?_)
      have hput : ∀ {x y : VObj}, Kp 5 T1 ((T1 ++ [x]).set k0 y) := fun {x y} => (Kp.add _).trans (Kp.put (hT2 _) rfl)
      refine hC1 _ _ _ _ _ _ _ _ rfl (g.kp hput (by decide)) (FA.kp hput hfa') hd2 (.inr ⟨k0, nx + 1 + 1 + 1, ?_, ?_⟩)
      · simp
      · rw [List.getElem?_set, if_pos rfl, if_pos (by simp; omega), List.take_of_length_le (by simp)]
        simp
end Go.Proofs.Ytaedcpipilnpcaa
namespace Go.Proofs.Ytaedcpipilnpcaa
set_option linter.unusedSimpArgs false
set_option linter.unusedVariables false
set_option maxRecDepth 10000
open Go.V
abbrev o0R (s : SP) : VObj := ⟨0, 24, 1, [I s.words, fnsA s.funcs]⟩
abbrev o1R : VObj := ⟨1, 34, 1, [I 0, strv ⟨#[]⟩, I 0]⟩
structure SQR where
  e : Bool
  k : Nat
  sc : Nat
  v : AV
  bvs : List AV
  junk : List AV
  vo : AV
  T : List VObj
  nx : Nat
  memO : VObj
  co : VObj
  c3 : AV
  m4 : AV
  cr : AV
  fin : Int
  steps : Nat
  out : List UInt8
def invR (s : SP) (inp : ByteArray) (fuel : Int) (q : SQR) : Prop :=
  if q.e = true then q.fin ≠ 0 ∧ PO q.T q.vo q.out ∧ resS (runS s inp (startS s) fuel.toNat) = .agg [I q.fin, strv ⟨q.out.toArray⟩, I q.steps]
  else q.k ≤ fuel.toNat ∧ (runS s inp (startS s) q.k).fin = 0 ∧ PW q.T q.v (runS s inp (startS s) q.k).top.L ∧ FA q.T (runS s inp (startS s) q.k).below q.bvs ∧ (∀ u ∈ q.bvs, idOf u = none ∨ idOf u ≠ idOf q.v) ∧ PO q.T q.vo (runS s inp (startS s) q.k).out
section
variable {s : SP} {inp : ByteArray} {fuel : Int} {k : Nat} {sc : Nat} {v : AV} {bvs junk : List AV} {vo : AV} {T : List VObj} {nx : Nat} {memO co : VObj} {c3 m4 cr : AV} {fin : Int} {steps : Nat} {out : List UInt8}
theorem invR_t : invR s inp fuel ⟨true, k, sc, v, bvs, junk, vo, T, nx, memO, co, c3, m4, cr, fin, steps, out⟩ ↔ fin ≠ 0 ∧ PO T vo out ∧ resS (runS s inp (startS s) fuel.toNat) = .agg [I fin, strv ⟨out.toArray⟩, I steps] := by
  unfold invR; simp
theorem invR_f : invR s inp fuel ⟨false, k, sc, v, bvs, junk, vo, T, nx, memO, co, c3, m4, cr, fin, steps, out⟩ ↔ k ≤ fuel.toNat ∧ (runS s inp (startS s) k).fin = 0 ∧ PW T v (runS s inp (startS s) k).top.L ∧ FA T (runS s inp (startS s) k).below bvs ∧ (∀ u ∈ bvs, idOf u = none ∨ idOf u ≠ idOf v) ∧ PO T vo (runS s inp (startS s) k).out := by
  unfold invR; simp
end
theorem refrunS_c (s : SP) (inp : ByteArray) (fuel : Int) (hP : FitP s) (hfu : fuel ≤ 60000) (hi : inp.size ≤ 1000000000)
    (hg : ∀ k, k < fuel.toNat → (runS s inp (startS s) k).fin = 0 → Good s (runS s inp (startS s) k)) :
    Contract Try.prog 9 [spA s, strv inp, I fuel] (fun r => r = resS (runS s inp (startS s) fuel.toNat)) := by
  refine Contract.of_call (VCall.of_body hmix f_scref20_Run (by simp) ?_)
  have hP' := hP
  obtain ⟨p1, p2, p3, p4, p5, p6⟩ := hP'
  have hlen : 1 ≤ s.funcs.length := by
    cases hf : s.funcs with
    | nil => exact absurd hf p5
    | cons a l => simp
  have e0 : IntKind.i64.wrap ((s.funcs.length : Int) - 1) = ((s.funcs.length - 1 : Nat) : Int) := by rw [i64_in (by omega) (by omega)]; omega
  have hwf : ∀ k, k ≤ fuel.toNat → WfS (runS s inp (startS s) k) ∧ (runS s inp (startS s) k).mem.length = s.words.toNat := by
    intro k hk
    induction k with
    | zero => exact ⟨startS_wf s, by simp [runS, startS]⟩
    | succ k ih =>
      obtain ⟨h1, h2⟩ := ih (by omega)
      by_cases h0 : (runS s inp (startS s) k).fin = 0
      · obtain ⟨g1, g2, _⟩ := stepS_wf (inp := inp) p1 h1 (hg k (by omega) h0)
        exact ⟨g1, g2.trans h2⟩
      · show WfS (stepS s inp (runS s inp (startS s) k)) ∧ (stepS s inp (runS s inp (startS s) k)).mem.length = _
        rw [stepS, if_neg h0]; exact ⟨h1, h2⟩
  have hrep : (List.replicate s.words.toNat [AV.val (.int .u32 0)]).flatten = (List.replicate s.words.toNat 0).map U32 := by rw [flat_rep]; simp
  have hmx : (2000000 : Nat) ≤ maxLen := by decide
  have hz : ¬ ((s.funcs.length : Int) = 0) := by omega
  simp only [go_sem, Nat.reduceEqDiff, Nat.reduceAdd, Nat.reduceMul, ↓reduceIte, reduceCtorEq, Nat.reduceLeDiff, Nat.reduceLT, c_scref20_Run, e0, hrep, eq_false hz]
  refine ⟨?_, ?_⟩
  · repeat (refine And.intro (by first | omega | rfl) ?_)

    refine VW_loop (fun q : SQR => ⟨[(2, I fuel), (6, .ptr 1 1 0), (7, .ptr 4 4 0)], if q.e then hpR true (o0R s) o1R q.memO q.co (rmO 4 [I s.words, fnsA s.funcs, strv inp, q.c3, q.m4, q.vo, I q.steps, I q.fin, q.cr]) q.T
          else hM true s inp (o0R s) o1R 2 q.sc 4 s.words.toNat (runS s inp (startS s) q.k).mem (runS s inp (startS s) q.k).rd (runS s inp (startS s) q.k).steps (runS s inp (startS s) q.k).fin q.vo (runS s inp (startS s) q.k).top q.v (runS s inp (startS s) q.k).below q.bvs q.junk q.T, q.nx⟩)
      (invR s inp fuel)
      (fun q => if q.e then 0 else fuel.toNat - q.k + 1) ⟨false, 0, 3, nilv, [], [], nilv, [], 5, o1R, o1R, nilv, nilv, nilv, 0, 0, []⟩
      (Wk.mk (by simp [get_cons]) ⟨[], ?_⟩ (Nat.le_refl _)) (invR_f.2 ⟨Nat.zero_le _, rfl, .inl ⟨rfl, rfl⟩, rfl, by simp, .inl ⟨rfl, rfl⟩⟩) ?_
    · simp [hM, hpR, runS, startS, mi, ci, frCs]
    rintro ⟨e, k, sc, v, bvs, junk, vo, T, nx, memO, co, c3, m4, cr, fin, steps, out⟩ hinv
    cases e with
    | true =>
      obtain ⟨f1, f2, f3⟩ := invR_t.1 hinv
      simp only [if_true]
      have hvo := f2.one
      rw [f3]
      simp only [go_sem, Nat.reduceEqDiff, Nat.reduceAdd, ↓reduceIte, ↓dreduceIte, Nat.reduceLeDiff, q_mach, q_1, qs_1, eq_false f1]
      rcases f2 with ⟨rfl, rfl⟩ | ⟨k0, so, rfl, hT⟩
      · simp only [go_sem]
        exact ⟨_, Frz.pure rfl, rfl⟩
      · simp only [go_sem, Nat.reduceEqDiff, Nat.reduceAdd, ↓reduceIte, Nat.reduceLeDiff, q_mach, q_1, qs_1, q_T, hT, take_all]
        exact ⟨_, Frz.pure rfl, rfl⟩
    | false =>
      obtain ⟨h1, h2, h3, h4, h5, h6⟩ := invR_f.1 hinv
      simp only [Bool.false_eq_true, if_false]
      obtain ⟨w1, w2⟩ := hwf k h1
      obtain ⟨z1, z2, z3, z4, z5⟩ := runS_sz s inp k
      have hgk := hg k
      have hfin := runS_fin (s := s) (inp := inp) (σ := startS s) (k := k + 1)
      have hnext : runS s inp (startS s) (k + 1) = stepS s inp (runS s inp (startS s) k) := rfl
      have hk2 : fuel.toNat = k → runS s inp (startS s) fuel.toNat = runS s inp (startS s) k := fun e => by rw [e]
      obtain ⟨σ, hσ⟩ : ∃ σ, runS s inp (startS s) k = σ := ⟨_, rfl⟩
      simp only [hσ] at h2 h3 h4 h5 h6 w1 w2 z1 z2 z3 z4 z5 hgk hnext hk2 ⊢
      have z5 := z5 h2
      by_cases hf : fuel ≤ (k : Int)
      · have hf' : fuel ≤ (σ.steps : Int) := by omega
        simp only [go_sem, Nat.reduceEqDiff, Nat.reduceAdd, ↓reduceIte, Nat.reduceLeDiff, q_mach, qs_mach, eq_true h2, eq_true hf']
        refine ⟨⟨true, 0, 0, nilv, [], [], vo, T, nx, wdO 2 σ.mem, frO sc (frCs σ.below bvs ++ I σ.top.f :: I σ.top.at_ :: v :: junk), I σ.rd, .ref (mi true) 2 0 s.words.toNat, .ref (ci true) sc 0 (σ.below.length + 1), 5, σ.steps, σ.out⟩, ?_, ?_, Wk.mk ?_ ⟨[], ?_⟩ (Nat.le_refl _)⟩
        · refine invR_t.2 ⟨by decide, h6, ?_⟩
          rw [hk2 (by omega), resS, if_pos h2]
        · simp only [if_true]; omega
        · simp [get_cons]
        · simp only [if_true, List.append_nil]
      · have hf' : ¬ fuel ≤ (σ.steps : Int) := by omega
        have hg1 := hgk (by omega) h2
        simp only [go_sem, Nat.reduceEqDiff, Nat.reduceAdd, ↓reduceIte, ↓dreduceIte, Nat.reduceLeDiff, q_mach, eq_true h2, eq_false hf']
        refine rmstep_v true s inp σ hP hg1 w1 h2 hi (by omega) s.words.toNat (by omega) (by omega) (by omega) (by omega) (by omega) (by omega) _ _ 2 sc 4 _ vo v bvs junk T h3 h4 h5 h6 _ (fun r sc' v' bvs' junk' vo' T' nx' t0 t1 t2 t3 t4 => ?_) fun r memO co c3' m4' cr vo' T' nx' t0 t4 => ?_
        · simp only [go_sem]
          have hw := (hwf (k + 1) (by omega)).2
          refine ⟨⟨false, k + 1, sc', v', bvs', junk', vo', T', nx', o1R, o1R, nilv, nilv, nilv, 0, 0, []⟩, ?_, ?_, Wk.mk ?_ ⟨[], ?_⟩ (Nat.le_refl _)⟩
          · refine invR_f.2 ?_
            rw [hnext]
            exact ⟨by omega, t0, t1, t2, t3, t4⟩
          · simp only [Bool.false_eq_true, if_false]; omega
          · simp [get_cons]
          · simp only [Bool.false_eq_true, if_false, hnext, List.append_nil]
        · simp only [go_sem]
          have hrun := hfin (by rw [hnext]; exact t0) (fuel.toNat - (k + 1))
          rw [show k + 1 + (fuel.toNat - (k + 1)) = fuel.toNat by omega] at hrun
          refine ⟨⟨true, 0, 0, nilv, [], [], vo', T', nx', memO, co, c3', m4', cr, (stepS s inp σ).fin, (stepS s inp σ).steps, (stepS s inp σ).out⟩, ?_, ?_, Wk.mk ?_ ⟨[], ?_⟩ (Nat.le_refl _)⟩
          · refine invR_t.2 ⟨t0, t4, ?_⟩
            rw [hrun, hnext, resS, if_neg t0]
          · simp only [if_true]; omega
          · simp [get_cons]
          · simp only [if_true, List.append_nil]
  · repeat (refine And.intro (by first | omega | rfl) ?_)

    refine VW_loop (fun q : SQR => ⟨[(2, I fuel), (6, .ptr 1 1 0), (7, .ptr 4 4 0)], if q.e then hpR false (o0R s) o1R q.memO q.co (rmO 4 [I s.words, fnsA s.funcs, strv inp, q.c3, q.m4, q.vo, I q.steps, I q.fin, q.cr]) q.T
          else hM false s inp (o0R s) o1R 3 q.sc 4 s.words.toNat (runS s inp (startS s) q.k).mem (runS s inp (startS s) q.k).rd (runS s inp (startS s) q.k).steps (runS s inp (startS s) q.k).fin q.vo (runS s inp (startS s) q.k).top q.v (runS s inp (startS s) q.k).below q.bvs q.junk q.T, q.nx⟩)
      (invR s inp fuel)
      (fun q => if q.e then 0 else fuel.toNat - q.k + 1) ⟨false, 0, 2, nilv, [], [], nilv, [], 5, o1R, o1R, nilv, nilv, nilv, 0, 0, []⟩
      (Wk.mk (by simp [get_cons]) ⟨[], ?_⟩ (Nat.le_refl _)) (invR_f.2 ⟨Nat.zero_le _, rfl, .inl ⟨rfl, rfl⟩, rfl, by simp, .inl ⟨rfl, rfl⟩⟩) ?_
    · simp [hM, hpR, runS, startS, mi, ci, frCs]
    rintro ⟨e, k, sc, v, bvs, junk, vo, T, nx, memO, co, c3, m4, cr, fin, steps, out⟩ hinv
    cases e with
    | true =>
      obtain ⟨f1, f2, f3⟩ := invR_t.1 hinv
      simp only [if_true]
      have hvo := f2.one
      rw [f3]
      simp only [go_sem, Nat.reduceEqDiff, Nat.reduceAdd, ↓reduceIte, ↓dreduceIte, Nat.reduceLeDiff, q_mach, q_1, qs_1, eq_false f1]
      rcases f2 with ⟨rfl, rfl⟩ | ⟨k0, so, rfl, hT⟩
      · simp only [go_sem]
        exact ⟨_, Frz.pure rfl, rfl⟩
      · simp only [go_sem, Nat.reduceEqDiff, Nat.reduceAdd, ↓reduceIte, Nat.reduceLeDiff, q_mach, q_1, qs_1, q_T, hT, take_all]
        exact ⟨_, Frz.pure rfl, rfl⟩
    | false =>
      obtain ⟨h1, h2, h3, h4, h5, h6⟩ := invR_f.1 hinv
      simp only [Bool.false_eq_true, if_false]
      obtain ⟨w1, w2⟩ := hwf k h1
      obtain ⟨z1, z2, z3, z4, z5⟩ := runS_sz s inp k
      have hgk := hg k
      have hfin := runS_fin (s := s) (inp := inp) (σ := startS s) (k := k + 1)
      have hnext : runS s inp (startS s) (k + 1) = stepS s inp (runS s inp (startS s) k) := rfl
      have hk2 : fuel.toNat = k → runS s inp (startS s) fuel.toNat = runS s inp (startS s) k := fun e => by rw [e]
      obtain ⟨σ, hσ⟩ : ∃ σ, runS s inp (startS s) k = σ := ⟨_, rfl⟩
      simp only [hσ] at h2 h3 h4 h5 h6 w1 w2 z1 z2 z3 z4 z5 hgk hnext hk2 ⊢
      have z5 := z5 h2
      by_cases hf : fuel ≤ (k : Int)
      · have hf' : fuel ≤ (σ.steps : Int) := by omega
        simp only [go_sem, Nat.reduceEqDiff, Nat.reduceAdd, ↓reduceIte, Nat.reduceLeDiff, q_mach, qs_mach, eq_true h2, eq_true hf']
        refine ⟨⟨true, 0, 0, nilv, [], [], vo, T, nx, wdO 3 σ.mem, frO sc (frCs σ.below bvs ++ I σ.top.f :: I σ.top.at_ :: v :: junk), I σ.rd, .ref (mi false) 3 0 s.words.toNat, .ref (ci false) sc 0 (σ.below.length + 1), 5, σ.steps, σ.out⟩, ?_, ?_, Wk.mk ?_ ⟨[], ?_⟩ (Nat.le_refl _)⟩
        · refine invR_t.2 ⟨by decide, h6, ?_⟩
          rw [hk2 (by omega), resS, if_pos h2]
        · simp only [if_true]; omega
        · simp [get_cons]
        · simp only [if_true, List.append_nil]
      · have hf' : ¬ fuel ≤ (σ.steps : Int) := by omega
        have hg1 := hgk (by omega) h2
        simp only [go_sem, Nat.reduceEqDiff, Nat.reduceAdd, ↓reduceIte, ↓dreduceIte, Nat.reduceLeDiff, q_mach, eq_true h2, eq_false hf']
        refine rmstep_v false s inp σ hP hg1 w1 h2 hi (by omega) s.words.toNat (by omega) (by omega) (by omega) (by omega) (by omega) (by omega) _ _ 3 sc 4 _ vo v bvs junk T h3 h4 h5 h6 _ (fun r sc' v' bvs' junk' vo' T' nx' t0 t1 t2 t3 t4 => ?_) fun r memO co c3' m4' cr vo' T' nx' t0 t4 => ?_
        · simp only [go_sem]
          have hw := (hwf (k + 1) (by omega)).2
          refine ⟨⟨false, k + 1, sc', v', bvs', junk', vo', T', nx', o1R, o1R, nilv, nilv, nilv, 0, 0, []⟩, ?_, ?_, Wk.mk ?_ ⟨[], ?_⟩ (Nat.le_refl _)⟩
          · refine invR_f.2 ?_
            rw [hnext]
            exact ⟨by omega, t0, t1, t2, t3, t4⟩
          · simp only [Bool.false_eq_true, if_false]; omega
          · simp [get_cons]
          · simp only [Bool.false_eq_true, if_false, hnext, List.append_nil]
        · simp only [go_sem]
          have hrun := hfin (by rw [hnext]; exact t0) (fuel.toNat - (k + 1))
          rw [show k + 1 + (fuel.toNat - (k + 1)) = fuel.toNat by omega] at hrun
          refine ⟨⟨true, 0, 0, nilv, [], [], vo', T', nx', memO, co, c3', m4', cr, (stepS s inp σ).fin, (stepS s inp σ).steps, (stepS s inp σ).out⟩, ?_, ?_, Wk.mk ?_ ⟨[], ?_⟩ (Nat.le_refl _)⟩
          · refine invR_t.2 ⟨t0, t4, ?_⟩
            rw [hrun, hnext, resS, if_neg t0]
          · simp only [if_true]; omega
          · simp [get_cons]
          · simp only [if_true, List.append_nil]
end Go.Proofs.Ytaedcpipilnpcaa
namespace Go.Proofs.Ytaedcpipilnpcaa
set_option linter.unusedSimpArgs false
set_option linter.unusedVariables false
set_option maxRecDepth 10000
open Go.V Go.ChangeShapes Go.WideShapes Go.ChangeAt Go.RowKit
def fcL (W : Int) (m : Nat) : List AV := ((List.range m).map fun i => sfL (lgF W i)).flatten
theorem fcL_len (W : Int) (m : Nat) : (fcL W m).length = m * 5 := by
  unfold fcL
  have := sz_flat (fun i => sfL (lgF W i)) 5 (fun _ => rfl) (List.range m)
  rw [this, List.length_range]
theorem fcL_succ (W : Int) (m : Nat) : fcL W (m + 1) = fcL W m ++ sfL (lgF W m) := by simp [fcL, List.range_succ]
theorem frz_codeN {n : Nat} {H : List VObj} {nx id s ty len : Nat} (code : List SI) (hid : n ≤ id) (ho : H[id]? = some ⟨s, ty, 4, (code.map siC).flatten⟩) (hl : len = code.length) : Frz n H nx (.ref id s 0 len) (.imm 4 (code.map siA)) := by
  have h := Frz.refT (n := n) (nx := nx) (len := len) hid ho rfl rfl (yss := code.map siC) (zss := code.map siC) rfl (fun l hl => ?_) (by simp [hl]) (FrzLL.pure fun l hl => ?_)
  · rw [List.map_map] at h; exact h
  · obtain ⟨x, _, rfl⟩ := List.mem_map.1 hl; rfl
  · obtain ⟨x, _, rfl⟩ := List.mem_map.1 hl; rfl
theorem cwPre {n : Nat} {H : List VObj} {nx : Nat} {A xs ys : List AV} (h : CW n H nx xs ys) : CW n H nx (A ++ xs) (A ++ ys) := by
  refine ⟨by simp [h.1], fun i x y h1 h2 => ?_⟩
  rcases Nat.lt_or_ge i A.length with hi | hi
  · rw [List.getElem?_append_left hi] at h1 h2
    rw [h1] at h2; exact .inl (Option.some.inj h2)
  · rw [List.getElem?_append_right hi] at h1 h2
    exact h.2 _ x y h1 h2
theorem bottom_c (x : Int) : Contract Try.prog 15 [U32 x] (fun r => r = .imm 4 [siA ⟨1, 0, 0, x⟩, siA ⟨13, 0, 0, 0⟩]) := by
  refine Contract.of_call (VCall.of_body hmix f_sclaw22_bottom (by simp) ?_)
  simp only [go_sem, Nat.reduceEqDiff, Nat.reduceAdd, Nat.reduceMul, ↓reduceIte, reduceCtorEq, Nat.reduceLeDiff, c_sclaw22_bottom]
  exact ⟨_, frz_codeN [⟨1, 0, 0, x⟩, ⟨13, 0, 0, 0⟩] (Nat.zero_le _) rfl rfl, rfl⟩
theorem does_c (s : SP) (h : SzP s) (hf : FitP s) (inp : ByteArray) (hi : inp.size ≤ 1000000) (fuel : Nat) (hfu : fuel ≤ 60000) : Contract Try.prog 18 [spA s, imgC (codeE s) (dataE s), strv inp, I fuel] (fun r => r = B true) := by
  refine Contract.of_call (VCall.of_body hmix f_sclaw22_does (by simp) ?_)
  have hw0 := h.r.w0
  have hw1 := h.w
  have hc := h.cok
  have k2 := refrunS_c s inp fuel hf (by omega) (by omega) fun k _ => runS_good h.r inp k
  rw [Int.toNat_natCast] at k2
  have hst : (runS s inp (startS s) fuel).steps ≤ fuel := by
    suffices h : ∀ k, (runS s inp (startS s) k).steps ≤ k from h fuel
    intro k
    induction k with
    | zero => exact Nat.le_refl _
    | succ k ih =>
      show (stepS s inp (runS s inp (startS s) k)).steps ≤ k + 1
      unfold stepS
      split
      · rw [(stepI_sz s inp _ _).2.2.2.2]; exact Nat.succ_le_succ ih
      · exact Nat.le_succ_of_le ih
  have hm : (((runS s inp (startS s) fuel).steps : Int) + 1) * (64 + 8 * s.words) ≤ 60001 * 100000 := Int.mul_le_mul (by omega) (by omega) (by omega) (by omega)
  have k4 := fun h0 => h.run (inp := inp) (by omega) (k := fuel) hfu h0 (Int.le_refl _)
  have k3 := refRun_c (codeE s) (dataE s) inp ((((runS s inp (startS s) fuel).steps : Int) + 1) * (64 + 8 * s.words)) hc.1 hc.2 (by omega) (by omega)
  unfold runA at k3
  have k5 := fuel_c s ((runS s inp (startS s) fuel).steps : Nat) ⟨hw0, by omega⟩ ⟨by omega, by omega⟩
  generalize runF (codeE s) (dataE s) inp ((((runS s inp (startS s) fuel).steps : Int) + 1) * (64 + 8 * s.words)) = ρ at *
  generalize codeE s = code at *
  generalize dataE s = data at *
  simp only [go_sem, Nat.reduceEqDiff, Nat.reduceAdd, ↓reduceIte, ↓dreduceIte, reduceCtorEq, c_sclaw22_does]
  refine VCall.of_contract (k2) (SleL.pure rfl) fun x hx => ?_
  subst hx
  simp only [resS]
  by_cases h5 : (if (runS s inp (startS s) fuel).fin = 0 then (5 : Int) else (runS s inp (startS s) fuel).fin) = 5
  · simp only [go_sem, Nat.reduceEqDiff, Nat.reduceAdd, ↓reduceIte, Nat.reduceLeDiff, eq_true h5]
    exact ⟨_, Frz.pure rfl, rfl⟩
  have h0 : (runS s inp (startS s) fuel).fin ≠ 0 := fun e => h5 (by rw [if_pos e])
  obtain ⟨e6, e7⟩ := k4 h0
  rw [e6, e7] at k3
  rw [if_neg h0] at h5
  simp only [if_neg h0]
  simp only [go_sem, Nat.reduceEqDiff, Nat.reduceAdd, ↓reduceIte, ↓dreduceIte, reduceCtorEq, Nat.reduceLeDiff, Nat.reduceLT, eq_false h5]
  refine ECall.of (k5) (SleL.pure rfl) ⟨_, fun _ => Iff.rfl⟩ fun x hx => ?_
  subst hx
  simp only [go_sem, Nat.reduceEqDiff, ↓reduceIte]
  refine ECall.of (k3) (SleL.pure rfl) ⟨_, fun _ => Iff.rfl⟩ fun x hx => ?_
  subst hx
  simp only [go_sem, Nat.reduceEqDiff, Nat.reduceAdd, ↓reduceIte, ↓dreduceIte, Nat.reduceLT]
  refine ECall.of (ends_c _ _ _ _ _ _) (SleL.pure rfl) ⟨_, fun _ => Iff.rfl⟩ fun x hx => ?_
  subst hx
  simp only [go_sem, ↓reduceIte, beq_self_eq_true]
  exact ⟨_, Frz.pure rfl, by simp⟩
end Go.Proofs.Ytaedcpipilnpcaa
