/-
  The document's stack machine: a step. No condition.
-/
import Derived.Test.YtdfdkoajphcjbaaS8
import Derived.Test.YtdfdkoajphcjbaaM5
namespace Go.Proofs.Ytdfdkoajphcjbaa
set_option linter.unusedSimpArgs false
set_option linter.unusedVariables false
set_option maxRecDepth 10000
open Go.V

def frCs : List Fm → List AV → List AV
  | c :: fs, v :: vs => frCs fs vs ++ [I c.f, I c.at_, v]
  | _, _ => []
theorem frCs_len {T : List VObj} : ∀ {fs : List Fm} {vs : List AV}, FA T fs vs → (frCs fs vs).length = fs.length * 3
  | [], vs, h => by simp only [FA] at h; subst h; rfl
  | c :: fs, vs, h => by
    simp only [FA] at h
    obtain ⟨u, l, rfl, h1, h2, h3⟩ := h
    simp only [frCs, List.length_append, frCs_len h2, List.length_cons, List.length_nil]; omega

abbrev hM (sw : Bool) (s : SP) (inp : ByteArray) (o0 o1 : VObj) (s2 sc sM n : Nat) (mem : List Int) (rd steps : Nat) (fin : Int) (vo : AV) (top : Fm) (v : AV) (below : List Fm) (bvs junk : List AV) (T : List VObj) : List VObj :=
  hpR sw o0 o1 (wdO s2 mem) (frO sc (frCs below bvs ++ I top.f :: I top.at_ :: v :: junk)) (rmO sM [I s.words, fnsA s.funcs, strv inp, I rd, .ref (mi sw) s2 0 n, vo, I steps, I fin, .ref (ci sw) sc 0 (below.length + 1)]) T

theorem FA.kp {T T' : List VObj} (k : Kp 5 T T') : ∀ {fs : List Fm} {vs : List AV}, FA T fs vs → FA T' fs vs
  | [], vs, h => by simp only [FA] at h; subst h; rfl
  | c :: fs, vs, h => by
    simp only [FA] at h
    obtain ⟨u, l, rfl, h1, h2, h3⟩ := h
    exact ⟨u, l, rfl, h1.kp k (by decide), FA.kp k h2, h3⟩
theorem Stab.trans1 {A B C : List VObj} (h : Stab (fun _ => True) 1 A B) (k : Stab (fun _ => True) 1 B C) : Stab (fun _ => True) 1 A C := fun id ob _ ho => by
  obtain ⟨ob1, h1, h2, h3⟩ := h id ob trivial ho
  obtain ⟨ob2, k1, k2, k3⟩ := k id ob1 trivial h1
  exact ⟨ob2, k1, k2.trans h2, k3.trans h3⟩
theorem q_stab {sw : Bool} {o0 o1 mem calls calls' mach mach' : VObj} {T : List VObj} (h : calls'.s = calls.s) (hz : calls'.sz = calls.sz) (h' : mach'.s = mach.s) (hz' : mach'.sz = mach.sz) : Stab (fun _ => True) 1 (hpR sw o0 o1 mem calls mach T) (hpR sw o0 o1 mem calls' mach' T) := by
  have k1 := Stab.put (H := hpR sw o0 o1 mem calls mach T) (k := ci sw) (ob := calls) (ob' := calls') q_calls h hz
  have k2 := Stab.put (H := hpR sw o0 o1 mem calls' mach T) (k := 4) (ob := mach) (ob' := mach') q_mach h' hz'
  rw [qs_calls] at k1
  rw [qs_mach] at k2
  exact Stab.trans1 k1 k2
theorem rmstep_v (sw : Bool) (s : SP) (inp : ByteArray) (σ : SM) (hP : FitP s) (hg : Good s σ) (hw : WfS σ) (h0 : σ.fin = 0)
    (hi : inp.size ≤ 1000000000) (hr : σ.rd ≤ 1000000000) (n : Nat) (hn : n = σ.mem.length) (hm : n ≤ 1000000) (hl : (flat σ).length ≤ 900000) (ho : σ.out.length < 65536) (hbl : σ.below.length ≤ 1000000) (hst : σ.steps ≤ 1000000)
    (o0 o1 : VObj) (s2 sc sM nx : Nat) (vo v : AV) (bvs junk : List AV) (T : List VObj) (hpv : PW T v σ.top.L) (hfa : FA T σ.below bvs) (hdis : ∀ u ∈ bvs, idOf u = none ∨ idOf u ≠ idOf v) (hpo : PO T vo σ.out) (C : AV → List VObj → Nat → Prop)
    (hC1 : ∀ r sc' v' bvs' junk' vo' T' nx', (stepS s inp σ).fin = 0 → PW T' v' (stepS s inp σ).top.L → FA T' (stepS s inp σ).below bvs' → (∀ u ∈ bvs', idOf u = none ∨ idOf u ≠ idOf v') → PO T' vo' (stepS s inp σ).out →
      C r (hM sw s inp o0 o1 s2 sc' sM n (stepS s inp σ).mem (stepS s inp σ).rd (stepS s inp σ).steps (stepS s inp σ).fin vo' (stepS s inp σ).top v' (stepS s inp σ).below bvs' junk' T') nx')
    (hC2 : ∀ r memO co c3' m4' cr vo' T' nx', (stepS s inp σ).fin ≠ 0 → PO T' vo' (stepS s inp σ).out →
      C r (hpR sw o0 o1 memO co (rmO sM [I s.words, fnsA s.funcs, strv inp, c3', m4', vo', I (stepS s inp σ).steps, I (stepS s inp σ).fin, cr]) T') nx') :
    VCall Try.prog 29 [.ptr 4 sM 0] (hM sw s inp o0 o1 s2 sc sM n σ.mem σ.rd σ.steps σ.fin vo σ.top v σ.below bvs junk T) nx C := by
  refine VCall.of_body hmix f_scref20_M_step (by simp) ?_
  rw [stepS_eq h0] at hC1 hC2
  obtain ⟨p1, p2, p3, p4, p5, p6⟩ := hP
  obtain ⟨gf, gk, gok⟩ := hg
  have hxn := ins_wf p1 gf gk
  have hP6 := p6 σ.top.f
  obtain ⟨⟨op, a, b, q⟩, hx⟩ : ∃ x, s.ins σ.top.f σ.top.at_ = x := ⟨_, rfl⟩
  rw [hx] at gok hxn hC1 hC2
  obtain ⟨mem, rd, out, steps, fin, ⟨f, k, L⟩, below⟩ := σ
  obtain ⟨wm, wt, wb⟩ := hw
  simp only at hxn h0 hr hn hl ho wm wt wb hpv hfa hpo hbl gf gk hP6 hst
  subst h0
  have hlen : n ≤ mem.length := by omega
  have hmx : (2000000 : Nat) ≤ maxLen := by decide
  have ht : (frCs below bvs).length = below.length * 3 := frCs_len hfa
  have hfn : s.funcs.getD f default = s.fn f := rfl
  have hin : (s.fn f).code.getD k default = ⟨op, a, b, q⟩ := hx
  have e1 : IntKind.i64.wrap (((below.length + 1 : Nat) : Int) - 1) = (below.length : Int) := by rw [i64_in (by omega) (by omega)]; omega
  have e2 : IntKind.i64.wrap ((k : Int) + 1) = ((k + 1 : Nat) : Int) := by rw [i64_in (by omega) (by omega)]; omega
  have e3 : IntKind.i64.wrap ((steps : Int) + 1) = ((steps + 1 : Nat) : Int) := by rw [i64_in (by omega) (by omega)]; omega
  have hll : L.length ≤ 900000 := by simp only [flat, List.length_append] at hl; omega
  have hlF : (L ++ below.flatMap (·.L)).length ≤ 900000 := hl
  have hl := hll
  have hvo := hpv.one
  obtain ⟨cO, hcO⟩ : ∃ cO : VObj, cO = ⟨nx, 75, 1, [I f, I k, v]⟩ := ⟨_, rfl⟩
  obtain ⟨xO, hxO⟩ : ∃ xO : VObj, xO = ⟨nx + 1, 36, 1, [I op, I a, I b, U32 q]⟩ := ⟨_, rfl⟩
  have hpv' : PW (T ++ [cO] ++ [xO]) v L := (hpv.add _).add _
  have hfa' : FA (T ++ [cO] ++ [xO]) below bvs := (hfa.add _).add _
  have hpo' : PO (T ++ [cO] ++ [xO]) vo out := (hpo.add _).add _
  unfold OkI at gok
  simp only [SM.next] at gok
  rcases gok with e | ⟨e, ha, hb⟩ | ⟨e, ha, hb, h1⟩ | ⟨e, ha, hb, hab, h1⟩ | ⟨e, ha, hb, hab, h1⟩ | ⟨e, h1⟩ | ⟨e, h1⟩ | ⟨e, ha⟩ | ⟨e, ha, h1⟩ | ⟨e, ha, hb, hcall⟩ | ⟨e, h1⟩ | e | ⟨e, h1⟩
  all_goals subst e
  all_goals subst hcO
  all_goals subst hxO
  · -- push
    simp only [go_sem,Nat.reduceEqDiff,Nat.reduceAdd,Nat.reduceMul,↓reduceIte,↓dreduceIte,reduceCtorEq,Nat.reduceLeDiff,Nat.reduceLT,Nat.reduceSub,Int.reduceToNat,Int.reduceLE,Int.reduceLT, q_mach, q_calls, q_mem, qs_mem, qs_calls, qs_mach, q_len, q_add, q_T, qs_T, one_ref, one_imm, ponx, pg0, pg01, pg1, ps0, ps1, cellT_U32, fr_all ht, fr_0 ht, fr_1 ht, fr_2 ht, ↓hvo, e1, e2, e3, hfn, hin, Int.reduceEq, Int.reduceBEq, pg2, pg02, pg12, c_scref20_M_step]
    repeat (refine And.intro (by first | omega | rfl) ?_)
    refine rjump_v sw o0 o1 _ sc sM _ (frCs below bvs) junk (I f) _ v below.length _ _ _ _ _ _ _ _ _ ht hbl ((k + 1 : Nat) : Int) _ fun r => ?_
    simp only [go_sem,Nat.reduceEqDiff,Nat.reduceAdd,Nat.reduceMul,↓reduceIte,↓dreduceIte,reduceCtorEq,Nat.reduceLeDiff,Nat.reduceLT,Nat.reduceSub,Int.reduceToNat,Int.reduceLE,Int.reduceLT, q_mach, q_calls, q_mem, qs_mem, qs_calls, qs_mach, q_len, q_add, q_T, qs_T, one_ref, one_imm, ponx, pg0, pg01, pg1, ps0, ps1, cellT_U32, fr_all ht, fr_0 ht, fr_1 ht, fr_2 ht, ↓hvo, e1, e2, e3, hfn, hin, Int.reduceEq, Int.reduceBEq, pg2, pg02, pg12]
    repeat (refine And.intro (by first | omega | rfl) ?_)
    refine rpush_v sw o0 o1 _ sc sM _ (frCs below bvs) junk (I f) _ v below.length _ _ _ _ _ _ _ _ _ ht hbl (L) _ (by omega) hpv' _ fun r T' v9 nx' k1 k2 => ?_
    simp only [go_sem,Nat.reduceEqDiff,Nat.reduceAdd,Nat.reduceMul,↓reduceIte,↓dreduceIte,reduceCtorEq,Nat.reduceLeDiff,Nat.reduceLT,Nat.reduceSub,Int.reduceToNat,Int.reduceLE,Int.reduceLT, q_mach, q_calls, q_mem, qs_mem, qs_calls, qs_mach, q_len, q_add, q_T, qs_T, one_ref, one_imm, ponx, pg0, pg01, pg1, ps0, ps1, cellT_U32, fr_all ht, fr_0 ht, fr_1 ht, fr_2 ht, ↓hvo, e1, e2, e3, hfn, hin, Int.reduceEq, Int.reduceBEq, pg2, pg02, pg12]
    obtain ⟨j1, j2⟩ := FA.up k2 hfa' hdis
    exact hC1 _ _ _ _ _ _ _ _ rfl k1 j1 j2 (hpo'.up hpv' k2)
  · -- load
    simp only [go_sem,Nat.reduceEqDiff,Nat.reduceAdd,Nat.reduceMul,↓reduceIte,↓dreduceIte,reduceCtorEq,Nat.reduceLeDiff,Nat.reduceLT,Nat.reduceSub,Int.reduceToNat,Int.reduceLE,Int.reduceLT, q_mach, q_calls, q_mem, qs_mem, qs_calls, qs_mach, q_len, q_add, q_T, qs_T, one_ref, one_imm, ponx, pg0, pg01, pg1, ps0, ps1, cellT_U32, fr_all ht, fr_0 ht, fr_1 ht, fr_2 ht, ↓hvo, e1, e2, e3, hfn, hin, Int.reduceEq, Int.reduceBEq, pg2, pg02, pg12, c_scref20_M_step]
    repeat (refine And.intro (by first | omega | rfl) ?_)
    refine rjump_v sw o0 o1 _ sc sM _ (frCs below bvs) junk (I f) _ v below.length _ _ _ _ _ _ _ _ _ ht hbl ((k + 1 : Nat) : Int) _ fun r => ?_
    simp only [go_sem,Nat.reduceEqDiff,Nat.reduceAdd,Nat.reduceMul,↓reduceIte,↓dreduceIte,reduceCtorEq,Nat.reduceLeDiff,Nat.reduceLT,Nat.reduceSub,Int.reduceToNat,Int.reduceLE,Int.reduceLT, q_mach, q_calls, q_mem, qs_mem, qs_calls, qs_mach, q_len, q_add, q_T, qs_T, one_ref, one_imm, ponx, pg0, pg01, pg1, ps0, ps1, cellT_U32, fr_all ht, fr_0 ht, fr_1 ht, fr_2 ht, ↓hvo, e1, e2, e3, hfn, hin, Int.reduceEq, Int.reduceBEq, pg2, pg02, pg12]
    repeat (refine And.intro (by first | omega | rfl) ?_)
    refine rpush_v sw o0 o1 _ sc sM _ (frCs below bvs) junk (I f) _ v below.length _ _ _ _ _ _ _ _ _ ht hbl (L) _ (by omega) hpv' _ fun r T' v9 nx' k1 k2 => ?_
    simp only [go_sem,Nat.reduceEqDiff,Nat.reduceAdd,Nat.reduceMul,↓reduceIte,↓dreduceIte,reduceCtorEq,Nat.reduceLeDiff,Nat.reduceLT,Nat.reduceSub,Int.reduceToNat,Int.reduceLE,Int.reduceLT, q_mach, q_calls, q_mem, qs_mem, qs_calls, qs_mach, q_len, q_add, q_T, qs_T, one_ref, one_imm, ponx, pg0, pg01, pg1, ps0, ps1, cellT_U32, fr_all ht, fr_0 ht, fr_1 ht, fr_2 ht, ↓hvo, e1, e2, e3, hfn, hin, Int.reduceEq, Int.reduceBEq, pg2, pg02, pg12]
    obtain ⟨j1, j2⟩ := FA.up k2 hfa' hdis
    exact hC1 _ _ _ _ _ _ _ _ rfl k1 j1 j2 (hpo'.up hpv' k2)
  · -- store
    obtain ⟨x, L, rfl⟩ : ∃ x L', L = x :: L' := by cases L with | nil => simp at h1 | cons x L => exact ⟨x, L, rfl⟩
    have hl1 : L.length ≤ 1000000 := by simp at hl ⊢; omega
    have hv : In32 x := wt x (by simp)
    have hset : (mem.map U32).set a.toNat (U32 x) = (mem.set a.toNat x).map U32 := set_map U32 _ _ _
    simp only [go_sem,Nat.reduceEqDiff,Nat.reduceAdd,Nat.reduceMul,↓reduceIte,↓dreduceIte,reduceCtorEq,Nat.reduceLeDiff,Nat.reduceLT,Nat.reduceSub,Int.reduceToNat,Int.reduceLE,Int.reduceLT, q_mach, q_calls, q_mem, qs_mem, qs_calls, qs_mach, q_len, q_add, q_T, qs_T, one_ref, one_imm, ponx, pg0, pg01, pg1, ps0, ps1, cellT_U32, fr_all ht, fr_0 ht, fr_1 ht, fr_2 ht, ↓hvo, e1, e2, e3, hfn, hin, Int.reduceEq, Int.reduceBEq, pg2, pg02, pg12, c_scref20_M_step]
    repeat (refine And.intro (by first | omega | rfl) ?_)
    refine rjump_v sw o0 o1 _ sc sM _ (frCs below bvs) junk (I f) _ v below.length _ _ _ _ _ _ _ _ _ ht hbl ((k + 1 : Nat) : Int) _ fun r => ?_
    simp only [go_sem,Nat.reduceEqDiff,Nat.reduceAdd,Nat.reduceMul,↓reduceIte,↓dreduceIte,reduceCtorEq,Nat.reduceLeDiff,Nat.reduceLT,Nat.reduceSub,Int.reduceToNat,Int.reduceLE,Int.reduceLT, q_mach, q_calls, q_mem, qs_mem, qs_calls, qs_mach, q_len, q_add, q_T, qs_T, one_ref, one_imm, ponx, pg0, pg01, pg1, ps0, ps1, cellT_U32, fr_all ht, fr_0 ht, fr_1 ht, fr_2 ht, ↓hvo, e1, e2, e3, hfn, hin, Int.reduceEq, Int.reduceBEq, pg2, pg02, pg12]
    repeat (refine And.intro (by first | omega | rfl) ?_)
    refine ⟨⟨?_, ?_⟩, ⟨?_, ?_⟩, ?_⟩
    all_goals
      refine rpop_v sw o0 o1 _ sc sM _ (frCs below bvs) junk (I f) _ v below.length _ _ _ _ _ _ _ _ _ ht hbl (L) x hl1 hpv' _ fun v2 g g2 => ?_
      have hd2 : ∀ u ∈ bvs, idOf u = none ∨ idOf u ≠ idOf v2 := fun u hu => by rw [g2]; exact hdis u hu
      refine ⟨q_stab rfl rfl rfl rfl, ?_⟩
      simp only [go_sem,Nat.reduceEqDiff,Nat.reduceAdd,Nat.reduceMul,↓reduceIte,↓dreduceIte,reduceCtorEq,Nat.reduceLeDiff,Nat.reduceLT,Nat.reduceSub,Int.reduceToNat,Int.reduceLE,Int.reduceLT, q_mach, q_calls, q_mem, qs_mem, qs_calls, qs_mach, q_len, q_add, q_T, qs_T, one_ref, one_imm, ponx, pg0, pg01, pg1, ps0, ps1, cellT_U32, fr_all ht, fr_0 ht, fr_1 ht, fr_2 ht, ↓hvo, e1, e2, e3, hfn, hin, Int.reduceEq, Int.reduceBEq, pg2, pg02, pg12, hset]
      repeat (refine And.intro (by first | omega | (simp; omega)) ?_)
      exact hC1 _ _ _ _ _ _ _ _ rfl g hfa' hd2 hpo'
  · -- aload
    obtain ⟨x, L, rfl⟩ : ∃ x L', L = x :: L' := by cases L with | nil => simp at h1 | cons x L => exact ⟨x, L, rfl⟩
    have hl1 : L.length ≤ 1000000 := by simp at hl ⊢; omega
    have hv : In32 x := wt x (by simp)
    have e4 : IntKind.u32.wrap b = b := w32_in ⟨by omega, by omega⟩
    have hv1 := hv.1
    have hv2 := hv.2
    simp only [go_sem,Nat.reduceEqDiff,Nat.reduceAdd,Nat.reduceMul,↓reduceIte,↓dreduceIte,reduceCtorEq,Nat.reduceLeDiff,Nat.reduceLT,Nat.reduceSub,Int.reduceToNat,Int.reduceLE,Int.reduceLT, q_mach, q_calls, q_mem, qs_mem, qs_calls, qs_mach, q_len, q_add, q_T, qs_T, one_ref, one_imm, ponx, pg0, pg01, pg1, ps0, ps1, cellT_U32, fr_all ht, fr_0 ht, fr_1 ht, fr_2 ht, ↓hvo, e1, e2, e3, hfn, hin, Int.reduceEq, Int.reduceBEq, pg2, pg02, pg12, c_scref20_M_step]
    repeat (refine And.intro (by first | omega | rfl) ?_)
    refine rjump_v sw o0 o1 _ sc sM _ (frCs below bvs) junk (I f) _ v below.length _ _ _ _ _ _ _ _ _ ht hbl ((k + 1 : Nat) : Int) _ fun r => ?_
    simp only [go_sem,Nat.reduceEqDiff,Nat.reduceAdd,Nat.reduceMul,↓reduceIte,↓dreduceIte,reduceCtorEq,Nat.reduceLeDiff,Nat.reduceLT,Nat.reduceSub,Int.reduceToNat,Int.reduceLE,Int.reduceLT, q_mach, q_calls, q_mem, qs_mem, qs_calls, qs_mach, q_len, q_add, q_T, qs_T, one_ref, one_imm, ponx, pg0, pg01, pg1, ps0, ps1, cellT_U32, fr_all ht, fr_0 ht, fr_1 ht, fr_2 ht, ↓hvo, e1, e2, e3, hfn, hin, Int.reduceEq, Int.reduceBEq, pg2, pg02, pg12]
    repeat (refine And.intro (by first | omega | rfl) ?_)
    refine rpop_v sw o0 o1 _ sc sM _ (frCs below bvs) junk (I f) _ v below.length _ _ _ _ _ _ _ _ _ ht hbl (L) x hl1 hpv' _ fun v2 g g2 => ?_
    have hd2 : ∀ u ∈ bvs, idOf u = none ∨ idOf u ≠ idOf v2 := fun u hu => by rw [g2]; exact hdis u hu
    by_cases h : x < b
    · have hs : stepI s inp ⟨4, a, b, q⟩ (SM.next ⟨mem, rd, out, steps, 0, ⟨f, k, x :: L⟩, below⟩) = ⟨mem, rd, out, steps + 1, 0, ⟨f, k + 1, mem.getD (a + x).toNat default :: L⟩, below⟩ := by
        show (if x < b then _ else _) = _
        rw [if_pos h]; rfl
      rw [hs] at hC1 hC2
      have e5 : IntKind.i64.wrap x = x := i64_in (by omega) (by omega)
      have e6 : IntKind.i64.wrap (a + x) = a + x := i64_in (by omega) (by omega)
      simp only [go_sem,Nat.reduceEqDiff,Nat.reduceAdd,Nat.reduceMul,↓reduceIte,↓dreduceIte,reduceCtorEq,Nat.reduceLeDiff,Nat.reduceLT,Nat.reduceSub,Int.reduceToNat,Int.reduceLE,Int.reduceLT, q_mach, q_calls, q_mem, qs_mem, qs_calls, qs_mach, q_len, q_add, q_T, qs_T, one_ref, one_imm, ponx, pg0, pg01, pg1, ps0, ps1, cellT_U32, fr_all ht, fr_0 ht, fr_1 ht, fr_2 ht, ↓hvo, e1, e2, e3, hfn, hin, Int.reduceEq, Int.reduceBEq, pg2, pg02, pg12, e4, e5, e6, eq_false (show ¬ b ≤ x by omega)]
      repeat (refine And.intro (by omega) ?_)
      refine rpush_v sw o0 o1 _ sc sM _ (frCs below bvs) junk (I f) _ v2 below.length _ _ _ _ _ _ _ _ _ ht hbl (L) _ hl1 g _ fun r T' v9 nx' k1 k2 => ?_
      simp only [go_sem,Nat.reduceEqDiff,Nat.reduceAdd,Nat.reduceMul,↓reduceIte,↓dreduceIte,reduceCtorEq,Nat.reduceLeDiff,Nat.reduceLT,Nat.reduceSub,Int.reduceToNat,Int.reduceLE,Int.reduceLT, q_mach, q_calls, q_mem, qs_mem, qs_calls, qs_mach, q_len, q_add, q_T, qs_T, one_ref, one_imm, ponx, pg0, pg01, pg1, ps0, ps1, cellT_U32, fr_all ht, fr_0 ht, fr_1 ht, fr_2 ht, ↓hvo, e1, e2, e3, hfn, hin, Int.reduceEq, Int.reduceBEq, pg2, pg02, pg12]
      obtain ⟨j1, j2⟩ := FA.up k2 hfa' hd2
      exact hC1 _ _ _ _ _ _ _ _ rfl k1 j1 j2 (hpo'.up g k2)
    · have hs : stepI s inp ⟨4, a, b, q⟩ (SM.next ⟨mem, rd, out, steps, 0, ⟨f, k, x :: L⟩, below⟩) = ⟨mem, rd, out, steps + 1, 3, ⟨f, k + 1, x :: L⟩, below⟩ := by
        show (if x < b then _ else _) = _
        rw [if_neg h]; rfl
      rw [hs] at hC1 hC2
      simp only [go_sem,Nat.reduceEqDiff,Nat.reduceAdd,Nat.reduceMul,↓reduceIte,↓dreduceIte,reduceCtorEq,Nat.reduceLeDiff,Nat.reduceLT,Nat.reduceSub,Int.reduceToNat,Int.reduceLE,Int.reduceLT, q_mach, q_calls, q_mem, qs_mem, qs_calls, qs_mach, q_len, q_add, q_T, qs_T, one_ref, one_imm, ponx, pg0, pg01, pg1, ps0, ps1, cellT_U32, fr_all ht, fr_0 ht, fr_1 ht, fr_2 ht, ↓hvo, e1, e2, e3, hfn, hin, Int.reduceEq, Int.reduceBEq, pg2, pg02, pg12, e4, eq_true (show b ≤ x by omega)]
      exact hC2 _ _ _ _ _ _ _ _ _ (by simp) hpo'
  · -- astore
    obtain ⟨x, w, L, rfl⟩ : ∃ x w L', L = x :: w :: L' := by
      match L, h1 with
      | x :: w :: L, _ => exact ⟨x, w, L, rfl⟩
    have hl1 : L.length ≤ 1000000 := by simp at hl ⊢; omega
    have hl2 : (w :: L).length ≤ 1000000 := by simp at hl ⊢; omega
    have hv : In32 x := wt x (by simp)
    have hw : In32 w := wt w (by simp)
    have e4 : IntKind.u32.wrap b = b := w32_in ⟨by omega, by omega⟩
    have hv1 := hw.1
    have hv2 := hw.2
    simp only [go_sem,Nat.reduceEqDiff,Nat.reduceAdd,Nat.reduceMul,↓reduceIte,↓dreduceIte,reduceCtorEq,Nat.reduceLeDiff,Nat.reduceLT,Nat.reduceSub,Int.reduceToNat,Int.reduceLE,Int.reduceLT, q_mach, q_calls, q_mem, qs_mem, qs_calls, qs_mach, q_len, q_add, q_T, qs_T, one_ref, one_imm, ponx, pg0, pg01, pg1, ps0, ps1, cellT_U32, fr_all ht, fr_0 ht, fr_1 ht, fr_2 ht, ↓hvo, e1, e2, e3, hfn, hin, Int.reduceEq, Int.reduceBEq, pg2, pg02, pg12, c_scref20_M_step]
    repeat (refine And.intro (by first | omega | rfl) ?_)
    refine rjump_v sw o0 o1 _ sc sM _ (frCs below bvs) junk (I f) _ v below.length _ _ _ _ _ _ _ _ _ ht hbl ((k + 1 : Nat) : Int) _ fun r => ?_
    simp only [go_sem,Nat.reduceEqDiff,Nat.reduceAdd,Nat.reduceMul,↓reduceIte,↓dreduceIte,reduceCtorEq,Nat.reduceLeDiff,Nat.reduceLT,Nat.reduceSub,Int.reduceToNat,Int.reduceLE,Int.reduceLT, q_mach, q_calls, q_mem, qs_mem, qs_calls, qs_mach, q_len, q_add, q_T, qs_T, one_ref, one_imm, ponx, pg0, pg01, pg1, ps0, ps1, cellT_U32, fr_all ht, fr_0 ht, fr_1 ht, fr_2 ht, ↓hvo, e1, e2, e3, hfn, hin, Int.reduceEq, Int.reduceBEq, pg2, pg02, pg12]
    repeat (refine And.intro (by first | omega | rfl) ?_)
    refine rpop_v sw o0 o1 _ sc sM _ (frCs below bvs) junk (I f) _ v below.length _ _ _ _ _ _ _ _ _ ht hbl (w :: L) x hl2 hpv' _ fun v2 g g2 => ?_
    simp only [go_sem,Nat.reduceEqDiff,Nat.reduceAdd,Nat.reduceMul,↓reduceIte,↓dreduceIte,reduceCtorEq,Nat.reduceLeDiff,Nat.reduceLT,Nat.reduceSub,Int.reduceToNat,Int.reduceLE,Int.reduceLT, q_mach, q_calls, q_mem, qs_mem, qs_calls, qs_mach, q_len, q_add, q_T, qs_T, one_ref, one_imm, ponx, pg0, pg01, pg1, ps0, ps1, cellT_U32, fr_all ht, fr_0 ht, fr_1 ht, fr_2 ht, ↓hvo, e1, e2, e3, hfn, hin, Int.reduceEq, Int.reduceBEq, pg2, pg02, pg12]
    refine rpop_v sw o0 o1 _ sc sM _ (frCs below bvs) junk (I f) _ v2 below.length _ _ _ _ _ _ _ _ _ ht hbl (L) w hl1 g _ fun v3 g3 g4 => ?_
    have hd2 : ∀ u ∈ bvs, idOf u = none ∨ idOf u ≠ idOf v3 := fun u hu => by rw [g4, g2]; exact hdis u hu
    by_cases h : w < b
    · have hs : stepI s inp ⟨5, a, b, q⟩ (SM.next ⟨mem, rd, out, steps, 0, ⟨f, k, x :: w :: L⟩, below⟩) = ⟨mem.set (a + w).toNat x, rd, out, steps + 1, 0, ⟨f, k + 1, L⟩, below⟩ := by
        show (if w < b then _ else _) = _
        rw [if_pos h]; rfl
      rw [hs] at hC1 hC2
      have e5 : IntKind.i64.wrap w = w := i64_in (by omega) (by omega)
      have e6 : IntKind.i64.wrap (a + w) = a + w := i64_in (by omega) (by omega)
      have hset : (mem.map U32).set (a + w).toNat (U32 x) = (mem.set (a + w).toNat x).map U32 := set_map U32 _ _ _
      simp only [go_sem,Nat.reduceEqDiff,Nat.reduceAdd,Nat.reduceMul,↓reduceIte,↓dreduceIte,reduceCtorEq,Nat.reduceLeDiff,Nat.reduceLT,Nat.reduceSub,Int.reduceToNat,Int.reduceLE,Int.reduceLT, q_mach, q_calls, q_mem, qs_mem, qs_calls, qs_mach, q_len, q_add, q_T, qs_T, one_ref, one_imm, ponx, pg0, pg01, pg1, ps0, ps1, cellT_U32, fr_all ht, fr_0 ht, fr_1 ht, fr_2 ht, ↓hvo, e1, e2, e3, hfn, hin, Int.reduceEq, Int.reduceBEq, pg2, pg02, pg12, e4, e5, e6, hset, eq_false (show ¬ b ≤ w by omega)]
      repeat (refine And.intro (by omega) ?_)
      exact hC1 _ _ _ _ _ _ _ _ rfl g3 hfa' hd2 hpo'
    · have hs : stepI s inp ⟨5, a, b, q⟩ (SM.next ⟨mem, rd, out, steps, 0, ⟨f, k, x :: w :: L⟩, below⟩) = ⟨mem, rd, out, steps + 1, 3, ⟨f, k + 1, x :: w :: L⟩, below⟩ := by
        show (if w < b then _ else _) = _
        rw [if_neg h]; rfl
      rw [hs] at hC1 hC2
      simp only [go_sem,Nat.reduceEqDiff,Nat.reduceAdd,Nat.reduceMul,↓reduceIte,↓dreduceIte,reduceCtorEq,Nat.reduceLeDiff,Nat.reduceLT,Nat.reduceSub,Int.reduceToNat,Int.reduceLE,Int.reduceLT, q_mach, q_calls, q_mem, qs_mem, qs_calls, qs_mach, q_len, q_add, q_T, qs_T, one_ref, one_imm, ponx, pg0, pg01, pg1, ps0, ps1, cellT_U32, fr_all ht, fr_0 ht, fr_1 ht, fr_2 ht, ↓hvo, e1, e2, e3, hfn, hin, Int.reduceEq, Int.reduceBEq, pg2, pg02, pg12, e4, eq_true (show b ≤ w by omega)]
      exact hC2 _ _ _ _ _ _ _ _ _ (by simp) hpo'
  · -- op
    obtain ⟨x, w, L, rfl⟩ : ∃ x w L', L = x :: w :: L' := by
      match L, h1 with
      | x :: w :: L, _ => exact ⟨x, w, L, rfl⟩
    have hl1 : L.length ≤ 1000000 := by simp at hl ⊢; omega
    have hl2 : (w :: L).length ≤ 1000000 := by simp at hl ⊢; omega
    have hv : In32 x := wt x (by simp)
    have hw : In32 w := wt w (by simp)
    simp only [go_sem,Nat.reduceEqDiff,Nat.reduceAdd,Nat.reduceMul,↓reduceIte,↓dreduceIte,reduceCtorEq,Nat.reduceLeDiff,Nat.reduceLT,Nat.reduceSub,Int.reduceToNat,Int.reduceLE,Int.reduceLT, q_mach, q_calls, q_mem, qs_mem, qs_calls, qs_mach, q_len, q_add, q_T, qs_T, one_ref, one_imm, ponx, pg0, pg01, pg1, ps0, ps1, cellT_U32, fr_all ht, fr_0 ht, fr_1 ht, fr_2 ht, ↓hvo, e1, e2, e3, hfn, hin, Int.reduceEq, Int.reduceBEq, pg2, pg02, pg12, c_scref20_M_step]
    repeat (refine And.intro (by first | omega | rfl) ?_)
    refine rjump_v sw o0 o1 _ sc sM _ (frCs below bvs) junk (I f) _ v below.length _ _ _ _ _ _ _ _ _ ht hbl ((k + 1 : Nat) : Int) _ fun r => ?_
    simp only [go_sem,Nat.reduceEqDiff,Nat.reduceAdd,Nat.reduceMul,↓reduceIte,↓dreduceIte,reduceCtorEq,Nat.reduceLeDiff,Nat.reduceLT,Nat.reduceSub,Int.reduceToNat,Int.reduceLE,Int.reduceLT, q_mach, q_calls, q_mem, qs_mem, qs_calls, qs_mach, q_len, q_add, q_T, qs_T, one_ref, one_imm, ponx, pg0, pg01, pg1, ps0, ps1, cellT_U32, fr_all ht, fr_0 ht, fr_1 ht, fr_2 ht, ↓hvo, e1, e2, e3, hfn, hin, Int.reduceEq, Int.reduceBEq, pg2, pg02, pg12]
    repeat (refine And.intro (by first | omega | rfl) ?_)
    refine rpop_v sw o0 o1 _ sc sM _ (frCs below bvs) junk (I f) _ v below.length _ _ _ _ _ _ _ _ _ ht hbl (w :: L) x hl2 hpv' _ fun v2 g g2 => ?_
    simp only [go_sem,Nat.reduceEqDiff,Nat.reduceAdd,Nat.reduceMul,↓reduceIte,↓dreduceIte,reduceCtorEq,Nat.reduceLeDiff,Nat.reduceLT,Nat.reduceSub,Int.reduceToNat,Int.reduceLE,Int.reduceLT, q_mach, q_calls, q_mem, qs_mem, qs_calls, qs_mach, q_len, q_add, q_T, qs_T, one_ref, one_imm, ponx, pg0, pg01, pg1, ps0, ps1, cellT_U32, fr_all ht, fr_0 ht, fr_1 ht, fr_2 ht, ↓hvo, e1, e2, e3, hfn, hin, Int.reduceEq, Int.reduceBEq, pg2, pg02, pg12]
    refine rpop_v sw o0 o1 _ sc sM _ (frCs below bvs) junk (I f) _ v2 below.length _ _ _ _ _ _ _ _ _ ht hbl (L) w hl1 g _ fun v3 g3 g4 => ?_
    have hd2 : ∀ u ∈ bvs, idOf u = none ∨ idOf u ≠ idOf v3 := fun u hu => by rw [g4, g2]; exact hdis u hu
    simp only [go_sem,Nat.reduceEqDiff,Nat.reduceAdd,Nat.reduceMul,↓reduceIte,↓dreduceIte,reduceCtorEq,Nat.reduceLeDiff,Nat.reduceLT,Nat.reduceSub,Int.reduceToNat,Int.reduceLE,Int.reduceLT, q_mach, q_calls, q_mem, qs_mem, qs_calls, qs_mach, q_len, q_add, q_T, qs_T, one_ref, one_imm, ponx, pg0, pg01, pg1, ps0, ps1, cellT_U32, fr_all ht, fr_0 ht, fr_1 ht, fr_2 ht, ↓hvo, e1, e2, e3, hfn, hin, Int.reduceEq, Int.reduceBEq, pg2, pg02, pg12]
    refine VCall.of_contract (refapply_c a w x hw hv) (SleL.pure rfl) fun r hr => ?_
    subst hr
    by_cases h : (applyW a w x).2 = 0
    · have hs : stepI s inp ⟨6, a, b, q⟩ (SM.next ⟨mem, rd, out, steps, 0, ⟨f, k, x :: w :: L⟩, below⟩) = ⟨mem, rd, out, steps + 1, 0, ⟨f, k + 1, (applyW a w x).1 :: L⟩, below⟩ := by
        show (if (applyW a w x).2 = 0 then _ else _) = _
        rw [if_pos h]; rfl
      rw [hs] at hC1 hC2
      simp only [go_sem,Nat.reduceEqDiff,Nat.reduceAdd,Nat.reduceMul,↓reduceIte,↓dreduceIte,reduceCtorEq,Nat.reduceLeDiff,Nat.reduceLT,Nat.reduceSub,Int.reduceToNat,Int.reduceLE,Int.reduceLT, q_mach, q_calls, q_mem, qs_mem, qs_calls, qs_mach, q_len, q_add, q_T, qs_T, one_ref, one_imm, ponx, pg0, pg01, pg1, ps0, ps1, cellT_U32, fr_all ht, fr_0 ht, fr_1 ht, fr_2 ht, ↓hvo, e1, e2, e3, hfn, hin, Int.reduceEq, Int.reduceBEq, pg2, pg02, pg12, h]
      refine rpush_v sw o0 o1 _ sc sM _ (frCs below bvs) junk (I f) _ v3 below.length _ _ _ _ _ _ _ _ _ ht hbl (L) _ hl1 g3 _ fun r T' v9 nx' k1 k2 => ?_
      simp only [go_sem,Nat.reduceEqDiff,Nat.reduceAdd,Nat.reduceMul,↓reduceIte,↓dreduceIte,reduceCtorEq,Nat.reduceLeDiff,Nat.reduceLT,Nat.reduceSub,Int.reduceToNat,Int.reduceLE,Int.reduceLT, q_mach, q_calls, q_mem, qs_mem, qs_calls, qs_mach, q_len, q_add, q_T, qs_T, one_ref, one_imm, ponx, pg0, pg01, pg1, ps0, ps1, cellT_U32, fr_all ht, fr_0 ht, fr_1 ht, fr_2 ht, ↓hvo, e1, e2, e3, hfn, hin, Int.reduceEq, Int.reduceBEq, pg2, pg02, pg12]
      obtain ⟨j1, j2⟩ := FA.up k2 hfa' hd2
      exact hC1 _ _ _ _ _ _ _ _ rfl k1 j1 j2 (hpo'.up g3 k2)
    · have hs : stepI s inp ⟨6, a, b, q⟩ (SM.next ⟨mem, rd, out, steps, 0, ⟨f, k, x :: w :: L⟩, below⟩) = ⟨mem, rd, out, steps + 1, 2, ⟨f, k + 1, x :: w :: L⟩, below⟩ := by
        show (if (applyW a w x).2 = 0 then _ else _) = _
        rw [if_neg h]; rfl
      rw [hs] at hC1 hC2
      simp only [go_sem,Nat.reduceEqDiff,Nat.reduceAdd,Nat.reduceMul,↓reduceIte,↓dreduceIte,reduceCtorEq,Nat.reduceLeDiff,Nat.reduceLT,Nat.reduceSub,Int.reduceToNat,Int.reduceLE,Int.reduceLT, q_mach, q_calls, q_mem, qs_mem, qs_calls, qs_mach, q_len, q_add, q_T, qs_T, one_ref, one_imm, ponx, pg0, pg01, pg1, ps0, ps1, cellT_U32, fr_all ht, fr_0 ht, fr_1 ht, fr_2 ht, ↓hvo, e1, e2, e3, hfn, hin, Int.reduceEq, Int.reduceBEq, pg2, pg02, pg12, eq_false h]
      repeat (refine And.intro (by first | omega | simp [h]) ?_)
      exact hC2 _ _ _ _ _ _ _ _ _ (by simp) hpo'
  · -- not
    obtain ⟨x, L, rfl⟩ : ∃ x L', L = x :: L' := by cases L with | nil => simp at h1 | cons x L => exact ⟨x, L, rfl⟩
    have hl1 : L.length ≤ 1000000 := by simp at hl ⊢; omega
    have hv : In32 x := wt x (by simp)
    simp only [go_sem,Nat.reduceEqDiff,Nat.reduceAdd,Nat.reduceMul,↓reduceIte,↓dreduceIte,reduceCtorEq,Nat.reduceLeDiff,Nat.reduceLT,Nat.reduceSub,Int.reduceToNat,Int.reduceLE,Int.reduceLT, q_mach, q_calls, q_mem, qs_mem, qs_calls, qs_mach, q_len, q_add, q_T, qs_T, one_ref, one_imm, ponx, pg0, pg01, pg1, ps0, ps1, cellT_U32, fr_all ht, fr_0 ht, fr_1 ht, fr_2 ht, ↓hvo, e1, e2, e3, hfn, hin, Int.reduceEq, Int.reduceBEq, pg2, pg02, pg12, c_scref20_M_step]
    repeat (refine And.intro (by first | omega | rfl) ?_)
    refine rjump_v sw o0 o1 _ sc sM _ (frCs below bvs) junk (I f) _ v below.length _ _ _ _ _ _ _ _ _ ht hbl ((k + 1 : Nat) : Int) _ fun r => ?_
    simp only [go_sem,Nat.reduceEqDiff,Nat.reduceAdd,Nat.reduceMul,↓reduceIte,↓dreduceIte,reduceCtorEq,Nat.reduceLeDiff,Nat.reduceLT,Nat.reduceSub,Int.reduceToNat,Int.reduceLE,Int.reduceLT, q_mach, q_calls, q_mem, qs_mem, qs_calls, qs_mach, q_len, q_add, q_T, qs_T, one_ref, one_imm, ponx, pg0, pg01, pg1, ps0, ps1, cellT_U32, fr_all ht, fr_0 ht, fr_1 ht, fr_2 ht, ↓hvo, e1, e2, e3, hfn, hin, Int.reduceEq, Int.reduceBEq, pg2, pg02, pg12]
    repeat (refine And.intro (by first | omega | rfl) ?_)
    refine rpop_v sw o0 o1 _ sc sM _ (frCs below bvs) junk (I f) _ v below.length _ _ _ _ _ _ _ _ _ ht hbl (L) x hl1 hpv' _ fun v2 g g2 => ?_
    have hd2 : ∀ u ∈ bvs, idOf u = none ∨ idOf u ≠ idOf v2 := fun u hu => by rw [g2]; exact hdis u hu
    have hs : stepI s inp ⟨7, a, b, q⟩ (SM.next ⟨mem, rd, out, steps, 0, ⟨f, k, x :: L⟩, below⟩) = ⟨mem, rd, out, steps + 1, 0, ⟨f, k + 1, (if x = 0 then 1 else 0) :: L⟩, below⟩ := rfl
    rw [hs] at hC1 hC2
    by_cases h : x = 0
    · rw [if_pos h] at hC1
      simp only [go_sem,Nat.reduceEqDiff,Nat.reduceAdd,Nat.reduceMul,↓reduceIte,↓dreduceIte,reduceCtorEq,Nat.reduceLeDiff,Nat.reduceLT,Nat.reduceSub,Int.reduceToNat,Int.reduceLE,Int.reduceLT, q_mach, q_calls, q_mem, qs_mem, qs_calls, qs_mach, q_len, q_add, q_T, qs_T, one_ref, one_imm, ponx, pg0, pg01, pg1, ps0, ps1, cellT_U32, fr_all ht, fr_0 ht, fr_1 ht, fr_2 ht, ↓hvo, e1, e2, e3, hfn, hin, Int.reduceEq, Int.reduceBEq, pg2, pg02, pg12, eq_true h]
      refine rpush_v sw o0 o1 _ sc sM _ (frCs below bvs) junk (I f) _ v2 below.length _ _ _ _ _ _ _ _ _ ht hbl (L) _ hl1 g _ fun r T' v9 nx' k1 k2 => ?_
      simp only [go_sem,Nat.reduceEqDiff,Nat.reduceAdd,Nat.reduceMul,↓reduceIte,↓dreduceIte,reduceCtorEq,Nat.reduceLeDiff,Nat.reduceLT,Nat.reduceSub,Int.reduceToNat,Int.reduceLE,Int.reduceLT, q_mach, q_calls, q_mem, qs_mem, qs_calls, qs_mach, q_len, q_add, q_T, qs_T, one_ref, one_imm, ponx, pg0, pg01, pg1, ps0, ps1, cellT_U32, fr_all ht, fr_0 ht, fr_1 ht, fr_2 ht, ↓hvo, e1, e2, e3, hfn, hin, Int.reduceEq, Int.reduceBEq, pg2, pg02, pg12]
      obtain ⟨j1, j2⟩ := FA.up k2 hfa' hd2
      exact hC1 _ _ _ _ _ _ _ _ rfl k1 j1 j2 (hpo'.up g k2)
    · rw [if_neg h] at hC1
      simp only [go_sem,Nat.reduceEqDiff,Nat.reduceAdd,Nat.reduceMul,↓reduceIte,↓dreduceIte,reduceCtorEq,Nat.reduceLeDiff,Nat.reduceLT,Nat.reduceSub,Int.reduceToNat,Int.reduceLE,Int.reduceLT, q_mach, q_calls, q_mem, qs_mem, qs_calls, qs_mach, q_len, q_add, q_T, qs_T, one_ref, one_imm, ponx, pg0, pg01, pg1, ps0, ps1, cellT_U32, fr_all ht, fr_0 ht, fr_1 ht, fr_2 ht, ↓hvo, e1, e2, e3, hfn, hin, Int.reduceEq, Int.reduceBEq, pg2, pg02, pg12, eq_false h]
      refine rpush_v sw o0 o1 _ sc sM _ (frCs below bvs) junk (I f) _ v2 below.length _ _ _ _ _ _ _ _ _ ht hbl (L) _ hl1 g _ fun r T' v9 nx' k1 k2 => ?_
      simp only [go_sem,Nat.reduceEqDiff,Nat.reduceAdd,Nat.reduceMul,↓reduceIte,↓dreduceIte,reduceCtorEq,Nat.reduceLeDiff,Nat.reduceLT,Nat.reduceSub,Int.reduceToNat,Int.reduceLE,Int.reduceLT, q_mach, q_calls, q_mem, qs_mem, qs_calls, qs_mach, q_len, q_add, q_T, qs_T, one_ref, one_imm, ponx, pg0, pg01, pg1, ps0, ps1, cellT_U32, fr_all ht, fr_0 ht, fr_1 ht, fr_2 ht, ↓hvo, e1, e2, e3, hfn, hin, Int.reduceEq, Int.reduceBEq, pg2, pg02, pg12]
      obtain ⟨j1, j2⟩ := FA.up k2 hfa' hd2
      exact hC1 _ _ _ _ _ _ _ _ rfl k1 j1 j2 (hpo'.up g k2)
  · -- jump
    simp only [go_sem,Nat.reduceEqDiff,Nat.reduceAdd,Nat.reduceMul,↓reduceIte,↓dreduceIte,reduceCtorEq,Nat.reduceLeDiff,Nat.reduceLT,Nat.reduceSub,Int.reduceToNat,Int.reduceLE,Int.reduceLT, q_mach, q_calls, q_mem, qs_mem, qs_calls, qs_mach, q_len, q_add, q_T, qs_T, one_ref, one_imm, ponx, pg0, pg01, pg1, ps0, ps1, cellT_U32, fr_all ht, fr_0 ht, fr_1 ht, fr_2 ht, ↓hvo, e1, e2, e3, hfn, hin, Int.reduceEq, Int.reduceBEq, pg2, pg02, pg12, c_scref20_M_step]
    repeat (refine And.intro (by first | omega | rfl) ?_)
    refine rjump_v sw o0 o1 _ sc sM _ (frCs below bvs) junk (I f) _ v below.length _ _ _ _ _ _ _ _ _ ht hbl ((k + 1 : Nat) : Int) _ fun r => ?_
    simp only [go_sem,Nat.reduceEqDiff,Nat.reduceAdd,Nat.reduceMul,↓reduceIte,↓dreduceIte,reduceCtorEq,Nat.reduceLeDiff,Nat.reduceLT,Nat.reduceSub,Int.reduceToNat,Int.reduceLE,Int.reduceLT, q_mach, q_calls, q_mem, qs_mem, qs_calls, qs_mach, q_len, q_add, q_T, qs_T, one_ref, one_imm, ponx, pg0, pg01, pg1, ps0, ps1, cellT_U32, fr_all ht, fr_0 ht, fr_1 ht, fr_2 ht, ↓hvo, e1, e2, e3, hfn, hin, Int.reduceEq, Int.reduceBEq, pg2, pg02, pg12]
    repeat (refine And.intro (by first | omega | rfl) ?_)
    refine rjump_v sw o0 o1 _ sc sM _ (frCs below bvs) junk (I f) _ v below.length _ _ _ _ _ _ _ _ _ ht hbl a _ fun r => ?_
    simp only [go_sem,Nat.reduceEqDiff,Nat.reduceAdd,Nat.reduceMul,↓reduceIte,↓dreduceIte,reduceCtorEq,Nat.reduceLeDiff,Nat.reduceLT,Nat.reduceSub,Int.reduceToNat,Int.reduceLE,Int.reduceLT, q_mach, q_calls, q_mem, qs_mem, qs_calls, qs_mach, q_len, q_add, q_T, qs_T, one_ref, one_imm, ponx, pg0, pg01, pg1, ps0, ps1, cellT_U32, fr_all ht, fr_0 ht, fr_1 ht, fr_2 ht, ↓hvo, e1, e2, e3, hfn, hin, Int.reduceEq, Int.reduceBEq, pg2, pg02, pg12]
    have := hC1 (AV.tup []) sc v bvs junk vo _ (nx + 1 + 1) rfl hpv' hfa' hdis hpo'
    simp only [stepI, SM.jump, SM.next, Int.reduceEq, if_true, if_false, hM, Int.toNat_of_nonneg ha] at this
    exact this
  · -- zero
    obtain ⟨x, L, rfl⟩ : ∃ x L', L = x :: L' := by cases L with | nil => simp at h1 | cons x L => exact ⟨x, L, rfl⟩
    have hl1 : L.length ≤ 1000000 := by simp at hl ⊢; omega
    have hv : In32 x := wt x (by simp)
    simp only [go_sem,Nat.reduceEqDiff,Nat.reduceAdd,Nat.reduceMul,↓reduceIte,↓dreduceIte,reduceCtorEq,Nat.reduceLeDiff,Nat.reduceLT,Nat.reduceSub,Int.reduceToNat,Int.reduceLE,Int.reduceLT, q_mach, q_calls, q_mem, qs_mem, qs_calls, qs_mach, q_len, q_add, q_T, qs_T, one_ref, one_imm, ponx, pg0, pg01, pg1, ps0, ps1, cellT_U32, fr_all ht, fr_0 ht, fr_1 ht, fr_2 ht, ↓hvo, e1, e2, e3, hfn, hin, Int.reduceEq, Int.reduceBEq, pg2, pg02, pg12, c_scref20_M_step]
    repeat (refine And.intro (by first | omega | rfl) ?_)
    refine rjump_v sw o0 o1 _ sc sM _ (frCs below bvs) junk (I f) _ v below.length _ _ _ _ _ _ _ _ _ ht hbl ((k + 1 : Nat) : Int) _ fun r => ?_
    simp only [go_sem,Nat.reduceEqDiff,Nat.reduceAdd,Nat.reduceMul,↓reduceIte,↓dreduceIte,reduceCtorEq,Nat.reduceLeDiff,Nat.reduceLT,Nat.reduceSub,Int.reduceToNat,Int.reduceLE,Int.reduceLT, q_mach, q_calls, q_mem, qs_mem, qs_calls, qs_mach, q_len, q_add, q_T, qs_T, one_ref, one_imm, ponx, pg0, pg01, pg1, ps0, ps1, cellT_U32, fr_all ht, fr_0 ht, fr_1 ht, fr_2 ht, ↓hvo, e1, e2, e3, hfn, hin, Int.reduceEq, Int.reduceBEq, pg2, pg02, pg12]
    repeat (refine And.intro (by first | omega | rfl) ?_)
    refine rpop_v sw o0 o1 _ sc sM _ (frCs below bvs) junk (I f) _ v below.length _ _ _ _ _ _ _ _ _ ht hbl (L) x hl1 hpv' _ fun v2 g g2 => ?_
    have hd2 : ∀ u ∈ bvs, idOf u = none ∨ idOf u ≠ idOf v2 := fun u hu => by rw [g2]; exact hdis u hu
    by_cases h : x = 0
    · have hs : stepI s inp ⟨9, a, b, q⟩ (SM.next ⟨mem, rd, out, steps, 0, ⟨f, k, x :: L⟩, below⟩) = ⟨mem, rd, out, steps + 1, 0, ⟨f, a.toNat, L⟩, below⟩ := by
        show (if x = 0 then _ else _) = _
        rw [if_pos h]; rfl
      rw [hs] at hC1 hC2
      simp only [go_sem,Nat.reduceEqDiff,Nat.reduceAdd,Nat.reduceMul,↓reduceIte,↓dreduceIte,reduceCtorEq,Nat.reduceLeDiff,Nat.reduceLT,Nat.reduceSub,Int.reduceToNat,Int.reduceLE,Int.reduceLT, q_mach, q_calls, q_mem, qs_mem, qs_calls, qs_mach, q_len, q_add, q_T, qs_T, one_ref, one_imm, ponx, pg0, pg01, pg1, ps0, ps1, cellT_U32, fr_all ht, fr_0 ht, fr_1 ht, fr_2 ht, ↓hvo, e1, e2, e3, hfn, hin, Int.reduceEq, Int.reduceBEq, pg2, pg02, pg12, eq_true h]
      repeat (refine And.intro (by omega) ?_)
      refine rjump_v sw o0 o1 _ sc sM _ (frCs below bvs) junk (I f) _ v2 below.length _ _ _ _ _ _ _ _ _ ht hbl a _ fun r => ?_
      simp only [go_sem,Nat.reduceEqDiff,Nat.reduceAdd,Nat.reduceMul,↓reduceIte,↓dreduceIte,reduceCtorEq,Nat.reduceLeDiff,Nat.reduceLT,Nat.reduceSub,Int.reduceToNat,Int.reduceLE,Int.reduceLT, q_mach, q_calls, q_mem, qs_mem, qs_calls, qs_mach, q_len, q_add, q_T, qs_T, one_ref, one_imm, ponx, pg0, pg01, pg1, ps0, ps1, cellT_U32, fr_all ht, fr_0 ht, fr_1 ht, fr_2 ht, ↓hvo, e1, e2, e3, hfn, hin, Int.reduceEq, Int.reduceBEq, pg2, pg02, pg12]
      have := hC1 (AV.tup []) sc v2 bvs junk vo _ (nx + 1 + 1) rfl g hfa' hd2 hpo'
      simp only [hM, Int.toNat_of_nonneg ha] at this
      exact this
    · have hs : stepI s inp ⟨9, a, b, q⟩ (SM.next ⟨mem, rd, out, steps, 0, ⟨f, k, x :: L⟩, below⟩) = ⟨mem, rd, out, steps + 1, 0, ⟨f, k + 1, L⟩, below⟩ := by
        show (if x = 0 then _ else _) = _
        rw [if_neg h]; rfl
      rw [hs] at hC1 hC2
      simp only [go_sem,Nat.reduceEqDiff,Nat.reduceAdd,Nat.reduceMul,↓reduceIte,↓dreduceIte,reduceCtorEq,Nat.reduceLeDiff,Nat.reduceLT,Nat.reduceSub,Int.reduceToNat,Int.reduceLE,Int.reduceLT, q_mach, q_calls, q_mem, qs_mem, qs_calls, qs_mach, q_len, q_add, q_T, qs_T, one_ref, one_imm, ponx, pg0, pg01, pg1, ps0, ps1, cellT_U32, fr_all ht, fr_0 ht, fr_1 ht, fr_2 ht, ↓hvo, e1, e2, e3, hfn, hin, Int.reduceEq, Int.reduceBEq, pg2, pg02, pg12, eq_false h]
      exact hC1 _ _ _ _ _ _ _ _ rfl g hfa' hd2 hpo'
  · -- call
    simp only [go_sem,Nat.reduceEqDiff,Nat.reduceAdd,Nat.reduceMul,↓reduceIte,↓dreduceIte,reduceCtorEq,Nat.reduceLeDiff,Nat.reduceLT,Nat.reduceSub,Int.reduceToNat,Int.reduceLE,Int.reduceLT, q_mach, q_calls, q_mem, qs_mem, qs_calls, qs_mach, q_len, q_add, q_T, qs_T, one_ref, one_imm, ponx, pg0, pg01, pg1, ps0, ps1, cellT_U32, fr_all ht, fr_0 ht, fr_1 ht, fr_2 ht, ↓hvo, e1, e2, e3, hfn, hin, Int.reduceEq, Int.reduceBEq, pg2, pg02, pg12, c_scref20_M_step]
    repeat (refine And.intro (by first | omega | rfl) ?_)
    refine rjump_v sw o0 o1 _ sc sM _ (frCs below bvs) junk (I f) _ v below.length _ _ _ _ _ _ _ _ _ ht hbl ((k + 1 : Nat) : Int) _ fun r => ?_
    simp only [go_sem,Nat.reduceEqDiff,Nat.reduceAdd,Nat.reduceMul,↓reduceIte,↓dreduceIte,reduceCtorEq,Nat.reduceLeDiff,Nat.reduceLT,Nat.reduceSub,Int.reduceToNat,Int.reduceLE,Int.reduceLT, q_mach, q_calls, q_mem, qs_mem, qs_calls, qs_mach, q_len, q_add, q_T, qs_T, one_ref, one_imm, ponx, pg0, pg01, pg1, ps0, ps1, cellT_U32, fr_all ht, fr_0 ht, fr_1 ht, fr_2 ht, ↓hvo, e1, e2, e3, hfn, hin, Int.reduceEq, Int.reduceBEq, pg2, pg02, pg12]
    repeat (refine And.intro (by first | omega | rfl) ?_)
    refine rcall_v sw o0 o1 s2 sc sM _ (frCs below bvs) junk (I f) _ v below.length s _ _ _ _ _ _ _ mem n ht hbl a ha hb L hn hcall (by omega) (by omega) rfl rfl hpv' _ fun r R v' sc' nx' k1 k2 => ?_
    simp only [go_sem,Nat.reduceEqDiff,Nat.reduceAdd,Nat.reduceMul,↓reduceIte,↓dreduceIte,reduceCtorEq,Nat.reduceLeDiff,Nat.reduceLT,Nat.reduceSub,Int.reduceToNat,Int.reduceLE,Int.reduceLT, q_mach, q_calls, q_mem, qs_mem, qs_calls, qs_mach, q_len, q_add, q_T, qs_T, one_ref, one_imm, ponx, pg0, pg01, pg1, ps0, ps1, cellT_U32, fr_all ht, fr_0 ht, fr_1 ht, fr_2 ht, ↓hvo, e1, e2, e3, hfn, hin, Int.reduceEq, Int.reduceBEq, pg2, pg02, pg12]
    have := hC1 (AV.tup []) sc' nilv (v' :: bvs) [] vo _ nx' rfl (.inl ⟨rfl, rfl⟩) ⟨v', bvs, rfl, k1, hfa'.add R, fun u hu => by rw [k2]; exact hdis u hu⟩ (fun u _ => by
      cases h : idOf u with
      | none => exact .inl rfl
      | some x => exact .inr (by simp [idOf])) (hpo'.add R)
    simp only [stepI, SM.call, SM.next, Int.reduceEq, if_true, if_false, hM, Int.toNat_of_nonneg ha] at this
    exact this
  · -- ret
    simp only [go_sem,Nat.reduceEqDiff,Nat.reduceAdd,Nat.reduceMul,↓reduceIte,↓dreduceIte,reduceCtorEq,Nat.reduceLeDiff,Nat.reduceLT,Nat.reduceSub,Int.reduceToNat,Int.reduceLE,Int.reduceLT, q_mach, q_calls, q_mem, qs_mem, qs_calls, qs_mach, q_len, q_add, q_T, qs_T, one_ref, one_imm, ponx, pg0, pg01, pg1, ps0, ps1, cellT_U32, fr_all ht, fr_0 ht, fr_1 ht, fr_2 ht, ↓hvo, e1, e2, e3, hfn, hin, Int.reduceEq, Int.reduceBEq, pg2, pg02, pg12, c_scref20_M_step]
    repeat (refine And.intro (by first | omega | rfl) ?_)
    refine rjump_v sw o0 o1 _ sc sM _ (frCs below bvs) junk (I f) _ v below.length _ _ _ _ _ _ _ _ _ ht hbl ((k + 1 : Nat) : Int) _ fun r => ?_
    simp only [go_sem,Nat.reduceEqDiff,Nat.reduceAdd,Nat.reduceMul,↓reduceIte,↓dreduceIte,reduceCtorEq,Nat.reduceLeDiff,Nat.reduceLT,Nat.reduceSub,Int.reduceToNat,Int.reduceLE,Int.reduceLT, q_mach, q_calls, q_mem, qs_mem, qs_calls, qs_mach, q_len, q_add, q_T, qs_T, one_ref, one_imm, ponx, pg0, pg01, pg1, ps0, ps1, cellT_U32, fr_all ht, fr_0 ht, fr_1 ht, fr_2 ht, ↓hvo, e1, e2, e3, hfn, hin, Int.reduceEq, Int.reduceBEq, pg2, pg02, pg12]
    repeat (refine And.intro (by first | omega | rfl) ?_)
    cases below with
    | nil =>
      refine rret_v sw o0 o1 s2 sc sM _ _ junk _ v _ s _ _ _ _ _ _ _ mem ht hbl f gf L h1 hpv' _ _ (fun _ r co cr _ => ?_) fun u hu => by simp at hu
      simp only [go_sem,Nat.reduceEqDiff,Nat.reduceAdd,Nat.reduceMul,↓reduceIte,↓dreduceIte,reduceCtorEq,Nat.reduceLeDiff,Nat.reduceLT,Nat.reduceSub,Int.reduceToNat,Int.reduceLE,Int.reduceLT, q_mach, q_calls, q_mem, qs_mem, qs_calls, qs_mach, q_len, q_add, q_T, qs_T, one_ref, one_imm, ponx, pg0, pg01, pg1, ps0, ps1, cellT_U32, fr_all ht, fr_0 ht, fr_1 ht, fr_2 ht, ↓hvo, e1, e2, e3, hfn, hin, Int.reduceEq, Int.reduceBEq, pg2, pg02, pg12]
      exact hC2 _ _ _ _ _ _ _ _ _ (by simp [stepI, SM.ret, SM.next]) hpo'
    | cons c rest =>
      simp only [FA] at hfa'
      obtain ⟨v2, l2, rfl, f1, f2, f3⟩ := hfa'
      have hcl : c.L.length ≤ 900000 := by simp only [List.flatMap_cons, List.length_append] at hlF; omega
      have hrl : (frCs rest l2).length = rest.length * 3 := frCs_len f2
      refine rret_v sw o0 o1 s2 sc sM _ _ junk _ v _ s _ _ _ _ _ _ _ mem ht hbl f gf L h1 hpv' _ _ (fun h => by simp at h) fun u hu => ?_
      simp only [List.length_cons] at hu
      obtain rfl : rest.length = u := by omega
      refine ⟨frCs rest l2, I c.f, I c.at_, v2, c.L, rfl, hrl, f1, hcl, hdis v2 (by simp), fun r T' v' junk' nx' k1 k2 => ?_⟩
      simp only [go_sem,Nat.reduceEqDiff,Nat.reduceAdd,Nat.reduceMul,↓reduceIte,↓dreduceIte,reduceCtorEq,Nat.reduceLeDiff,Nat.reduceLT,Nat.reduceSub,Int.reduceToNat,Int.reduceLE,Int.reduceLT, q_mach, q_calls, q_mem, qs_mem, qs_calls, qs_mach, q_len, q_add, q_T, qs_T, one_ref, one_imm, ponx, pg0, pg01, pg1, ps0, ps1, cellT_U32, fr_all ht, fr_0 ht, fr_1 ht, fr_2 ht, ↓hvo, e1, e2, e3, hfn, hin, Int.reduceEq, Int.reduceBEq, pg2, pg02, pg12]
      obtain ⟨j1, j2⟩ := FA.up k2 f2 f3
      exact hC1 _ _ _ _ _ _ _ _ rfl k1 j1 j2 (hpo'.up f1 k2)
  · -- get
    have hb : IntKind.u32.wrap (byteAt inp rd) = byteAt inp rd := by
      refine w32_in ⟨?_, ?_⟩ <;> unfold byteAt
      · omega
      · have := (inp.data.toList.getD rd 0).toNat_lt; omega
    have e7 : IntKind.i64.wrap ((rd : Int) + 1) = ((rd + 1 : Nat) : Int) := by rw [i64_in (by omega) (by omega)]; omega
    by_cases h : rd < inp.size
    · have hs : stepI s inp ⟨12, a, b, q⟩ (SM.next ⟨mem, rd, out, steps, 0, ⟨f, k, L⟩, below⟩) = ⟨mem, rd + 1, out, steps + 1, 0, ⟨f, k + 1, byteAt inp rd :: L⟩, below⟩ := by
        show (if rd < inp.size then _ else _) = _
        rw [if_pos h]; rfl
      rw [hs] at hC1 hC2
      simp only [go_sem,Nat.reduceEqDiff,Nat.reduceAdd,Nat.reduceMul,↓reduceIte,↓dreduceIte,reduceCtorEq,Nat.reduceLeDiff,Nat.reduceLT,Nat.reduceSub,Int.reduceToNat,Int.reduceLE,Int.reduceLT, q_mach, q_calls, q_mem, qs_mem, qs_calls, qs_mach, q_len, q_add, q_T, qs_T, one_ref, one_imm, ponx, pg0, pg01, pg1, ps0, ps1, cellT_U32, fr_all ht, fr_0 ht, fr_1 ht, fr_2 ht, ↓hvo, e1, e2, e3, hfn, hin, Int.reduceEq, Int.reduceBEq, pg2, pg02, pg12, c_scref20_M_step, hb, e7, eq_true (show (rd : Int) < (inp.size : Int) by omega)]
      repeat (refine And.intro (by first | omega | rfl) ?_)
      refine rjump_v sw o0 o1 _ sc sM _ (frCs below bvs) junk (I f) _ v below.length _ _ _ _ _ _ _ _ _ ht hbl ((k + 1 : Nat) : Int) _ fun r => ?_
      simp only [go_sem,Nat.reduceEqDiff,Nat.reduceAdd,Nat.reduceMul,↓reduceIte,↓dreduceIte,reduceCtorEq,Nat.reduceLeDiff,Nat.reduceLT,Nat.reduceSub,Int.reduceToNat,Int.reduceLE,Int.reduceLT, q_mach, q_calls, q_mem, qs_mem, qs_calls, qs_mach, q_len, q_add, q_T, qs_T, one_ref, one_imm, ponx, pg0, pg01, pg1, ps0, ps1, cellT_U32, fr_all ht, fr_0 ht, fr_1 ht, fr_2 ht, ↓hvo, e1, e2, e3, hfn, hin, Int.reduceEq, Int.reduceBEq, pg2, pg02, pg12, hb, e7, eq_true (show (rd : Int) < (inp.size : Int) by omega)]
      repeat (refine And.intro (by first | omega | rfl) ?_)
      refine rpush_v sw o0 o1 _ sc sM _ (frCs below bvs) junk (I f) _ v below.length _ _ _ _ _ _ _ _ _ ht hbl (L) _ (by omega) hpv' _ fun r T' v9 nx' k1 k2 => ?_
      simp only [go_sem,Nat.reduceEqDiff,Nat.reduceAdd,Nat.reduceMul,↓reduceIte,↓dreduceIte,reduceCtorEq,Nat.reduceLeDiff,Nat.reduceLT,Nat.reduceSub,Int.reduceToNat,Int.reduceLE,Int.reduceLT, q_mach, q_calls, q_mem, qs_mem, qs_calls, qs_mach, q_len, q_add, q_T, qs_T, one_ref, one_imm, ponx, pg0, pg01, pg1, ps0, ps1, cellT_U32, fr_all ht, fr_0 ht, fr_1 ht, fr_2 ht, ↓hvo, e1, e2, e3, hfn, hin, Int.reduceEq, Int.reduceBEq, pg2, pg02, pg12]
      obtain ⟨j1, j2⟩ := FA.up k2 hfa' hdis
      exact hC1 _ _ _ _ _ _ _ _ rfl k1 j1 j2 (hpo'.up hpv' k2)
    · have hs : stepI s inp ⟨12, a, b, q⟩ (SM.next ⟨mem, rd, out, steps, 0, ⟨f, k, L⟩, below⟩) = ⟨mem, rd, out, steps + 1, 0, ⟨f, k + 1, 256 :: L⟩, below⟩ := by
        show (if rd < inp.size then _ else _) = _
        rw [if_neg h]; rfl
      rw [hs] at hC1 hC2
      simp only [go_sem,Nat.reduceEqDiff,Nat.reduceAdd,Nat.reduceMul,↓reduceIte,↓dreduceIte,reduceCtorEq,Nat.reduceLeDiff,Nat.reduceLT,Nat.reduceSub,Int.reduceToNat,Int.reduceLE,Int.reduceLT, q_mach, q_calls, q_mem, qs_mem, qs_calls, qs_mach, q_len, q_add, q_T, qs_T, one_ref, one_imm, ponx, pg0, pg01, pg1, ps0, ps1, cellT_U32, fr_all ht, fr_0 ht, fr_1 ht, fr_2 ht, ↓hvo, e1, e2, e3, hfn, hin, Int.reduceEq, Int.reduceBEq, pg2, pg02, pg12, c_scref20_M_step, hb, e7, eq_false (show ¬ (rd : Int) < (inp.size : Int) by omega)]
      repeat (refine And.intro (by first | omega | rfl) ?_)
      refine rjump_v sw o0 o1 _ sc sM _ (frCs below bvs) junk (I f) _ v below.length _ _ _ _ _ _ _ _ _ ht hbl ((k + 1 : Nat) : Int) _ fun r => ?_
      simp only [go_sem,Nat.reduceEqDiff,Nat.reduceAdd,Nat.reduceMul,↓reduceIte,↓dreduceIte,reduceCtorEq,Nat.reduceLeDiff,Nat.reduceLT,Nat.reduceSub,Int.reduceToNat,Int.reduceLE,Int.reduceLT, q_mach, q_calls, q_mem, qs_mem, qs_calls, qs_mach, q_len, q_add, q_T, qs_T, one_ref, one_imm, ponx, pg0, pg01, pg1, ps0, ps1, cellT_U32, fr_all ht, fr_0 ht, fr_1 ht, fr_2 ht, ↓hvo, e1, e2, e3, hfn, hin, Int.reduceEq, Int.reduceBEq, pg2, pg02, pg12, hb, e7, eq_false (show ¬ (rd : Int) < (inp.size : Int) by omega)]
      repeat (refine And.intro (by first | omega | rfl) ?_)
      refine rpush_v sw o0 o1 _ sc sM _ (frCs below bvs) junk (I f) _ v below.length _ _ _ _ _ _ _ _ _ ht hbl (L) _ (by omega) hpv' _ fun r T' v9 nx' k1 k2 => ?_
      simp only [go_sem,Nat.reduceEqDiff,Nat.reduceAdd,Nat.reduceMul,↓reduceIte,↓dreduceIte,reduceCtorEq,Nat.reduceLeDiff,Nat.reduceLT,Nat.reduceSub,Int.reduceToNat,Int.reduceLE,Int.reduceLT, q_mach, q_calls, q_mem, qs_mem, qs_calls, qs_mach, q_len, q_add, q_T, qs_T, one_ref, one_imm, ponx, pg0, pg01, pg1, ps0, ps1, cellT_U32, fr_all ht, fr_0 ht, fr_1 ht, fr_2 ht, ↓hvo, e1, e2, e3, hfn, hin, Int.reduceEq, Int.reduceBEq, pg2, pg02, pg12]
      obtain ⟨j1, j2⟩ := FA.up k2 hfa' hdis
      exact hC1 _ _ _ _ _ _ _ _ rfl k1 j1 j2 (hpo'.up hpv' k2)
  · -- put
    obtain ⟨x, L, rfl⟩ : ∃ x L', L = x :: L' := by cases L with | nil => simp at h1 | cons x L => exact ⟨x, L, rfl⟩
    have hl1 : L.length ≤ 1000000 := by simp at hl ⊢; omega
    have hv : In32 x := wt x (by simp)
    simp only [go_sem,Nat.reduceEqDiff,Nat.reduceAdd,Nat.reduceMul,↓reduceIte,↓dreduceIte,reduceCtorEq,Nat.reduceLeDiff,Nat.reduceLT,Nat.reduceSub,Int.reduceToNat,Int.reduceLE,Int.reduceLT, q_mach, q_calls, q_mem, qs_mem, qs_calls, qs_mach, q_len, q_add, q_T, qs_T, one_ref, one_imm, ponx, pg0, pg01, pg1, ps0, ps1, cellT_U32, fr_all ht, fr_0 ht, fr_1 ht, fr_2 ht, ↓hvo, e1, e2, e3, hfn, hin, Int.reduceEq, Int.reduceBEq, pg2, pg02, pg12, c_scref20_M_step]
    repeat (refine And.intro (by first | omega | rfl) ?_)
    refine rjump_v sw o0 o1 _ sc sM _ (frCs below bvs) junk (I f) _ v below.length _ _ _ _ _ _ _ _ _ ht hbl ((k + 1 : Nat) : Int) _ fun r => ?_
    simp only [go_sem,Nat.reduceEqDiff,Nat.reduceAdd,Nat.reduceMul,↓reduceIte,↓dreduceIte,reduceCtorEq,Nat.reduceLeDiff,Nat.reduceLT,Nat.reduceSub,Int.reduceToNat,Int.reduceLE,Int.reduceLT, q_mach, q_calls, q_mem, qs_mem, qs_calls, qs_mach, q_len, q_add, q_T, qs_T, one_ref, one_imm, ponx, pg0, pg01, pg1, ps0, ps1, cellT_U32, fr_all ht, fr_0 ht, fr_1 ht, fr_2 ht, ↓hvo, e1, e2, e3, hfn, hin, Int.reduceEq, Int.reduceBEq, pg2, pg02, pg12]
    repeat (refine And.intro (by first | omega | rfl) ?_)
    refine rpop_v sw o0 o1 _ sc sM _ (frCs below bvs) junk (I f) _ v below.length _ _ _ _ _ _ _ _ _ ht hbl (L) x hl1 hpv' _ fun v2 g g2 => ?_
    have hd2 : ∀ u ∈ bvs, idOf u = none ∨ idOf u ≠ idOf v2 := fun u hu => by rw [g2]; exact hdis u hu
    have hs : stepI s inp ⟨13, a, b, q⟩ (SM.next ⟨mem, rd, out, steps, 0, ⟨f, k, x :: L⟩, below⟩) = ⟨mem, rd, out ++ [byteS x], steps + 1, 0, ⟨f, k + 1, L⟩, below⟩ := rfl
    rw [hs] at hC1 hC2
    have hU8 : (AV.val (.int .u8 (IntKind.u8.wrap x))) = U8 (byteS x) := by rw [← byteS_eq]
    have hlt := eq_false (show ¬ (65536 : Int) ≤ (out.length : Int) by omega)
    have g9 := g
    have hpo9 := hpo'
    generalize hT1 : (T ++ [(⟨nx, 75, 1, [I f, I k, v]⟩ : VObj)] ++ [(⟨nx + 1, 36, 1, [I 13, I a, I b, U32 q]⟩ : VObj)]) = T1 at *
    rcases hpo9 with ⟨rfl, rfl⟩ | ⟨k0, so, rfl, hT⟩
    · simp only [go_sem,Nat.reduceEqDiff,Nat.reduceAdd,Nat.reduceMul,↓reduceIte,↓dreduceIte,reduceCtorEq,Nat.reduceLeDiff,Nat.reduceLT,Nat.reduceSub,Int.reduceToNat,Int.reduceLE,Int.reduceLT, q_mach, q_calls, q_mem, qs_mem, qs_calls, qs_mach, q_len, q_add, q_T, qs_T, one_ref, one_imm, ponx, pg0, pg01, pg1, ps0, ps1, cellT_U32, fr_all ht, fr_0 ht, fr_1 ht, fr_2 ht, ↓hvo, e1, e2, e3, hfn, hin, Int.reduceEq, Int.reduceBEq, pg2, pg02, pg12, hU8]
      repeat (refine And.intro (by omega) ?_)
      refine hC1 _ _ _ _ _ _ _ _ rfl ((g.add _).add _) ((hfa'.add _).add _) hd2 (.inr ⟨T1.length + 1, _, rfl, ?_⟩)
      rw [pg1]; rfl
    · have hk := (List.getElem?_eq_some_iff.1 hT).1
      have hT2 : ∀ x : VObj, (T1 ++ [x])[k0]? = some ⟨so, 5, 1, out.map U8⟩ := fun x => by rw [List.getElem?_append_left hk]; exact hT
      simp only [go_sem,Nat.reduceEqDiff,Nat.reduceAdd,Nat.reduceMul,↓reduceIte,↓dreduceIte,reduceCtorEq,Nat.reduceLeDiff,Nat.reduceLT,Nat.reduceSub,Int.reduceToNat,Int.reduceLE,Int.reduceLT, q_mach, q_calls, q_mem, qs_mem, qs_calls, qs_mach, q_len, q_add, q_T, qs_T, one_ref, one_imm, ponx, pg0, pg01, pg1, ps0, ps1, cellT_U32, fr_all ht, fr_0 ht, fr_1 ht, fr_2 ht, ↓hvo, e1, e2, e3, hfn, hin, Int.reduceEq, Int.reduceBEq, pg2, pg02, pg12, hU8, hT, hT2, hlt]
      repeat (refine And.intro (by omega) ?_)
      have hput : ∀ {x y : VObj}, Kp 5 T1 ((T1 ++ [x]).set k0 y) := fun {x y} => (Kp.add _).trans (Kp.put (hT2 _) rfl)
      refine hC1 _ _ _ _ _ _ _ _ rfl (g.kp hput (by decide)) (FA.kp hput hfa') hd2 (.inr ⟨k0, nx + 1 + 1 + 1, ?_, ?_⟩)
      · simp
      · rw [List.getElem?_set, if_pos rfl, if_pos (by simp; omega), List.take_of_length_le (by simp)]
        simp
end Go.Proofs.Ytdfdkoajphcjbaa
