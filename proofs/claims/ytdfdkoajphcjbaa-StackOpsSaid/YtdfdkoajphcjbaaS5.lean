/-
  The stack's machine: an instruction that goes on behind itself: its contract. No condition.
-/
import Derived.Test.YtdfdkoajphcjbaaS4
namespace Go.Proofs.Ytdfdkoajphcjbaa
set_option linter.unusedSimpArgs false
set_option linter.unusedVariables false
set_option maxRecDepth 10000
open Go.V

theorem PW.add {T : List VObj} {v : AV} {l : List Int} (h : PW T v l) (R : List VObj) : PW (T ++ R) v l := h.kp (ty := 1000000) (Kp.add R) (by decide)
theorem PF.add {T : List VObj} {v : AV} {l : List Fm} (h : PF T v l) (R : List VObj) : PF (T ++ R) v l := h.kp (ty := 1000000) (Kp.add R) (by decide)
theorem PO.add {T : List VObj} {v : AV} {l : List UInt8} (h : PO T v l) (R : List VObj) : PO (T ++ R) v l := h.kp (ty := 1000000) (Kp.add R) (by decide)
theorem byteS_eq (r : Int) : ((byteS r).toNat : Int) = IntKind.u8.wrap r := by
  unfold byteS
  rw [IntKind.wrap_u8]
  simp only [UInt8.toNat_ofNat']
  omega
abbrev hpS (o0 o1 o4 : VObj) (s2 sm : Nat) (c0 c1 vs vc vo : AV) (inp : ByteArray) (n : Nat) (mem : List Int) (rd : Nat) (T : List VObj) : List VObj :=
  o0 :: o1 :: wdO s2 mem :: mcO sm [c0, c1, .ref 2 s2 0 n, vs, vc, strv inp, I rd, vo] :: o4 :: T

theorem do_v (s : SP) (inp : ByteArray) (σ : SM) (more : List Int) (fs : List Fm) (x : SI) (hx : In32 x.n) (hop : OkI s σ x) (hne : x.op ≠ 8 ∧ x.op ≠ 9 ∧ x.op ≠ 10 ∧ x.op ≠ 11) (hw : WfS σ) (h0 : σ.fin = 0)
    (hi : inp.size ≤ 1000000000) (hr : σ.rd ≤ 1000000000) (n : Nat) (hn : n = σ.mem.length) (hm : n ≤ 1000000) (hl : (σ.top.L ++ more).length ≤ 900000) (ho : σ.out.length < 65536)
    (o0 o1 o4 : VObj) (s2 sm nx : Nat) (c0 c1 vs vc vo : AV) (T : List VObj) (hp : PW T vs (σ.top.L ++ more)) (hf : PF T vc fs) (hu : PO T vo σ.out) (C : AV → List VObj → Nat → Prop)
    (hC : ∀ T' vs' vo' nx', ((stepI s inp x σ).fin = 0 → PW T' vs' ((stepI s inp x σ).top.L ++ more)) → PF T' vc fs → PO T' vo' (stepI s inp x σ).out →
      C (I (stepI s inp x σ).fin) (hpS o0 o1 o4 s2 sm c0 c1 vs' vc vo' inp n (stepI s inp x σ).mem (stepI s inp x σ).rd T') nx') :
    VCall Try.prog 28 [.ptr 3 sm 0, siA x] (hpS o0 o1 o4 s2 sm c0 c1 vs vc vo inp n σ.mem σ.rd T) nx C := by
  refine VCall.of_body hmix f_stack_machine_do (by simp) ?_
  obtain ⟨op, a, b, q⟩ := x
  obtain ⟨mem, rd, out, steps, fin, ⟨f, k, L⟩, below⟩ := σ
  obtain ⟨wm, wt, wb⟩ := hw
  simp only at hx hne h0 hr hn hl ho hp hu wm wt wb
  subst h0
  have hlen : n ≤ mem.length := by omega
  have hmx : (2000000 : Nat) ≤ maxLen := by decide
  unfold OkI at hop
  simp only at hop
  rcases hop with e | ⟨e, ha, hb⟩ | ⟨e, ha, hb, h1⟩ | ⟨e, ha, hb, hab, h1⟩ | ⟨e, ha, hb, hab, h1⟩ | ⟨e, h1⟩ | ⟨e, h1⟩ | ⟨e, _⟩ | ⟨e, _⟩ | ⟨e, _⟩ | ⟨e, _⟩ | e | ⟨e, h1⟩
  all_goals subst e
  · -- push
    simp only [go_sem,Nat.reduceEqDiff,Nat.reduceAdd,Nat.reduceMul,↓reduceIte,↓dreduceIte,reduceCtorEq,Nat.reduceLeDiff,Nat.reduceLT,Nat.reduceSub,Int.reduceToNat,Int.reduceLE,Int.reduceLT, c_stack_machine_do, ↓plen, ponx, pg0, ps0, one_ref, one_imm, cellT_U32, Int.reduceEq, Int.reduceBEq]
    refine push_v c0 c1 _ vs vc _ _ vo o0 o1 _ o4 _ sm _ (L ++ more) q (by simpa using Nat.le_trans hl (by decide)) (hp.add _) _ fun r T' vs' nx' g1 g2 => ?_
    simp only [go_sem,Nat.reduceEqDiff,Nat.reduceAdd,Nat.reduceMul,↓reduceIte,↓dreduceIte,reduceCtorEq,Nat.reduceLeDiff,Nat.reduceLT,Nat.reduceSub,Int.reduceToNat,Int.reduceLE,Int.reduceLT, ↓plen, ponx, pg0, ps0, one_ref, one_imm, cellT_U32, Int.reduceEq, Int.reduceBEq]
    exact hC _ _ _ _ (fun _ => g1) ((hf.add _).kp g2 (by decide)) ((hu.add _).kp g2 (by decide))
  · -- load
    simp only [go_sem,Nat.reduceEqDiff,Nat.reduceAdd,Nat.reduceMul,↓reduceIte,↓dreduceIte,reduceCtorEq,Nat.reduceLeDiff,Nat.reduceLT,Nat.reduceSub,Int.reduceToNat,Int.reduceLE,Int.reduceLT, c_stack_machine_do, ↓plen, ponx, pg0, ps0, one_ref, one_imm, cellT_U32, Int.reduceEq, Int.reduceBEq]
    repeat (refine And.intro (by omega) ?_)
    refine push_v c0 c1 _ vs vc _ _ vo o0 o1 _ o4 _ sm _ (L ++ more) _ (by simpa using Nat.le_trans hl (by decide)) (hp.add _) _ fun r T' vs' nx' g1 g2 => ?_
    simp only [go_sem,Nat.reduceEqDiff,Nat.reduceAdd,Nat.reduceMul,↓reduceIte,↓dreduceIte,reduceCtorEq,Nat.reduceLeDiff,Nat.reduceLT,Nat.reduceSub,Int.reduceToNat,Int.reduceLE,Int.reduceLT, ↓plen, ponx, pg0, ps0, one_ref, one_imm, cellT_U32, Int.reduceEq, Int.reduceBEq]
    exact hC _ _ _ _ (fun _ => g1) ((hf.add _).kp g2 (by decide)) ((hu.add _).kp g2 (by decide))
  · -- store
    obtain ⟨v, L, rfl⟩ : ∃ v L', L = v :: L' := by cases L with | nil => simp at h1 | cons v L => exact ⟨v, L, rfl⟩
    have hl1 : (L ++ more).length ≤ 1000000 := by simp at hl ⊢; omega
    have hv : In32 v := wt v (by simp)
    have hset : (mem.map U32).set a.toNat (U32 v) = (mem.set a.toNat v).map U32 := set_map U32 _ _ _
    simp only [go_sem,Nat.reduceEqDiff,Nat.reduceAdd,Nat.reduceMul,↓reduceIte,↓dreduceIte,reduceCtorEq,Nat.reduceLeDiff,Nat.reduceLT,Nat.reduceSub,Int.reduceToNat,Int.reduceLE,Int.reduceLT, c_stack_machine_do, ↓plen, ponx, pg0, ps0, one_ref, one_imm, cellT_U32, Int.reduceEq, Int.reduceBEq]
    refine ⟨⟨?_, ?_⟩, ⟨?_, ?_⟩, ?_⟩
    all_goals
      refine pop_v c0 c1 _ vs vc _ _ vo o0 o1 _ o4 _ sm _ (L ++ more) v hl1 (hp.add _) _ fun vs2 g => ?_
      refine ⟨stab3 rfl rfl, ?_⟩
      simp only [go_sem,Nat.reduceEqDiff,Nat.reduceAdd,Nat.reduceMul,↓reduceIte,↓dreduceIte,reduceCtorEq,Nat.reduceLeDiff,Nat.reduceLT,Nat.reduceSub,Int.reduceToNat,Int.reduceLE,Int.reduceLT, ↓plen, ponx, pg0, ps0, one_ref, one_imm, cellT_U32, Int.reduceEq, Int.reduceBEq, hset]
      repeat (refine And.intro (by first | omega | simp; omega) ?_)
      exact hC _ _ _ _ (fun _ => g) (hf.add _) (hu.add _)
  · -- aload
    obtain ⟨v, L, rfl⟩ : ∃ v L', L = v :: L' := by cases L with | nil => simp at h1 | cons v L => exact ⟨v, L, rfl⟩
    have hl1 : (L ++ more).length ≤ 1000000 := by simp at hl ⊢; omega
    have hv : In32 v := wt v (by simp)
    have hv1 := hv.1
    have hv2 := hv.2
    have e1 : IntKind.u64.wrap v = v := by rw [IntKind.wrap_u64]; omega
    have e2 : IntKind.u64.wrap b = b := by rw [IntKind.wrap_u64]; omega
    simp only [go_sem,Nat.reduceEqDiff,Nat.reduceAdd,Nat.reduceMul,↓reduceIte,↓dreduceIte,reduceCtorEq,Nat.reduceLeDiff,Nat.reduceLT,Nat.reduceSub,Int.reduceToNat,Int.reduceLE,Int.reduceLT, c_stack_machine_do, ↓plen, ponx, pg0, ps0, one_ref, one_imm, cellT_U32, Int.reduceEq, Int.reduceBEq]
    refine pop_v c0 c1 _ vs vc _ _ vo o0 o1 _ o4 _ sm _ (L ++ more) v hl1 (hp.add _) _ fun vs2 g => ?_
    by_cases h : v < b
    · have hs : stepI s inp ⟨4, a, b, q⟩ ⟨mem, rd, out, steps, 0, ⟨f, k, v :: L⟩, below⟩ = ⟨mem, rd, out, steps, 0, ⟨f, k, mem.getD (a + v).toNat default :: L⟩, below⟩ := by
        show (if v < b then _ else _) = _
        rw [if_pos h]; rfl
      rw [hs] at hC
      have e3 : IntKind.i64.wrap v = v := i64_in (by omega) (by omega)
      have e4 : IntKind.i64.wrap (a + v) = a + v := i64_in (by omega) (by omega)
      simp only [go_sem,Nat.reduceEqDiff,Nat.reduceAdd,Nat.reduceMul,↓reduceIte,↓dreduceIte,reduceCtorEq,Nat.reduceLeDiff,Nat.reduceLT,Nat.reduceSub,Int.reduceToNat,Int.reduceLE,Int.reduceLT, ↓plen, ponx, pg0, ps0, one_ref, one_imm, cellT_U32, Int.reduceEq, Int.reduceBEq, e1, e2, e3, e4, eq_false (show ¬ b ≤ v by omega)]
      repeat (refine And.intro (by omega) ?_)
      refine push_v c0 c1 _ vs2 vc _ _ vo o0 o1 _ o4 _ sm _ (L ++ more) _ hl1 g _ fun r T' vs3 nx' k1 k2 => ?_
      simp only [go_sem,Nat.reduceEqDiff,Nat.reduceAdd,Nat.reduceMul,↓reduceIte,↓dreduceIte,reduceCtorEq,Nat.reduceLeDiff,Nat.reduceLT,Nat.reduceSub,Int.reduceToNat,Int.reduceLE,Int.reduceLT, ↓plen, ponx, pg0, ps0, one_ref, one_imm, cellT_U32, Int.reduceEq, Int.reduceBEq]
      exact hC _ _ _ _ (fun _ => k1) ((hf.add _).kp k2 (by decide)) ((hu.add _).kp k2 (by decide))
    · have hs : stepI s inp ⟨4, a, b, q⟩ ⟨mem, rd, out, steps, 0, ⟨f, k, v :: L⟩, below⟩ = ⟨mem, rd, out, steps, 3, ⟨f, k, v :: L⟩, below⟩ := by
        show (if v < b then _ else _) = _
        rw [if_neg h]
      rw [hs] at hC
      simp only [go_sem,Nat.reduceEqDiff,Nat.reduceAdd,Nat.reduceMul,↓reduceIte,↓dreduceIte,reduceCtorEq,Nat.reduceLeDiff,Nat.reduceLT,Nat.reduceSub,Int.reduceToNat,Int.reduceLE,Int.reduceLT, ↓plen, ponx, pg0, ps0, one_ref, one_imm, cellT_U32, Int.reduceEq, Int.reduceBEq, e1, e2, eq_true (show b ≤ v by omega)]
      exact hC _ _ _ _ (fun h => by simp at h) (hf.add _) (hu.add _)
  · -- astore
    obtain ⟨v, w, L, rfl⟩ : ∃ v w L', L = v :: w :: L' := by
      match L, h1 with
      | v :: w :: L, _ => exact ⟨v, w, L, rfl⟩
    have hl1 : (L ++ more).length ≤ 1000000 := by simp at hl ⊢; omega
    have hl2 : (w :: (L ++ more)).length ≤ 1000000 := by simp at hl ⊢; omega
    have hv : In32 v := wt v (by simp)
    have hw : In32 w := wt w (by simp)
    have hv1 := hw.1
    have hv2 := hw.2
    have e1 : IntKind.u64.wrap w = w := by rw [IntKind.wrap_u64]; omega
    have e2 : IntKind.u64.wrap b = b := by rw [IntKind.wrap_u64]; omega
    simp only [go_sem,Nat.reduceEqDiff,Nat.reduceAdd,Nat.reduceMul,↓reduceIte,↓dreduceIte,reduceCtorEq,Nat.reduceLeDiff,Nat.reduceLT,Nat.reduceSub,Int.reduceToNat,Int.reduceLE,Int.reduceLT, c_stack_machine_do, ↓plen, ponx, pg0, ps0, one_ref, one_imm, cellT_U32, Int.reduceEq, Int.reduceBEq]
    refine pop_v c0 c1 _ vs vc _ _ vo o0 o1 _ o4 _ sm _ (w :: (L ++ more)) v hl2 (hp.add _) _ fun vs2 g => ?_
    simp only [go_sem,Nat.reduceEqDiff,Nat.reduceAdd,Nat.reduceMul,↓reduceIte,↓dreduceIte,reduceCtorEq,Nat.reduceLeDiff,Nat.reduceLT,Nat.reduceSub,Int.reduceToNat,Int.reduceLE,Int.reduceLT, ↓plen, ponx, pg0, ps0, one_ref, one_imm, cellT_U32, Int.reduceEq, Int.reduceBEq]
    refine pop_v c0 c1 _ vs2 vc _ _ vo o0 o1 _ o4 _ sm _ (L ++ more) w hl1 g _ fun vs3 g3 => ?_
    by_cases h : w < b
    · have hs : stepI s inp ⟨5, a, b, q⟩ ⟨mem, rd, out, steps, 0, ⟨f, k, v :: w :: L⟩, below⟩ = ⟨mem.set (a + w).toNat v, rd, out, steps, 0, ⟨f, k, L⟩, below⟩ := by
        show (if w < b then _ else _) = _
        rw [if_pos h]; rfl
      rw [hs] at hC
      have e3 : IntKind.i64.wrap w = w := i64_in (by omega) (by omega)
      have e4 : IntKind.i64.wrap (a + w) = a + w := i64_in (by omega) (by omega)
      have hset : (mem.map U32).set (a + w).toNat (U32 v) = (mem.set (a + w).toNat v).map U32 := set_map U32 _ _ _
      simp only [go_sem,Nat.reduceEqDiff,Nat.reduceAdd,Nat.reduceMul,↓reduceIte,↓dreduceIte,reduceCtorEq,Nat.reduceLeDiff,Nat.reduceLT,Nat.reduceSub,Int.reduceToNat,Int.reduceLE,Int.reduceLT, ↓plen, ponx, pg0, ps0, one_ref, one_imm, cellT_U32, Int.reduceEq, Int.reduceBEq, e1, e2, e3, e4, hset, eq_false (show ¬ b ≤ w by omega)]
      repeat (refine And.intro (by omega) ?_)
      exact hC _ _ _ _ (fun _ => g3) (hf.add _) (hu.add _)
    · have hs : stepI s inp ⟨5, a, b, q⟩ ⟨mem, rd, out, steps, 0, ⟨f, k, v :: w :: L⟩, below⟩ = ⟨mem, rd, out, steps, 3, ⟨f, k, v :: w :: L⟩, below⟩ := by
        show (if w < b then _ else _) = _
        rw [if_neg h]
      rw [hs] at hC
      simp only [go_sem,Nat.reduceEqDiff,Nat.reduceAdd,Nat.reduceMul,↓reduceIte,↓dreduceIte,reduceCtorEq,Nat.reduceLeDiff,Nat.reduceLT,Nat.reduceSub,Int.reduceToNat,Int.reduceLE,Int.reduceLT, ↓plen, ponx, pg0, ps0, one_ref, one_imm, cellT_U32, Int.reduceEq, Int.reduceBEq, e1, e2, eq_true (show b ≤ w by omega)]
      exact hC _ _ _ _ (fun h => by simp at h) (hf.add _) (hu.add _)
  · -- op
    obtain ⟨v, w, L, rfl⟩ : ∃ v w L', L = v :: w :: L' := by
      match L, h1 with
      | v :: w :: L, _ => exact ⟨v, w, L, rfl⟩
    have hl1 : (L ++ more).length ≤ 1000000 := by simp at hl ⊢; omega
    have hl2 : (w :: (L ++ more)).length ≤ 1000000 := by simp at hl ⊢; omega
    have hv : In32 v := wt v (by simp)
    have hw : In32 w := wt w (by simp)
    simp only [go_sem,Nat.reduceEqDiff,Nat.reduceAdd,Nat.reduceMul,↓reduceIte,↓dreduceIte,reduceCtorEq,Nat.reduceLeDiff,Nat.reduceLT,Nat.reduceSub,Int.reduceToNat,Int.reduceLE,Int.reduceLT, c_stack_machine_do, ↓plen, ponx, pg0, ps0, one_ref, one_imm, cellT_U32, Int.reduceEq, Int.reduceBEq]
    refine pop_v c0 c1 _ vs vc _ _ vo o0 o1 _ o4 _ sm _ (w :: (L ++ more)) v hl2 (hp.add _) _ fun vs2 g => ?_
    simp only [go_sem,Nat.reduceEqDiff,Nat.reduceAdd,Nat.reduceMul,↓reduceIte,↓dreduceIte,reduceCtorEq,Nat.reduceLeDiff,Nat.reduceLT,Nat.reduceSub,Int.reduceToNat,Int.reduceLE,Int.reduceLT, ↓plen, ponx, pg0, ps0, one_ref, one_imm, cellT_U32, Int.reduceEq, Int.reduceBEq]
    refine pop_v c0 c1 _ vs2 vc _ _ vo o0 o1 _ o4 _ sm _ (L ++ more) w hl1 g _ fun vs3 g3 => ?_
    simp only [go_sem,Nat.reduceEqDiff,Nat.reduceAdd,Nat.reduceMul,↓reduceIte,↓dreduceIte,reduceCtorEq,Nat.reduceLeDiff,Nat.reduceLT,Nat.reduceSub,Int.reduceToNat,Int.reduceLE,Int.reduceLT, ↓plen, ponx, pg0, ps0, one_ref, one_imm, cellT_U32, Int.reduceEq, Int.reduceBEq]
    refine VCall.of_contract (apply_c a w v hv.1) (SleL.pure rfl) fun r hr => ?_
    subst hr
    by_cases h : (applyW a w v).2 = 0
    · have hs : stepI s inp ⟨6, a, b, q⟩ ⟨mem, rd, out, steps, 0, ⟨f, k, v :: w :: L⟩, below⟩ = ⟨mem, rd, out, steps, 0, ⟨f, k, (applyW a w v).1 :: L⟩, below⟩ := by
        show (if (applyW a w v).2 = 0 then _ else _) = _
        rw [if_pos h]; rfl
      rw [hs] at hC
      simp only [go_sem,Nat.reduceEqDiff,Nat.reduceAdd,Nat.reduceMul,↓reduceIte,↓dreduceIte,reduceCtorEq,Nat.reduceLeDiff,Nat.reduceLT,Nat.reduceSub,Int.reduceToNat,Int.reduceLE,Int.reduceLT, ↓plen, ponx, pg0, ps0, one_ref, one_imm, cellT_U32, Int.reduceEq, Int.reduceBEq, h]
      refine push_v c0 c1 _ vs3 vc _ _ vo o0 o1 _ o4 _ sm _ (L ++ more) _ hl1 g3 _ fun r T' vs3 nx' k1 k2 => ?_
      simp only [go_sem,Nat.reduceEqDiff,Nat.reduceAdd,Nat.reduceMul,↓reduceIte,↓dreduceIte,reduceCtorEq,Nat.reduceLeDiff,Nat.reduceLT,Nat.reduceSub,Int.reduceToNat,Int.reduceLE,Int.reduceLT, ↓plen, ponx, pg0, ps0, one_ref, one_imm, cellT_U32, Int.reduceEq, Int.reduceBEq]
      exact hC _ _ _ _ (fun _ => k1) ((hf.add _).kp k2 (by decide)) ((hu.add _).kp k2 (by decide))
    · have hs : stepI s inp ⟨6, a, b, q⟩ ⟨mem, rd, out, steps, 0, ⟨f, k, v :: w :: L⟩, below⟩ = ⟨mem, rd, out, steps, 2, ⟨f, k, v :: w :: L⟩, below⟩ := by
        show (if (applyW a w v).2 = 0 then _ else _) = _
        rw [if_neg h]
      rw [hs] at hC
      simp only [go_sem,Nat.reduceEqDiff,Nat.reduceAdd,Nat.reduceMul,↓reduceIte,↓dreduceIte,reduceCtorEq,Nat.reduceLeDiff,Nat.reduceLT,Nat.reduceSub,Int.reduceToNat,Int.reduceLE,Int.reduceLT, ↓plen, ponx, pg0, ps0, one_ref, one_imm, cellT_U32, Int.reduceEq, Int.reduceBEq, eq_false h]
      repeat (refine And.intro (by first | omega | simp [h]) ?_)
      exact hC _ _ _ _ (fun h => by simp at h) (hf.add _) (hu.add _)
  · -- not
    obtain ⟨v, L, rfl⟩ : ∃ v L', L = v :: L' := by cases L with | nil => simp at h1 | cons v L => exact ⟨v, L, rfl⟩
    have hl1 : (L ++ more).length ≤ 1000000 := by simp at hl ⊢; omega
    have hv : In32 v := wt v (by simp)
    simp only [go_sem,Nat.reduceEqDiff,Nat.reduceAdd,Nat.reduceMul,↓reduceIte,↓dreduceIte,reduceCtorEq,Nat.reduceLeDiff,Nat.reduceLT,Nat.reduceSub,Int.reduceToNat,Int.reduceLE,Int.reduceLT, c_stack_machine_do, ↓plen, ponx, pg0, ps0, one_ref, one_imm, cellT_U32, Int.reduceEq, Int.reduceBEq]
    refine pop_v c0 c1 _ vs vc _ _ vo o0 o1 _ o4 _ sm _ (L ++ more) v hl1 (hp.add _) _ fun vs2 g => ?_
    refine ⟨stab3 rfl rfl, ?_⟩
    simp only [go_sem,Nat.reduceEqDiff,Nat.reduceAdd,Nat.reduceMul,↓reduceIte,↓dreduceIte,reduceCtorEq,Nat.reduceLeDiff,Nat.reduceLT,Nat.reduceSub,Int.reduceToNat,Int.reduceLE,Int.reduceLT, ↓plen, ponx, pg0, ps0, one_ref, one_imm, cellT_U32, Int.reduceEq, Int.reduceBEq]
    refine not_v _ v _ _ ⟨Stab.refl _ _ _, ?_⟩
    simp only [go_sem,Nat.reduceEqDiff,Nat.reduceAdd,Nat.reduceMul,↓reduceIte,↓dreduceIte,reduceCtorEq,Nat.reduceLeDiff,Nat.reduceLT,Nat.reduceSub,Int.reduceToNat,Int.reduceLE,Int.reduceLT, ↓plen, ponx, pg0, ps0, one_ref, one_imm, cellT_U32, Int.reduceEq, Int.reduceBEq]
    refine push_v c0 c1 _ vs2 vc _ _ vo o0 o1 _ o4 _ sm _ (L ++ more) _ hl1 g _ fun r T' vs3 nx' k1 k2 => ?_
    simp only [go_sem,Nat.reduceEqDiff,Nat.reduceAdd,Nat.reduceMul,↓reduceIte,↓dreduceIte,reduceCtorEq,Nat.reduceLeDiff,Nat.reduceLT,Nat.reduceSub,Int.reduceToNat,Int.reduceLE,Int.reduceLT, ↓plen, ponx, pg0, ps0, one_ref, one_imm, cellT_U32, Int.reduceEq, Int.reduceBEq]
    exact hC _ _ _ _ (fun _ => k1) ((hf.add _).kp k2 (by decide)) ((hu.add _).kp k2 (by decide))
  · exact absurd rfl hne.1
  · exact absurd rfl hne.2.1
  · exact absurd rfl hne.2.2.1
  · exact absurd rfl hne.2.2.2
  · -- get
    have hl1 : (L ++ more).length ≤ 1000000 := by omega
    simp only [go_sem,Nat.reduceEqDiff,Nat.reduceAdd,Nat.reduceMul,↓reduceIte,↓dreduceIte,reduceCtorEq,Nat.reduceLeDiff,Nat.reduceLT,Nat.reduceSub,Int.reduceToNat,Int.reduceLE,Int.reduceLT, c_stack_machine_do, ↓plen, ponx, pg0, ps0, one_ref, one_imm, cellT_U32, Int.reduceEq, Int.reduceBEq]
    subst hn
    refine sget_v c0 c1 vs vc vo inp o0 o1 o4 _ s2 sm _ mem rd hi hr _ ⟨stab3 rfl rfl, ?_⟩
    simp only [go_sem,Nat.reduceEqDiff,Nat.reduceAdd,Nat.reduceMul,↓reduceIte,↓dreduceIte,reduceCtorEq,Nat.reduceLeDiff,Nat.reduceLT,Nat.reduceSub,Int.reduceToNat,Int.reduceLE,Int.reduceLT, ↓plen, ponx, pg0, ps0, one_ref, one_imm, cellT_U32, Int.reduceEq, Int.reduceBEq]
    refine push_v c0 c1 _ vs vc _ _ vo o0 o1 _ o4 _ sm _ (L ++ more) _ hl1 (hp.add _) _ fun r T' vs3 nx' k1 k2 => ?_
    simp only [go_sem,Nat.reduceEqDiff,Nat.reduceAdd,Nat.reduceMul,↓reduceIte,↓dreduceIte,reduceCtorEq,Nat.reduceLeDiff,Nat.reduceLT,Nat.reduceSub,Int.reduceToNat,Int.reduceLE,Int.reduceLT, ↓plen, ponx, pg0, ps0, one_ref, one_imm, cellT_U32, Int.reduceEq, Int.reduceBEq]
    by_cases h : rd < inp.size
    · have hs : stepI s inp ⟨12, a, b, q⟩ ⟨mem, rd, out, steps, 0, ⟨f, k, L⟩, below⟩ = ⟨mem, rd + 1, out, steps, 0, ⟨f, k, byteAt inp rd :: L⟩, below⟩ := by
        show (if rd < inp.size then _ else _) = _
        rw [if_pos h]; rfl
      rw [hs] at hC
      rw [if_pos h] at k1
      simp only [if_pos h]
      exact hC _ _ _ _ (fun _ => k1) ((hf.add _).kp k2 (by decide)) ((hu.add _).kp k2 (by decide))
    · have hs : stepI s inp ⟨12, a, b, q⟩ ⟨mem, rd, out, steps, 0, ⟨f, k, L⟩, below⟩ = ⟨mem, rd, out, steps, 0, ⟨f, k, 256 :: L⟩, below⟩ := by
        show (if rd < inp.size then _ else _) = _
        rw [if_neg h]; rfl
      rw [hs] at hC
      rw [if_neg h] at k1
      simp only [if_neg h]
      exact hC _ _ _ _ (fun _ => k1) ((hf.add _).kp k2 (by decide)) ((hu.add _).kp k2 (by decide))
  · -- put
    obtain ⟨v, L, rfl⟩ : ∃ v L', L = v :: L' := by cases L with | nil => simp at h1 | cons v L => exact ⟨v, L, rfl⟩
    have hl1 : (L ++ more).length ≤ 1000000 := by simp at hl ⊢; omega
    have hv : In32 v := wt v (by simp)
    simp only [go_sem,Nat.reduceEqDiff,Nat.reduceAdd,Nat.reduceMul,↓reduceIte,↓dreduceIte,reduceCtorEq,Nat.reduceLeDiff,Nat.reduceLT,Nat.reduceSub,Int.reduceToNat,Int.reduceLE,Int.reduceLT, c_stack_machine_do, ↓plen, ponx, pg0, ps0, one_ref, one_imm, cellT_U32, Int.reduceEq, Int.reduceBEq]
    refine pop_v c0 c1 _ vs vc _ _ vo o0 o1 _ o4 _ sm _ (L ++ more) v hl1 (hp.add _) _ fun vs2 g => ?_
    have hs : stepI s inp ⟨13, a, b, q⟩ ⟨mem, rd, out, steps, 0, ⟨f, k, v :: L⟩, below⟩ = ⟨mem, rd, out ++ [byteS v], steps, 0, ⟨f, k, L⟩, below⟩ := rfl
    rw [hs] at hC
    have hU8 : (AV.val (.int .u8 (IntKind.u8.wrap v))) = U8 (byteS v) := by rw [← byteS_eq]
    have hT0 := hu
    rcases hu with ⟨rfl, rfl⟩ | ⟨k0, so, rfl, hT⟩
    · simp only [go_sem,Nat.reduceEqDiff,Nat.reduceAdd,Nat.reduceMul,↓reduceIte,↓dreduceIte,reduceCtorEq,Nat.reduceLeDiff,Nat.reduceLT,Nat.reduceSub,Int.reduceToNat,Int.reduceLE,Int.reduceLT, ↓plen, ponx, pg0, ps0, one_ref, one_imm, cellT_U32, Int.reduceEq, Int.reduceBEq, pg01, pg1, ps1, hU8]
      repeat (refine And.intro (by omega) ?_)
      refine hC _ _ _ _ (fun _ => (g.add _).add _) (((hf.add _).add _).add _) (.inr ⟨T.length + 1 + 1, nx + 1 + 1, rfl, ?_⟩)
      rw [pg2]; rfl
    · have hk := (List.getElem?_eq_some_iff.1 hT).1
      have hT2 : ∀ x : VObj, (T ++ [x])[k0]? = some ⟨so, 5, 1, out.map U8⟩ := fun x => by rw [List.getElem?_append_left hk]; exact hT
      have hT3 : ∀ x y : VObj, (T ++ [x] ++ [y])[k0]? = some ⟨so, 5, 1, out.map U8⟩ := fun x y => by rw [List.append_assoc, List.getElem?_append_left hk]; exact hT
      simp only [go_sem,Nat.reduceEqDiff,Nat.reduceAdd,Nat.reduceMul,↓reduceIte,↓dreduceIte,reduceCtorEq,Nat.reduceLeDiff,Nat.reduceLT,Nat.reduceSub,Int.reduceToNat,Int.reduceLE,Int.reduceLT, ↓plen, ponx, pg0, ps0, one_ref, one_imm, cellT_U32, Int.reduceEq, Int.reduceBEq, pg01, pg1, ps1, hU8, hT2, hT3, eq_false (show ¬ (65536 : Int) ≤ (out.length : Int) by omega)]
      repeat (refine And.intro (by omega) ?_)
      refine hC _ _ _ _ (fun _ => (g.add _).kp (ty := 5) (Kp.put (hT3 _ _) rfl) (by decide)) (((hf.add _).add _).kp (ty := 5) (Kp.put (hT3 _ _) rfl) (by decide)) (.inr ⟨k0, nx + 1 + 1, ?_, ?_⟩)
      · simp
      · rw [List.getElem?_set, if_pos rfl, if_pos (by simp; omega), List.take_of_length_le (by simp)]
        simp
end Go.Proofs.Ytdfdkoajphcjbaa
