/-
  Images of blocks: choose.Of gives the image that is told plainly: contract. No condition. A run, reckoned, at arguments that are known. No condition. The examples' runs, reckoned. No condition. The examples' runs: contracts. No condition. Images of blocks: the example's images, and that they end as it does; arguments as data. No condition. ChooseLive: the row. No condition. ChooseNeeds: the row. No condition. ChooseLive, ChooseNeeds: the rows. No condition.
-/
import Derived.Test.YtkbhfokbhkmfgaaQ2
import Derived.Test.YtkbhfokbhkmfgaaUCode
import Derived.Test.YtkbhfokbhkmfgaaUF
import Derived.Test.YtkbhfokbhkmfgaaUY
set_option linter.unusedVariables false
set_option linter.unusedSimpArgs false
namespace Go.Proofs.Ytkbhfokbhkmfgaa
set_option linter.unusedSimpArgs false
set_option linter.unusedVariables false
set_option maxRecDepth 10000
open Go.V
section
variable {b : BP} {ls : List (List Int)} {rw : Nat → List Bool}
theorem wr_virt1 (b : BP) (q : WI) (r : AV) : ∀ (j : Nat) x y, (wrL b 0 0 nilv q nilv nilv)[j]? = some x → (wrL b 0 0 nilv q r nilv)[j]? = some y → x = y ∨ (x = .val (.slice none 0 0) ∧ y = r) := fun j x y hx hy => by
  rcases j with _ | _ | _ | j
  · simp at hx hy; left; rw [← hx, ← hy]
  · simp at hx hy; left; rw [← hx, ← hy]
  · simp at hx hy; right; exact ⟨hx.symm, hy.symm⟩
  · simp only [List.getElem?_cons_succ] at hx hy; left; rw [hx] at hy; exact Option.some.inj hy
theorem wr_virt2 (b : BP) (q : WI) (r s : AV) : ∀ (j : Nat) x y, (wrL b 0 0 nilv q r nilv)[j]? = some x → (wrL b 0 0 nilv q r s)[j]? = some y → x = y ∨ (x = .val (.slice none 0 0) ∧ y = s) := fun j x y hx hy => by
  rcases j with _ | _ | _ | _ | j
  · simp at hx hy; left; rw [← hx, ← hy]
  · simp at hx hy; left; rw [← hx, ← hy]
  · simp at hx hy; left; rw [← hx, ← hy]
  · simp at hx hy; right; exact ⟨hx.symm, hy.symm⟩
  · simp only [List.getElem?_cons_succ] at hx hy; left; rw [hx] at hy; exact Option.some.inj hy
theorem of_A (h : OfH b ls rw) {env : List (Nat × AV)} {H : List VObj} {kW kE kB kD : Nat} (g1 : get env 1 = alsA ls) (g2 : get env 2 = .ptr 0 0 0) (g4 : get env 4 = .ptr 1 1 0) (g6 : get env 6 = .ptr kW kW 0)
    (h0 : H[0]? = some ⟨0, 24, 1, [I b.words, .imm 2 (b.funcs.map bfA)]⟩) (h1 : H[1]? = some ⟨1, 30, 1, [nilv, I 0]⟩) (hl : H.length = 6)
    (hW : H[kW]? = some ⟨kW, 75, 1, wrL b 0 0 nilv ⟨kW, kW, kE, kE, kB, kB, kD, kD⟩ nilv nilv⟩)
    (hE : H[kE]? = some ⟨kE, 3, 1, List.replicate b.funcs.length (I 0)⟩) (hB : H[kB]? = some ⟨kB, 53, 1, List.replicate b.funcs.length nilv⟩) (hD : H[kD]? = some ⟨kD, 3, 1, List.replicate b.funcs.length (I 0)⟩)
    (hED : kE ≠ kD) (h1B : 1 ≠ kB) (h1E : 1 ≠ kE) (h1D : 1 ≠ kD) (h0D : 0 ≠ kD) :
    ∃ st'', Wk ⟨env, H, 6⟩ st'' ∧ VWs Try.prog (tailC 2 c_choose_Of) (retQ Try.prog [.cell 4 true 2, .tmp 5] (ofC b ls rw)) st'' := by
  have hkW : kW < H.length := (List.getElem?_eq_some_iff.1 hW).1
  have v1 := virt_at (env := [(1, alsA ls), (2, .ptr 0 0 0), (4, .ptr 1 1 0), (6, .ptr kW kW 0)]) (H := H) (nx := 6) (i := kW) (cs' := wrL b 0 0 nilv ⟨kW, kW, kE, kE, kB, kB, kD, kD⟩ (.ref H.length 6 0 0) nilv) 115 4 (by decide) (by simp [get_cons]) hW (by simp) rfl (wr_virt1 b _ _)
  have hW1 : (H.set kW ⟨kW, 75, 1, wrL b 0 0 nilv ⟨kW, kW, kE, kE, kB, kB, kD, kD⟩ (.ref H.length 6 0 0) nilv⟩ ++ [(⟨6, 115, 4, []⟩ : VObj)])[kW]? = some ⟨kW, 75, 1, wrL b 0 0 nilv ⟨kW, kW, kE, kE, kB, kB, kD, kD⟩ (.ref H.length 6 0 0) nilv⟩ := ap_old (set_get hW) _
  have hL1 : (H.set kW ⟨kW, 75, 1, wrL b 0 0 nilv ⟨kW, kW, kE, kE, kB, kB, kD, kD⟩ (.ref H.length 6 0 0) nilv⟩ ++ [(⟨6, 115, 4, []⟩ : VObj)]).length = H.length + 1 := by simp
  have hI1 : (H.set kW ⟨kW, 75, 1, wrL b 0 0 nilv ⟨kW, kW, kE, kE, kB, kB, kD, kD⟩ (.ref H.length 6 0 0) nilv⟩ ++ [(⟨6, 115, 4, []⟩ : VObj)])[H.length]? = some ⟨6, 115, 4, []⟩ := by
    rw [List.getElem?_append_right (by simp)]; simp
  have t1 : ∀ {i : Nat} {ob : VObj}, H[i]? = some ob → i ≠ kW → (H.set kW ⟨kW, 75, 1, wrL b 0 0 nilv ⟨kW, kW, kE, kE, kB, kB, kD, kD⟩ (.ref H.length 6 0 0) nilv⟩ ++ [(⟨6, 115, 4, []⟩ : VObj)])[i]? = some ob := fun {i ob} a1 a2 => ap_old (by rw [set_ne (fun e => a2 e.symm)]; exact a1) _
  generalize (H.set kW ⟨kW, 75, 1, wrL b 0 0 nilv ⟨kW, kW, kE, kE, kB, kB, kD, kD⟩ (.ref H.length 6 0 0) nilv⟩ ++ [(⟨6, 115, 4, []⟩ : VObj)]) = H1 at *
  have v2 := virt_at (env := [(1, alsA ls), (2, .ptr 0 0 0), (4, .ptr 1 1 0), (6, .ptr kW kW 0)]) (H := H1) (nx := 7) (i := kW) (cs' := wrL b 0 0 nilv ⟨kW, kW, kE, kE, kB, kB, kD, kD⟩ (.ref H.length 6 0 0) (.ref H1.length 7 0 0)) 113 3 (by decide) (by simp [get_cons]) hW1 (by simp) rfl (wr_virt2 b _ _ _)
  have t2 : ∀ {i : Nat} {ob : VObj}, H1[i]? = some ob → i ≠ kW → (H1.set kW ⟨kW, 75, 1, wrL b 0 0 nilv ⟨kW, kW, kE, kE, kB, kB, kD, kD⟩ (.ref H.length 6 0 0) (.ref H1.length 7 0 0)⟩ ++ [(⟨7, 113, 3, []⟩ : VObj)])[i]? = some ob := fun {i ob} a1 a2 => ap_old (by rw [set_ne (fun e => a2 e.symm)]; exact a1) _
  have hW2 : (H1.set kW ⟨kW, 75, 1, wrL b 0 0 nilv ⟨kW, kW, kE, kE, kB, kB, kD, kD⟩ (.ref H.length 6 0 0) (.ref H1.length 7 0 0)⟩ ++ [(⟨7, 113, 3, []⟩ : VObj)])[kW]? = some ⟨kW, 75, 1, wrL b 0 0 nilv ⟨kW, kW, kE, kE, kB, kB, kD, kD⟩ (.ref H.length 6 0 0) (.ref H1.length 7 0 0)⟩ := ap_old (set_get hW1) _
  have hI2 : (H1.set kW ⟨kW, 75, 1, wrL b 0 0 nilv ⟨kW, kW, kE, kE, kB, kB, kD, kD⟩ (.ref H.length 6 0 0) (.ref H1.length 7 0 0)⟩ ++ [(⟨7, 113, 3, []⟩ : VObj)])[H1.length]? = some ⟨7, 113, 3, []⟩ := by
    rw [List.getElem?_append_right (by simp)]; simp
  generalize (H1.set kW ⟨kW, 75, 1, wrL b 0 0 nilv ⟨kW, kW, kE, kE, kB, kB, kD, kD⟩ (.ref H.length 6 0 0) (.ref H1.length 7 0 0)⟩ ++ [(⟨7, 113, 3, []⟩ : VObj)]) = H2 at *
  have ne : ∀ {i : Nat} {ob : VObj}, H[i]? = some ob → ob.ty ≠ 75 → i ≠ kW := fun {i ob} a1 a2 e => by subst e; rw [hW] at a1; cases a1; exact a2 rfl
  have tt : ∀ {i : Nat} {ob : VObj}, H[i]? = some ob → ob.ty ≠ 75 → H2[i]? = some ob := fun a1 a2 => t2 (t1 a1 (ne a1 a2)) (ne a1 a2)
  have er : List.replicate b.funcs.length (I 0) = (List.replicate b.funcs.length (0 : Int)).map I := by rw [List.map_replicate]
  rw [er] at hE hD
  have hWH : WH b (List.replicate b.funcs.length 0) 0 0 nilv ⟨kW, kW, kE, kE, kB, kB, kD, kD⟩ H2 [] [] (List.replicate b.funcs.length 0) (List.replicate b.funcs.length nilv) :=
    ⟨⟨_, _, hW2, ⟨H.length, 6, rfl, t2 hI1 (by omega)⟩, ⟨H1.length, 7, rfl, hI2⟩⟩, tt hE (by simp), tt hB (by simp), tt hD (by simp)⟩
  have v0 : Wk ⟨env, H, 6⟩ ⟨[(1, alsA ls), (2, .ptr 0 0 0), (4, .ptr 1 1 0), (6, .ptr kW kW 0)], H, 6⟩ := by
    refine Wk.mk (fun p hp => ?_) ⟨[], by simp⟩ (Nat.le_refl _)
    simp only [List.mem_cons, List.not_mem_nil, or_false] at hp
    rcases hp with rfl | rfl | rfl | rfl
    · exact g1
    · exact g2
    · exact g4
    · exact g6
  exact ⟨_, v0.trans (v1.trans v2), of_B h hWH hED h1B h1E h1D h0D (tt h0 (by simp)) (tt h1 (by simp)) _⟩
set_option maxHeartbeats 4000000 in
theorem of29N_c (h : OfH b ls rw) : ContractN Try.prog 11 [bpA b, alsA ls] (fun r => r = ofA b ls rw) := by
  have hq := f_choose_Of
  unfold compF compFp at hq
  refine ContractN.of_call (VCall.of_bodyS (pt := false) (pf := false) hmix hq (by simp) ?_)
  have h20 := h.f.few.l
  have hmx : (200000 : Nat) ≤ maxLen := by decide
  have key := fun env H kW kE kB kD => of_A h (env := env) (H := H) (kW := kW) (kE := kE) (kB := kB) (kD := kD)
  simp only [tailC, c_choose_Of] at key
  simp only [c_choose_Of, go_sem, Nat.reduceAdd, ↓reduceIte, VWs_seq]
  refine ⟨⟨[(1, alsA ls), (2, .ptr 0 0 0), (4, .ptr 1 1 0)], [⟨0, 24, 1, [I b.words, .imm 2 (b.funcs.map bfA)]⟩, ⟨1, 30, 1, [nilv, I 0]⟩], 2⟩, Wk.mk (by simp [get_cons]) ⟨[], by simp⟩ (Nat.le_refl _), ?_⟩
  simp only [go_sem, Nat.reduceEqDiff, Nat.reduceAdd, ↓reduceIte, Nat.reduceLeDiff, Nat.reduceLT, VWs_seq, List.length_map, flat_rep]
  repeat' (with_reducible apply And.intro)
  all_goals try omega
  · exact key _ _ 5 2 3 4 rfl rfl rfl rfl rfl rfl rfl rfl rfl rfl rfl (by decide) (by decide) (by decide) (by decide) (by decide)
  · exact key _ _ 4 2 3 5 rfl rfl rfl rfl rfl rfl rfl rfl rfl rfl rfl (by decide) (by decide) (by decide) (by decide) (by decide)
  · exact key _ _ 5 2 4 3 rfl rfl rfl rfl rfl rfl rfl rfl rfl rfl rfl (by decide) (by decide) (by decide) (by decide) (by decide)
  · exact key _ _ 4 2 5 3 rfl rfl rfl rfl rfl rfl rfl rfl rfl rfl rfl (by decide) (by decide) (by decide) (by decide) (by decide)
  · exact key _ _ 3 2 4 5 rfl rfl rfl rfl rfl rfl rfl rfl rfl rfl rfl (by decide) (by decide) (by decide) (by decide) (by decide)
  · exact key _ _ 3 2 5 4 rfl rfl rfl rfl rfl rfl rfl rfl rfl rfl rfl (by decide) (by decide) (by decide) (by decide) (by decide)
  · exact key _ _ 5 3 2 4 rfl rfl rfl rfl rfl rfl rfl rfl rfl rfl rfl (by decide) (by decide) (by decide) (by decide) (by decide)
  · exact key _ _ 4 3 2 5 rfl rfl rfl rfl rfl rfl rfl rfl rfl rfl rfl (by decide) (by decide) (by decide) (by decide) (by decide)
  · exact key _ _ 5 4 2 3 rfl rfl rfl rfl rfl rfl rfl rfl rfl rfl rfl (by decide) (by decide) (by decide) (by decide) (by decide)
  · exact key _ _ 4 5 2 3 rfl rfl rfl rfl rfl rfl rfl rfl rfl rfl rfl (by decide) (by decide) (by decide) (by decide) (by decide)
  · exact key _ _ 3 4 2 5 rfl rfl rfl rfl rfl rfl rfl rfl rfl rfl rfl (by decide) (by decide) (by decide) (by decide) (by decide)
  · exact key _ _ 3 5 2 4 rfl rfl rfl rfl rfl rfl rfl rfl rfl rfl rfl (by decide) (by decide) (by decide) (by decide) (by decide)
  · exact key _ _ 5 3 4 2 rfl rfl rfl rfl rfl rfl rfl rfl rfl rfl rfl (by decide) (by decide) (by decide) (by decide) (by decide)
  · exact key _ _ 4 3 5 2 rfl rfl rfl rfl rfl rfl rfl rfl rfl rfl rfl (by decide) (by decide) (by decide) (by decide) (by decide)
  · exact key _ _ 5 4 3 2 rfl rfl rfl rfl rfl rfl rfl rfl rfl rfl rfl (by decide) (by decide) (by decide) (by decide) (by decide)
  · exact key _ _ 4 5 3 2 rfl rfl rfl rfl rfl rfl rfl rfl rfl rfl rfl (by decide) (by decide) (by decide) (by decide) (by decide)
  · exact key _ _ 3 4 5 2 rfl rfl rfl rfl rfl rfl rfl rfl rfl rfl rfl (by decide) (by decide) (by decide) (by decide) (by decide)
  · exact key _ _ 3 5 4 2 rfl rfl rfl rfl rfl rfl rfl rfl rfl rfl rfl (by decide) (by decide) (by decide) (by decide) (by decide)
  · exact key _ _ 2 3 4 5 rfl rfl rfl rfl rfl rfl rfl rfl rfl rfl rfl (by decide) (by decide) (by decide) (by decide) (by decide)
  · exact key _ _ 2 3 5 4 rfl rfl rfl rfl rfl rfl rfl rfl rfl rfl rfl (by decide) (by decide) (by decide) (by decide) (by decide)
  · exact key _ _ 2 4 3 5 rfl rfl rfl rfl rfl rfl rfl rfl rfl rfl rfl (by decide) (by decide) (by decide) (by decide) (by decide)
  · exact key _ _ 2 5 3 4 rfl rfl rfl rfl rfl rfl rfl rfl rfl rfl rfl (by decide) (by decide) (by decide) (by decide) (by decide)
  · exact key _ _ 2 4 5 3 rfl rfl rfl rfl rfl rfl rfl rfl rfl rfl rfl (by decide) (by decide) (by decide) (by decide) (by decide)
  · exact key _ _ 2 5 4 3 rfl rfl rfl rfl rfl rfl rfl rfl rfl rfl rfl (by decide) (by decide) (by decide) (by decide) (by decide)
theorem of29_c (h : OfH b ls rw) : Contract Try.prog 11 [bpA b, alsA ls] (fun r => r = ofA b ls rw) := (of29N_c h).old
end
end Go.Proofs.Ytkbhfokbhkmfgaa
namespace Go.Proofs.Ytkbhfokbhkmfgaa
set_option linter.unusedSimpArgs false
set_option linter.unusedVariables false
open Go.V
def tabS : Tab := [
  (79, 411, c_scref10_work_step, []),
  (93, 25, c_scref07_Decode, [(.cell 2 true 4), (.tmp 3)]),
  (94, 22, c_scref10_work_set, []),
  (95, 23, c_scref10_fetch, [(.tmp 6), (.tmp 7)]),
  (96, 21, c_scref10_work_jump, []),
  (103, 38, c_scref07_Right, [(.tmp 2)]),
  (104, 31, c_scref07_Parts, [(.tmp 2)]),
  (105, 17, c_scref07_has, [(.tmp 4)]),
  (106, 18, c_scref07_within, [(.tmp 6)])]
theorem tabS_ok : TabOK Try.prog tabS := by
  intro p hp
  simp only [tabS, List.mem_cons, List.not_mem_nil, or_false] at hp
  rcases hp with rfl | rfl | rfl | rfl | rfl | rfl | rfl | rfl | rfl
  · exact f_scref10_work_step
  · exact f_scref07_Decode
  · exact f_scref10_work_set
  · exact f_scref10_fetch
  · exact f_scref10_work_jump
  · exact f_scref07_Right
  · exact f_scref07_Parts
  · exact f_scref07_has
  · exact f_scref07_within
def envTr : List (Nat × AV) → (Tr → Bool) → Bool
  | [], k => k .nil
  | (i, x) :: l, k => envTr l fun t => Tr.put 24 t i x k
theorem envTr_agr : ∀ (l : List (Nat × AV)) (k : Tr → Bool), envTr l k = true → ∃ t, k t = true ∧ Agr l t
  | [], k, h => ⟨.nil, h, fun m => rfl⟩
  | (i, x) :: l, k, h => by
    obtain ⟨t, h1, h2⟩ := envTr_agr l _ h
    obtain ⟨t2, h3, h4⟩ := Tr.put_ok _ _ _ _ _ h1
    refine ⟨t2, h3, fun m => ?_⟩
    rw [h4 m, get_cons]
    by_cases e : i = m
    · rw [if_pos e, if_pos e]
    · rw [if_neg e, if_neg e]; exact h2 m
theorem VWs.of {P : Program} : ∀ (c : VC) {Q : VE → St → Prop} {st : St}, VW P c Q st → VWs P c Q st
  | .seq x y, Q, st, h => by
    simp only [VWs]
    rw [VW_seq] at h
    refine VW_mono _ _ _ _ (fun e st' hk => ?_) h
    cases e with
    | normal => exact ⟨st', Wk.refl _, VWs.of y hk⟩
    | exit id => exact hk
    | ret => exact hk
  | .skip, _, _, h => h
  | .ops _, _, _, h => h
  | .par _ _, _, _, h => h
  | .park _ _, _, _, h => h
  | .cond _ _ _, _, _, h => h
  | .block _ _, _, _, h => h
  | .loop _, _, _, h => h
  | .range _ _ _, _, _, h => h
  | .exit _, _, _, h => h
  | .ret, _, _, h => h
theorem leaf_ok {c : VC} {rs : List VR} (n : Nat) {E : List (Nat × AV)} {H : List VObj} {nx : Nat} (chk : AV → List VObj → Bool) {C : AV → List VObj → Nat → Prop} (hchk : ∀ r H nx, chk r H = true → C r H nx)
    (h : envTr E (fun t => vcRun tabS n c (fun x t H nx => match x with
        | .exit _ => false
        | _ => retRun t H nx (fun r => chk r H) rs) t H nx) = true) : VWs Try.prog c (retQ Try.prog rs C) ⟨E, H, nx⟩ := by
  obtain ⟨t1, h1, h2⟩ := envTr_agr E _ h
  refine VWs.of c (VW_mono _ _ _ _ (fun x st' hk => ?_) (vcRun_ok hmix tabS_ok n n (Nat.le_refl _) _ _ _ _ _ _ h2 h1))
  obtain ⟨t3, h3, h4⟩ := hk
  cases x with
  | normal => exact retW_mono (retRun_ok h3 h4) fun r hr => hchk _ _ _ hr
  | ret => exact retW_mono (retRun_ok h3 h4) fun r hr => hchk _ _ _ hr
  | exit id => simp at h4
def vB : Value → Value → Bool
  | .int .i64 a, .int .i64 b => decide (a = b)
  | .int .u32 a, .int .u32 b => decide (a = b)
  | .bool a, .bool b => a == b
  | .string s, .string t => decide (s.data.toList = t.data.toList)
  | _, _ => false
theorem vB_ok {u v : Value} (h : vB u v = true) : u = v := by
  unfold vB at h
  split at h
  · rw [decide_eq_true_eq] at h; rw [h]
  · rw [decide_eq_true_eq] at h; rw [h]
  · rw [beq_iff_eq] at h; rw [h]
  · rename_i s t
    rw [decide_eq_true_eq] at h
    obtain ⟨⟨x⟩⟩ := s
    obtain ⟨⟨y⟩⟩ := t
    simp only at h
    rw [h]
  · cases h
def vsB : List AV → List AV → Bool
  | [], [] => true
  | .val u :: xs, .val v :: ys => vB u v && (AV.val u).one && vsB xs ys
  | _, _ => false
theorem vsB_ok {n : Nat} {H : List VObj} {nx : Nat} : ∀ {xs ys : List AV}, vsB xs ys = true → xs.all AV.one = true ∧ FrzL n H nx xs ys
  | [], [], _ => ⟨rfl, rfl⟩
  | [], _ :: _, h => by simp [vsB] at h
  | x :: xs, [], h => by cases x <;> simp [vsB] at h
  | x :: xs, y :: ys, h => by
    cases x <;> cases y <;> try (simp [vsB] at h; done)
    rename_i u v
    simp only [vsB, Bool.and_eq_true] at h
    obtain ⟨h1, h2⟩ := vsB_ok (n := n) (H := H) (nx := nx) h.2
    have e := vB_ok h.1.1
    subst e
    exact ⟨by rw [List.all_cons, h.1.2, h1]; rfl, _, _, rfl, Frz.pure rfl, h2⟩
theorem vsB_eq : ∀ {xs ys : List AV}, vsB xs ys = true → xs = ys
  | [], [], _ => rfl
  | [], _ :: _, h => by simp [vsB] at h
  | x :: xs, [], h => by cases x <;> simp [vsB] at h
  | x :: xs, y :: ys, h => by
    cases x <;> cases y <;> try (simp [vsB] at h; done)
    rename_i u v
    simp only [vsB, Bool.and_eq_true] at h
    rw [vB_ok h.1.1, vsB_eq h.2]
def cB (H : List VObj) : AV → AV → Bool
  | .val u, .val v => vB u v
  | .ref id s 0 len, .imm 1 ys => (match H[id]? with
    | some ob => ob.s == s && (ob.sz == 1 && (ob.cs.length == len && vsB ob.cs ys))
    | none => false)
  | _, _ => false
theorem cB_ok {H : List VObj} {nx : Nat} {x y : AV} (h : cB H x y = true) : Frz 0 H nx x y := by
  unfold cB at h
  split at h
  · rw [vB_ok h]; exact Frz.pure rfl
  · split at h
    · rename_i ob hob
      simp only [Bool.and_eq_true, beq_iff_eq] at h
      obtain ⟨h1, h2, h3, h4⟩ := h
      obtain ⟨g1, g2⟩ := vsB_ok (n := 0) (H := H) (nx := nx) h4
      exact Frz.ref (Nat.zero_le _) hob h1 h2 g1 (by rw [List.drop_zero, ← h3, List.take_length]; exact g2)
    · cases h
  · cases h
def csB (H : List VObj) : List AV → List AV → Bool
  | [], [] => true
  | x :: xs, y :: ys => cB H x y && csB H xs ys
  | _, _ => false
theorem csB_ok {H : List VObj} {nx : Nat} : ∀ {xs ys : List AV}, csB H xs ys = true → FrzL 0 H nx xs ys
  | [], [], _ => rfl
  | [], _ :: _, h => by simp [csB] at h
  | _ :: _, [], h => by simp [csB] at h
  | x :: xs, y :: ys, h => by
    simp only [csB, Bool.and_eq_true] at h
    exact ⟨_, _, rfl, cB_ok h.1, csB_ok h.2⟩
def twoB (zs : List AV) (w : AV) (r : AV) (H : List VObj) : Bool := match r with
  | .tup [.agg xs, y] => csB H xs zs && cB H y w
  | _ => false
theorem twoB_ok {zs : List AV} {w r : AV} {H : List VObj} {nx : Nat} (h : twoB zs w r H = true) : ∃ y, Frz 0 H nx r y ∧ y = .tup [.agg zs, w] := by
  unfold twoB at h
  split at h
  · simp only [Bool.and_eq_true] at h
    exact ⟨_, Frz.tup ⟨_, _, rfl, Frz.agg (csB_ok h.1), _, _, rfl, cB_ok h.2, rfl⟩, rfl⟩
  · cases h
def pureL (zss : List (List AV)) : Bool := zss.all fun l => l.length == 4 && l.all AV.pure
def codB (zss : List (List AV)) (w : AV) (r : AV) (H : List VObj) : Bool := match r with
  | .tup [.ref id s 0 len, y] => pureL zss && ((match H[id]? with
    | some ob => ob.s == s && (ob.sz == 4 && (len == zss.length && vsB ob.cs zss.flatten))
    | none => false) && cB H y w)
  | _ => false
theorem codB_ok {zss : List (List AV)} {w r : AV} {H : List VObj} {nx : Nat} (h : codB zss w r H = true) : ∃ y, Frz 0 H nx r y ∧ y = .tup [.imm 4 (zss.map .agg), w] := by
  unfold codB at h
  split at h
  · simp only [Bool.and_eq_true] at h
    obtain ⟨h0, h1, h2⟩ := h
    split at h1
    · rename_i ob hob
      simp only [Bool.and_eq_true, beq_iff_eq] at h1
      obtain ⟨a1, a2, a3, a4⟩ := h1
      have hp : ∀ l ∈ zss, l.length = 4 ∧ l.all AV.pure = true := fun l hl => by
        unfold pureL at h0
        rw [List.all_eq_true] at h0
        have := h0 l hl
        simp only [Bool.and_eq_true, beq_iff_eq] at this
        exact this
      exact ⟨_, Frz.tup ⟨_, _, rfl, Frz.refT (n := 0) (yss := zss) (zss := zss) (Nat.zero_le _) hob a1 a2 (vsB_eq a4) (fun l hl => (hp l hl).1) a3 (FrzLL.pure fun l hl => (hp l hl).2), _, _, rfl, cB_ok h2, rfl⟩, rfl⟩
    · cases h1
  · cases h
abbrev exW1 : List Int := [17825857, 403701760, 436207616]
abbrev exW2 : List Int := [28311617, 296747008, 277872640, 412090368, 436207616]
abbrev imX (c : List Int) (d : Int) : AV := .agg [.imm 1 (c.map U32), I d]
abbrev ciX (a b c d : Int) : List AV := [I a, I b, I c, I d]
set_option maxRecDepth 1000000 in
theorem code_ex1 : Contract Try.prog 78 [imX exW1 0] (fun r => r = .tup [.imm 4 ([ciX 1 1 0 65, ciX 24 1 0 0, ciX 26 0 0 0].map .agg), .imm 1 ([true, true, true].map B)]) := by
  have hq := f_scref10_Code
  unfold compF compFp at hq
  refine Contract.of_call (VCall.of_bodyS (pt := false) (pf := false) hmix hq (by decide) ?_)
  exact leaf_ok 200 (codB [ciX 1 1 0 65, ciX 24 1 0 0, ciX 26 0 0 0] (.imm 1 ([true, true, true].map B))) (fun r H nx h => codB_ok h) (by kernel_rfl)
set_option maxRecDepth 1000000 in
theorem code_ex2 : Contract Try.prog 78 [imX exW2 1] (fun r => r = .tup [.imm 4 ([ciX 1 11 0 65, ciX 17 11 0 0, ciX 16 9 0 0, ciX 24 9 0 0, ciX 26 0 0 0].map .agg), .imm 1 ([true, true, true, true, true].map B)]) := by
  have hq := f_scref10_Code
  unfold compF compFp at hq
  refine Contract.of_call (VCall.of_bodyS (pt := false) (pf := false) hmix hq (by decide) ?_)
  exact leaf_ok 200 (codB [ciX 1 11 0 65, ciX 17 11 0 0, ciX 16 9 0 0, ciX 24 9 0 0, ciX 26 0 0 0] (.imm 1 ([true, true, true, true, true].map B))) (fun r H nx h => codB_ok h) (by kernel_rfl)
end Go.Proofs.Ytkbhfokbhkmfgaa
namespace Go.Proofs.Ytkbhfokbhkmfgaa
set_option linter.unusedSimpArgs false
set_option linter.unusedVariables false
set_option maxRecDepth 10000
open Go.V
theorem one_ref' {id s off len : Nat} : (AV.ref id s off len).one = true := rfl
def tailR : Nat → VC → VC
  | n + 1, .seq _ y => tailR n y
  | _, c => c
abbrev stX (m : AV) : AV := .agg [I 0, U32 0, U32 0, U32 0, U32 0, U32 0, U32 0, U32 0, U32 0, U32 0, U32 0, U32 0, U32 0, U32 0, U32 0, U32 0, U32 0, m, I 0, .val (.string ⟨#[]⟩), I 0, I 0]
abbrev stXL (m : AV) : List AV := [I 0, U32 0, U32 0, U32 0, U32 0, U32 0, U32 0, U32 0, U32 0, U32 0, U32 0, U32 0, U32 0, U32 0, U32 0, U32 0, U32 0, m, I 0, .val (.string ⟨#[]⟩), I 0, I 0]
abbrev hpX (c : List Int) (d : Int) (m : AV) : List VObj := [⟨0, 30, 1, [.imm 1 (c.map U32), I d]⟩, ⟨1, 87, 1, stXL m⟩, ⟨2, 87, 1, stXL (.val (.slice none 0 0))⟩]
abbrev enX (l ok : AV) : List (Nat × AV) := [(1, .val (.string ⟨#[]⟩)), (3, I 300), (4, .ptr 0 0 0), (6, .ptr 1 1 0), (8, .ptr 2 2 0), (10, l), (11, ok)]
set_option maxRecDepth 1000000 in
theorem tail_ex1 : envTr (enX (.imm 4 ([ciX 1 1 0 65, ciX 24 1 0 0, ciX 26 0 0 0].map .agg)) (.imm 1 ([true, true, true].map B))) (fun t => vcRun tabS 100 (tailR 2 c_scref10_run) (fun x t H nx => match x with
        | .exit _ => false
        | _ => retRun t H nx (fun r => twoB [I 2, U32 0, U32 65, U32 0, U32 0, U32 0, U32 0, U32 0, U32 0, U32 0, U32 0, U32 0, U32 0, U32 0, U32 0, U32 0, U32 0, .imm 1 [], I 0, .val (.string ⟨#[65]⟩), I 3, I 1] (.imm 1 [I 1, I 1, I 1]) r H) [.cell 8 true 22, .tmp 9]) t (hpX exW1 0 (.val (.slice none 0 0))) 3) = true := by kernel_rfl
theorem run_ex1 : Contract Try.prog 57 [imX exW1 0, .val (.string ⟨#[]⟩), stX (.val (.slice none 0 0)), I 300] (fun r => r = .tup [.agg [I 2, U32 0, U32 65, U32 0, U32 0, U32 0, U32 0, U32 0, U32 0, U32 0, U32 0, U32 0, U32 0, U32 0, U32 0, U32 0, U32 0, .imm 1 [], I 0, .val (.string ⟨#[65]⟩), I 3, I 1], .imm 1 [I 1, I 1, I 1]]) := by
  have hq := f_scref10_run
  unfold compF compFp at hq
  refine Contract.of_call (VCall.of_bodyS (pt := false) (pf := false) hmix hq (by decide) ?_)
  have fin := leaf_ok (rs := [.cell 8 true 22, .tmp 9]) 100 (twoB [I 2, U32 0, U32 65, U32 0, U32 0, U32 0, U32 0, U32 0, U32 0, U32 0, U32 0, U32 0, U32 0, U32 0, U32 0, U32 0, U32 0, .imm 1 [], I 0, .val (.string ⟨#[65]⟩), I 3, I 1] (.imm 1 [I 1, I 1, I 1])) (C := fun r H nx => ∃ y, Frz 0 H nx r y ∧ y = .tup [.agg [I 2, U32 0, U32 65, U32 0, U32 0, U32 0, U32 0, U32 0, U32 0, U32 0, U32 0, U32 0, U32 0, U32 0, U32 0, U32 0, U32 0, .imm 1 [], I 0, .val (.string ⟨#[65]⟩), I 3, I 1], .imm 1 [I 1, I 1, I 1]]) (fun r H nx h => twoB_ok h) tail_ex1
  simp only [tailR, c_scref10_run] at fin
  simp only [go_sem,Nat.reduceEqDiff,Nat.reduceAdd,Nat.reduceMul,↓reduceIte,↓dreduceIte,reduceCtorEq,Nat.reduceLeDiff,Nat.reduceLT,Nat.reduceSub,Int.reduceToNat,Int.reduceLE,Int.reduceLT, c_scref10_run, VWs_seq, VWs_ret, VWs_ops, VWs_cond, one_imm', one_ref']
  refine ⟨_, Wk.refl _, ?_⟩
  simp only [go_sem,Nat.reduceEqDiff,Nat.reduceAdd,Nat.reduceMul,↓reduceIte,↓dreduceIte,reduceCtorEq,Nat.reduceLeDiff,Nat.reduceLT,Nat.reduceSub,Int.reduceToNat,Int.reduceLE,Int.reduceLT, VWs_seq, VWs_ret, VWs_ops, VWs_cond, one_imm', one_ref']
  refine VCall.of_contract code_ex1 (SleL.pure rfl) fun x hx => ?_
  subst hx
  simp only [go_sem,Nat.reduceEqDiff,Nat.reduceAdd,Nat.reduceMul,↓reduceIte,↓dreduceIte,reduceCtorEq,Nat.reduceLeDiff,Nat.reduceLT,Nat.reduceSub,Int.reduceToNat,Int.reduceLE,Int.reduceLT, VWs_seq, VWs_ret, VWs_ops, VWs_cond]
  refine ⟨_, ?_, fin⟩
  exact Wk.mk (by simp [get_cons]) ⟨[], rfl⟩ (Nat.le_refl _)
set_option maxRecDepth 1000000 in
theorem tail_ex2 : envTr (enX (.imm 4 ([ciX 1 11 0 65, ciX 17 11 0 0, ciX 16 9 0 0, ciX 24 9 0 0, ciX 26 0 0 0].map .agg)) (.imm 1 ([true, true, true, true, true].map B))) (fun t => vcRun tabS 100 (tailR 2 c_scref10_run) (fun x t H nx => match x with
        | .exit _ => false
        | _ => retRun t H nx (fun r => twoB [I 4, U32 0, U32 0, U32 0, U32 0, U32 0, U32 0, U32 0, U32 0, U32 0, U32 65, U32 0, U32 65, U32 0, U32 0, U32 0, U32 0, .imm 1 [U32 65], I 0, .val (.string ⟨#[65]⟩), I 5, I 1] (.imm 1 [I 1, I 1, I 1, I 1, I 1]) r H) [.cell 8 true 22, .tmp 9]) t (hpX exW2 1 (.imm 1 [U32 0])) 3) = true := by kernel_rfl
theorem run_ex2 : Contract Try.prog 57 [imX exW2 1, .val (.string ⟨#[]⟩), stX (.imm 1 [U32 0]), I 300] (fun r => r = .tup [.agg [I 4, U32 0, U32 0, U32 0, U32 0, U32 0, U32 0, U32 0, U32 0, U32 0, U32 65, U32 0, U32 65, U32 0, U32 0, U32 0, U32 0, .imm 1 [U32 65], I 0, .val (.string ⟨#[65]⟩), I 5, I 1], .imm 1 [I 1, I 1, I 1, I 1, I 1]]) := by
  have hq := f_scref10_run
  unfold compF compFp at hq
  refine Contract.of_call (VCall.of_bodyS (pt := false) (pf := false) hmix hq (by decide) ?_)
  have fin := leaf_ok (rs := [.cell 8 true 22, .tmp 9]) 100 (twoB [I 4, U32 0, U32 0, U32 0, U32 0, U32 0, U32 0, U32 0, U32 0, U32 0, U32 65, U32 0, U32 65, U32 0, U32 0, U32 0, U32 0, .imm 1 [U32 65], I 0, .val (.string ⟨#[65]⟩), I 5, I 1] (.imm 1 [I 1, I 1, I 1, I 1, I 1])) (C := fun r H nx => ∃ y, Frz 0 H nx r y ∧ y = .tup [.agg [I 4, U32 0, U32 0, U32 0, U32 0, U32 0, U32 0, U32 0, U32 0, U32 0, U32 65, U32 0, U32 65, U32 0, U32 0, U32 0, U32 0, .imm 1 [U32 65], I 0, .val (.string ⟨#[65]⟩), I 5, I 1], .imm 1 [I 1, I 1, I 1, I 1, I 1]]) (fun r H nx h => twoB_ok h) tail_ex2
  simp only [tailR, c_scref10_run] at fin
  simp only [go_sem,Nat.reduceEqDiff,Nat.reduceAdd,Nat.reduceMul,↓reduceIte,↓dreduceIte,reduceCtorEq,Nat.reduceLeDiff,Nat.reduceLT,Nat.reduceSub,Int.reduceToNat,Int.reduceLE,Int.reduceLT, c_scref10_run, VWs_seq, VWs_ret, VWs_ops, VWs_cond, one_imm', one_ref']
  refine ⟨_, Wk.refl _, ?_⟩
  simp only [go_sem,Nat.reduceEqDiff,Nat.reduceAdd,Nat.reduceMul,↓reduceIte,↓dreduceIte,reduceCtorEq,Nat.reduceLeDiff,Nat.reduceLT,Nat.reduceSub,Int.reduceToNat,Int.reduceLE,Int.reduceLT, VWs_seq, VWs_ret, VWs_ops, VWs_cond, one_imm', one_ref']
  refine VCall.of_contract code_ex2 (SleL.pure rfl) fun x hx => ?_
  subst hx
  simp only [go_sem,Nat.reduceEqDiff,Nat.reduceAdd,Nat.reduceMul,↓reduceIte,↓dreduceIte,reduceCtorEq,Nat.reduceLeDiff,Nat.reduceLT,Nat.reduceSub,Int.reduceToNat,Int.reduceLE,Int.reduceLT, VWs_seq, VWs_ret, VWs_ops, VWs_cond]
  refine ⟨_, ?_, fin⟩
  exact Wk.mk (by simp [get_cons]) ⟨[], rfl⟩ (Nat.le_refl _)
end Go.Proofs.Ytkbhfokbhkmfgaa
namespace Go.Proofs.Ytkbhfokbhkmfgaa
set_option linter.unusedSimpArgs false
set_option linter.unusedVariables false
set_option maxRecDepth 10000
open Go.V
def oneB' (zs : List AV) (r : AV) (H : List VObj) : Bool := match r with
  | .agg xs => csB H xs zs
  | _ => false
theorem oneB'_ok {zs : List AV} {r : AV} {H : List VObj} {nx : Nat} (h : oneB' zs r H = true) : ∃ y, Frz 0 H nx r y ∧ y = .agg zs := by
  unfold oneB' at h
  split at h
  · exact ⟨_, Frz.agg (csB_ok h), rfl⟩
  · cases h
theorem start_ex1 : Contract Try.prog 35 [imX exW1 0] (fun r => r = stX (.val (.slice none 0 0))) := by
  refine Contract.of_call (VCall.of_body hmix f_scref09_Start (by decide) ?_)
  simp only [go_sem, Nat.reduceEqDiff, Nat.reduceAdd, ↓reduceIte, Int.reduceLT, c_scref09_Start, Int.reduceLT]
  exact ⟨_, Frz.pure rfl, rfl⟩
theorem go_ex1 : Contract Try.prog 34 [imX exW1 0, .val (.string ⟨#[]⟩), stX (.val (.slice none 0 0)), I 300] (fun r => r = .agg [I 2, U32 0, U32 65, U32 0, U32 0, U32 0, U32 0, U32 0, U32 0, U32 0, U32 0, U32 0, U32 0, U32 0, U32 0, U32 0, U32 0, .imm 1 [], I 0, .val (.string ⟨#[65]⟩), I 3, I 1]) := by
  refine Contract.of_call (VCall.of_body hmix f_scref10_Go (by decide) ?_)
  simp only [go_sem, Nat.reduceEqDiff, Nat.reduceAdd, ↓reduceIte, ↓dreduceIte, reduceCtorEq, c_scref10_Go]
  refine VCall.of_contract run_ex1 (SleL.pure rfl) fun x hx => ?_
  subst hx
  simp only [go_sem, Nat.reduceEqDiff, Nat.reduceAdd, ↓reduceIte, Nat.reduceLT]
  exact ⟨_, Frz.pure rfl, rfl⟩
theorem Run_ex1 : Contract Try.prog 15 [imX exW1 0, .val (.string ⟨#[]⟩), I 300] (fun r => r = .agg [I 1, .val (.string ⟨#[65]⟩), I 3]) := by
  refine Contract.of_call (VCall.of_body hmix f_scref10_Run (by decide) ?_)
  simp only [go_sem, Nat.reduceEqDiff, Nat.reduceAdd, ↓reduceIte, ↓dreduceIte, reduceCtorEq, Nat.reduceLT, c_scref10_Run]
  repeat' (with_reducible apply And.intro)
  all_goals
    refine VCall.of_contract start_ex1 (SleL.pure rfl) fun x hx => ?_
    subst hx
    refine ⟨Stab.refl _ _ _, ?_⟩
    simp only [go_sem, Nat.reduceEqDiff, Nat.reduceAdd, ↓reduceIte, ↓dreduceIte, Nat.reduceLT, List.cons_append, List.nil_append]
  repeat' (with_reducible apply And.intro)
  all_goals
    refine VCall.of_contract go_ex1 (SleL.pure rfl) fun x hx => ?_
    subst hx
    refine ⟨Stab.refl _ _ _, ?_⟩
    simp only [go_sem, Nat.reduceEqDiff, Nat.reduceAdd, ↓reduceIte, Nat.reduceLeDiff, Int.reduceEq]
    exact ⟨_, Frz.pure rfl, rfl⟩
theorem start_ex2 : Contract Try.prog 35 [imX exW2 1] (fun r => r = stX (.imm 1 [U32 0])) := by
  have hq := f_scref09_Start
  unfold compF compFp at hq
  refine Contract.of_call (VCall.of_bodyS (pt := false) (pf := false) hmix hq (by decide) ?_)
  exact leaf_ok 100 (oneB' (stXL (.imm 1 [U32 0]))) (fun r H nx h => oneB'_ok h) (by kernel_rfl)
theorem go_ex2 : Contract Try.prog 34 [imX exW2 1, .val (.string ⟨#[]⟩), stX (.imm 1 [U32 0]), I 300] (fun r => r = .agg [I 4, U32 0, U32 0, U32 0, U32 0, U32 0, U32 0, U32 0, U32 0, U32 0, U32 65, U32 0, U32 65, U32 0, U32 0, U32 0, U32 0, .imm 1 [U32 65], I 0, .val (.string ⟨#[65]⟩), I 5, I 1]) := by
  refine Contract.of_call (VCall.of_body hmix f_scref10_Go (by decide) ?_)
  simp only [go_sem, Nat.reduceEqDiff, Nat.reduceAdd, ↓reduceIte, ↓dreduceIte, reduceCtorEq, c_scref10_Go]
  refine VCall.of_contract run_ex2 (SleL.pure rfl) fun x hx => ?_
  subst hx
  simp only [go_sem, Nat.reduceEqDiff, Nat.reduceAdd, ↓reduceIte, Nat.reduceLT]
  exact ⟨_, Frz.pure rfl, rfl⟩
theorem Run_ex2 : Contract Try.prog 15 [imX exW2 1, .val (.string ⟨#[]⟩), I 300] (fun r => r = .agg [I 1, .val (.string ⟨#[65]⟩), I 5]) := by
  refine Contract.of_call (VCall.of_body hmix f_scref10_Run (by decide) ?_)
  simp only [go_sem, Nat.reduceEqDiff, Nat.reduceAdd, ↓reduceIte, ↓dreduceIte, reduceCtorEq, Nat.reduceLT, c_scref10_Run]
  repeat' (with_reducible apply And.intro)
  all_goals
    refine VCall.of_contract start_ex2 (SleL.pure rfl) fun x hx => ?_
    subst hx
    refine ⟨Stab.refl _ _ _, ?_⟩
    simp only [go_sem, Nat.reduceEqDiff, Nat.reduceAdd, ↓reduceIte, ↓dreduceIte, Nat.reduceLT, List.cons_append, List.nil_append]
  repeat' (with_reducible apply And.intro)
  all_goals
    refine VCall.of_contract go_ex2 (SleL.pure rfl) fun x hx => ?_
    subst hx
    refine ⟨Stab.refl _ _ _, ?_⟩
    simp only [go_sem, Nat.reduceEqDiff, Nat.reduceAdd, ↓reduceIte, Nat.reduceLeDiff, Int.reduceEq]
    exact ⟨_, Frz.pure rfl, rfl⟩
end Go.Proofs.Ytkbhfokbhkmfgaa
namespace Go.Proofs.Ytkbhfokbhkmfgaa
set_option linter.unusedSimpArgs false
set_option linter.unusedVariables false
set_option maxRecDepth 10000
open Go.V
def exC : BF := ⟨1, [⟨[⟨1, 0, 0, 0, 0, 0, 0, 65⟩, ⟨9, 0, 0, 0, 0, 0, 0, 0⟩], 3, 0, 0, 0⟩]⟩
def exCb : BP := ⟨0, [exC]⟩
def exCl : LD := ⟨[[false]], [[false]]⟩
abbrev exCr : Nat → List Bool := fun _ => [false]
theorem exC_fine : Fine exC := one_fine (number := 0) (words := 0) (by decide) (by decide) (by decide)
theorem exC_least : Least exC exCl := by
  refine ⟨(checkB_iff exC_fine exCl).1 (by decide), fun I O h b hb v hv => ?_⟩
  have hb' : b = 0 := by have : exC.n = 1 := rfl; omega
  have hv' : v = 0 := by have : exC.r = 1 := rfl; omega
  subst hb'; subst hv'
  exact ⟨fun e => absurd e (by decide), fun e => absurd e (by decide)⟩
theorem exC_few : FewP exCb := ⟨by decide, by decide, by decide, by decide, by decide⟩
theorem exC_of {p : Int} (hp : p = 1 ∨ p = -1) : OfH exCb [[p]] exCr := by
  have hA : AllocP exC exCl [p] 8 := (allocB_iff exC_fine exCl [p] 8).1 (by rcases hp with rfl | rfl <;> decide)
  refine ⟨⟨exC_few, ⟨rfl, fun i hi => ?_⟩, by rcases hp with rfl | rfl <;> decide⟩, fun f hf k hk t ht => ?_, fun i hi => ?_, fun pl h => ?_⟩
  · have : i = 0 := by have : exCb.funcs.length = 1 := rfl; omega
    subst this
    exact ⟨exCl, exC_least, hA⟩
  · obtain rfl := List.mem_singleton.1 hf
    obtain rfl := List.mem_singleton.1 hk
    rcases List.mem_cons.1 ht with rfl | ht
    · exact ⟨by decide, by decide⟩
    · obtain rfl := List.mem_singleton.1 ht
      exact ⟨by decide, by decide⟩
  · have : i = 0 := by have : exCb.funcs.length = 1 := rfl; omega
    subst this
    exact ⟨exCl, exC_least, rfl⟩
  · rw [List.mem_singleton.1 h]; simp
theorem exC_one : ofA exCb [[1]] exCr = .tup [.agg [.imm 1 ([17825857, 403701760, 436207616].map U32), I 0], I 0] := by
  have e1 : codeO exCb [[1]] exCr = [17825857, 403701760, 436207616] := by decide
  have e2 : dataO exCb [[1]] = 0 := by decide
  unfold ofA imgC; rw [e1, e2]
theorem exC_two : ofA exCb [[-1]] exCr = .tup [.agg [.imm 1 ([28311617, 296747008, 277872640, 412090368, 436207616].map U32), I 1], I 0] := by
  have e1 : codeO exCb [[-1]] exCr = [28311617, 296747008, 277872640, 412090368, 436207616] := by decide
  have e2 : dataO exCb [[-1]] = 1 := by decide
  unfold ofA imgC; rw [e1, e2]
theorem plain_c : Contract Try.prog 28 [] (fun r => r = bpA exCb) := by
  refine Contract.of_call (VCall.of_body hmix f_sclaw29_plain (by simp) ?_)
  simp only [go_sem, Nat.reduceEqDiff, Nat.reduceAdd, Nat.reduceMul, ↓reduceIte, reduceCtorEq, Nat.reduceLeDiff, c_sclaw29_plain]
  have hI : Frz 0 [⟨0, 24, 1, [I 0, .ref 3 3 0 1]⟩, ⟨1, 47, 8, ((exC.bks.getD 0 default).ins.map tacL).flatten⟩, ⟨2, 49, 5, [.ref 1 1 0 2, I 3, I 0, I 0, I 0]⟩, ⟨3, 52, 2, [I 1, .ref 2 2 0 1]⟩] 4 (.ref 1 1 0 2) (inA (exC.bks.getD 0 default).ins) := frz_ins _ rfl rfl rfl rfl rfl
  have hB := frz_bks (H := [⟨0, 24, 1, [I 0, .ref 3 3 0 1]⟩, ⟨1, 47, 8, ((exC.bks.getD 0 default).ins.map tacL).flatten⟩, ⟨2, 49, 5, [.ref 1 1 0 2, I 3, I 0, I 0, I 0]⟩, ⟨3, 52, 2, [I 1, .ref 2 2 0 1]⟩]) (nx := 4) (id := 2) (s := 2) (len := 1) exC.bks [.ref 1 1 0 2] rfl (fun i hi => by
    have : i = 0 := by have : exC.bks.length = 1 := rfl; omega
    subst this
    exact hI) rfl rfl rfl rfl rfl
  have hF := Frz.refT (n := 0) (H := [⟨0, 24, 1, [I 0, .ref 3 3 0 1]⟩, ⟨1, 47, 8, ((exC.bks.getD 0 default).ins.map tacL).flatten⟩, ⟨2, 49, 5, [.ref 1 1 0 2, I 3, I 0, I 0, I 0]⟩, ⟨3, 52, 2, [I 1, .ref 2 2 0 1]⟩]) (nx := 4) (id := 3) (s := 3) (len := 1) (z := 2) (yss := [[I 1, .ref 2 2 0 1]]) (zss := [bfL exC]) (Nat.zero_le _) rfl rfl rfl rfl (by simp) rfl ⟨_, _, rfl, ⟨_, _, rfl, Frz.pure rfl, _, _, rfl, hB, rfl⟩, rfl⟩
  exact ⟨_, Frz.agg ⟨_, _, rfl, Frz.pure rfl, _, _, rfl, hF, rfl⟩, rfl⟩
theorem ends_c (a b : Int) (s t : ByteArray) (m n : Int) : Contract Try.prog 14 [.agg [I a, .val (.string s), I m], .agg [I b, .val (.string t), I n]] (fun r => r = B (decide (a = b) && (s.toList == t.toList))) := by
  refine Contract.of_call (VCall.of_body hmix f_scref10_Ends (by simp) ?_)
  by_cases h : a = b
  · simp only [go_sem, Nat.reduceEqDiff, Nat.reduceAdd, ↓reduceIte, reduceCtorEq, Nat.reduceLeDiff, c_scref10_Ends, eq_true h]
    exact ⟨_, Frz.pure rfl, by simp []⟩
  · simp only [go_sem, Nat.reduceEqDiff, Nat.reduceAdd, ↓reduceIte, reduceCtorEq, Nat.reduceLeDiff, c_scref10_Ends, eq_false h]
    exact ⟨_, Frz.pure rfl, by simp []⟩
theorem alive_c : Contract Try.prog 9 [] (fun r => r = B true) := by
  have hq := f_sclaw29_alive
  unfold compF compFp at hq
  refine Contract.of_call (VCall.of_bodyS (pt := false) (pf := false) hmix hq (by simp) ?_)
  simp only [go_sem, c_sclaw29_alive, VWs_seq]
  refine ⟨_, Wk.refl _, ?_⟩
  simp only [go_sem, Nat.reduceEqDiff, Nat.reduceAdd, ↓reduceIte, Nat.reduceLeDiff, VWs_seq]
  refine ⟨_, Wk.refl _, ?_⟩
  simp only [go_sem, VWs_seq]
  refine VCall.of_contract plain_c (SleL.pure rfl) fun x hx => ?_
  subst hx
  simp only [go_sem, Nat.reduceEqDiff, Nat.reduceAdd, ↓reduceIte, ↓dreduceIte]
  refine VCall.of_contractN (of29N_c (exC_of (.inl rfl))) ?_ fun x hx => ?_
  · exact ⟨_, _, rfl, Frz.pure rfl, _, _, rfl, Frz.refT (n := 0) (z := 1) (yss := [[.ref 1 1 0 1]]) (zss := [[ints [1]]]) (Nat.zero_le _) rfl rfl rfl rfl (by simp) rfl ⟨_, _, rfl, ⟨_, _, rfl, frz_ints (l := [1]) (Nat.zero_le _) rfl rfl, rfl⟩, rfl⟩, rfl⟩
  rw [exC_one] at hx
  subst hx
  simp only [go_sem, Nat.reduceEqDiff, Nat.reduceAdd, ↓reduceIte, Nat.reduceLT]
  refine ⟨_, Wk.refl _, ?_⟩
  simp only [go_sem, VWs_seq]
  refine VCall.of_contract plain_c (SleL.pure rfl) fun x hx => ?_
  subst hx
  simp only [go_sem, Nat.reduceEqDiff, Nat.reduceAdd, ↓reduceIte, ↓dreduceIte]
  refine VCall.of_contractN (of29N_c (exC_of (.inr rfl))) ?_ fun x hx => ?_
  · exact ⟨_, _, rfl, Frz.pure rfl, _, _, rfl, Frz.refT (n := 0) (z := 1) (yss := [[.ref 4 4 0 1]]) (zss := [[ints [-1]]]) (Nat.zero_le _) rfl rfl rfl rfl (by simp) rfl ⟨_, _, rfl, ⟨_, _, rfl, frz_ints (l := [-1]) (Nat.zero_le _) rfl rfl, rfl⟩, rfl⟩, rfl⟩
  rw [exC_two] at hx
  subst hx
  simp only [go_sem, Nat.reduceEqDiff, Nat.reduceAdd, ↓reduceIte, Nat.reduceLT]
  refine ⟨_, Wk.refl _, ?_⟩
  simp only [go_sem, Nat.reduceEqDiff, Nat.reduceAdd, ↓reduceIte, ↓dreduceIte, Nat.reduceLT, VWs_seq, Int.reduceBEq]
  refine ECall.of (Run_ex1) (SleL.pure rfl) ⟨_, fun _ => Iff.rfl⟩ fun x hx => ?_
  subst hx
  simp only [go_sem, Nat.reduceEqDiff, Nat.reduceAdd, ↓reduceIte, ↓dreduceIte, Nat.reduceLT]
  refine ECall.of (ends_c 1 1 ⟨#[65]⟩ ⟨#[65]⟩ 3 0) (SleL.pure rfl) ⟨_, fun _ => Iff.rfl⟩ fun x hx => ?_
  subst hx
  simp only [go_sem, Nat.reduceEqDiff, Nat.reduceAdd, ↓reduceIte, ↓dreduceIte, Nat.reduceLT, beq_self_eq_true, decide_true, Bool.and_self]
  refine ECall.of (Run_ex2) (SleL.pure rfl) ⟨_, fun _ => Iff.rfl⟩ fun x hx => ?_
  subst hx
  simp only [go_sem, Nat.reduceEqDiff, Nat.reduceAdd, ↓reduceIte, ↓dreduceIte, Nat.reduceLT, beq_self_eq_true, decide_true, Bool.and_self]
  refine ECall.of (ends_c 1 1 ⟨#[65]⟩ ⟨#[65]⟩ 5 0) (SleL.pure rfl) ⟨_, fun _ => Iff.rfl⟩ fun x hx => ?_
  subst hx
  simp only [go_sem, Nat.reduceEqDiff, ↓reduceIte, beq_self_eq_true, decide_true, Bool.and_self]
  refine ⟨_, Wk.refl _, ?_⟩
  simp only [go_sem, ↓reduceIte, VWs_ret]
  exact ⟨_, Frz.pure rfl, rfl⟩
abbrev bpSh : Sh := .agg [.int .i64, .sl 2 32 bfSh]
theorem bp_of {x : AV} (h : Sh.fit bpSh x) : ∃ b : BP, x = bpA b ∧ Int64 b.words ∧ b.funcs.length ≤ 140737488355328 ∧ ∀ f ∈ b.funcs, BfOk f := by
  simp only [bpSh, Sh.fit.eq_5, Sh.fitL] at h
  obtain ⟨ys, rfl, a, _, rfl, ha, e, _, rfl, he, rfl⟩ := h
  obtain ⟨r, rfl, k1⟩ := fit_int ha
  simp only [Sh.fit.eq_4] at he
  obtain ⟨xs, rfl, _, h1, h2⟩ := he
  obtain ⟨l, rfl, h3⟩ := maps_of (f := bfA) (p := BfOk) (fun y hy => bf_of hy) xs h2
  exact ⟨⟨r, l⟩, rfl, k1, by simp [reachBytes] at h1 ⊢; omega, h3⟩
abbrev alSh29 : Sh := .agg [.sl 1 8 (.int .i64)]
abbrev alsSh : Sh := .sl 1 24 alSh29
theorem al_of {x : AV} (h : Sh.fit alSh29 x) : ∃ pl : List Int, x = alA pl ∧ pl.length ≤ 140737488355328 := by
  simp only [alSh29, Sh.fit.eq_5, Sh.fitL] at h
  obtain ⟨ys, rfl, a, _, rfl, ha, rfl⟩ := h
  obtain ⟨pl, rfl, g5, g6⟩ := fit_ints ha
  exact ⟨pl, rfl, by omega⟩
theorem als_of {x : AV} (h : Sh.fit alsSh x) : ∃ ls : List (List Int), x = alsA ls ∧ ls.length ≤ 140737488355328 ∧ ∀ pl ∈ ls, pl.length ≤ 140737488355328 := by
  simp only [alsSh, Sh.fit.eq_4] at h
  obtain ⟨xs, rfl, _, h1, h2⟩ := h
  obtain ⟨l, rfl, h3⟩ := maps_of (f := alA) (p := fun pl => pl.length ≤ 140737488355328) (fun y hy => al_of hy) xs h2
  exact ⟨l, rfl, by simp [reachBytes] at h1 ⊢; omega, h3⟩
theorem fair_of {b : BP} {ls : List (List Int)} (h : FairP b ls) (hf : ∀ f ∈ b.funcs, BfOk f) (hp : ∀ pl ∈ ls, pl.length ≤ 140737488355328) : ∃ rw, OfH b ls rw := by
  have hex : ∀ i, ∃ row : List Bool, i < b.funcs.length → ∃ L, Least (fO b i) L ∧ row = L.inn.getD 0 default := fun i => by
    by_cases hi : i < b.funcs.length
    · obtain ⟨L, hL, _⟩ := h.hold.al i hi
      exact ⟨_, fun _ => ⟨L, hL, rfl⟩⟩
    · exact ⟨[], fun h => absurd h hi⟩
  obtain ⟨rw, hrw⟩ := Classical.axiomOfChoice hex
  exact ⟨rw, h, fun f hf' k hk t ht => ((hf f hf').bk k hk).ins t ht |>.n, fun i hi => hrw i hi, hp⟩
end Go.Proofs.Ytkbhfokbhkmfgaa
namespace Go.Proofs.Ytkbhfokbhkmfgaa
set_option linter.unusedSimpArgs false
set_option linter.unusedVariables false
set_option maxRecDepth 10000
open Go.V Go.ChangeShapes Go.WideShapes Go.ChangeAt Go.RowKit
set_option maxHeartbeats 4000000 in
theorem chooselive_c (b : BP) (ls : List (List Int)) (hl : b.funcs.length ≤ 140737488355328) (hf : ∀ f ∈ b.funcs, BfOk f) (hls : ls.length ≤ 140737488355328) (hpl : ∀ pl ∈ ls, pl.length ≤ 140737488355328) : Contract Try.prog 7 [bpA b, alsA ls] (fun r => r = B true) := by
  refine Contract.of_call (VCall.of_body hmix f_sclaw29_ChooseLive (by simp) ?_)
  simp only [go_sem, Nat.reduceAdd, ↓reduceIte, ↓dreduceIte, c_sclaw29_ChooseLive]
  refine VCall.of_contract alive_c (SleL.pure rfl) fun x hx => ?_
  subst hx
  simp only [go_sem, Nat.reduceEqDiff, Nat.reduceAdd, ↓reduceIte, ↓dreduceIte, reduceCtorEq]
  refine VCall.of_contract (fair_c b ls hl hf hls hpl) (SleL.pure rfl) fun x hx => ?_
  obtain ⟨v, rfl, hv⟩ := hx
  cases v
  · simp only [go_sem, ↓reduceIte]
    exact ⟨_, Frz.pure rfl, rfl⟩
  have hF := hv rfl
  have h20 := hF.few.l
  have hll := hF.hold.len
  simp only [go_sem, ↓reduceIte]
  refine VW_loop (fun q : FQ => ⟨[(1, alsA ls), (2, .ptr 0 0 0), (5, I q.k)], [⟨0, 24, 1, [I b.words, .imm 2 (b.funcs.map bfA)]⟩], q.nx⟩) (fun q => q.k ≤ b.funcs.length) (fun q => b.funcs.length - q.k) ⟨0, 1⟩ (Wk.mk (by simp [get_cons]) ⟨[], rfl⟩ (Nat.le_refl _)) (Nat.zero_le _) ?_
  rintro ⟨f, nx⟩ hfl
  simp only at hfl
  by_cases hlt : f < b.funcs.length
  · obtain ⟨hfi, hr, ho⟩ := hF.few.fine hlt
    obtain ⟨L, hL, hA⟩ := hF.hold.al f hlt
    have hok : LOK L := hL.cl.sz.ok hfi
    have hsz := hL.cl.sz
    have hpp := hpl _ (mem_getD (show f < ls.length by omega))
    have hrg : (b.funcs.getD f default).regs = ((b.funcs.getD f default).r : Int) := by have := hfi.r0; unfold BF.r; omega
    generalize hg : b.funcs.getD f default = g at *
    generalize hpe : ls.getD f default = pl at *
    have hb60 := hfi.b1
    simp only [go_sem, Nat.reduceEqDiff, Nat.reduceAdd, ↓reduceIte, ↓dreduceIte, List.length_map, eq_true (show (f : Int) < b.funcs.length by omega), hg]
    repeat ((with_reducible refine And.intro ?_ ?_); · first | omega | (simp; omega))
    refine VCall.of_contract (live_of_c g hfi (by omega) L hL) (SleL.pure rfl) fun x hx => ?_
    subst hx
    simp only [go_sem, Nat.reduceEqDiff, Nat.reduceAdd, ↓reduceIte, ↓dreduceIte, Nat.reduceLT, List.length_map, hg]
    refine ECall.of (rof_c g hfi L hL) (SleL.pure rfl) ⟨_, fun _ => Iff.rfl⟩ fun x hx => ?_
    subst hx
    simp only [go_sem, Nat.reduceEqDiff, ↓reduceIte, List.length_map, hg]
    refine ECall.of (rSame_c L L hok) (SleL.pure rfl) ⟨_, fun _ => Iff.rfl⟩ fun x hx => ?_
    rw [sameB_self] at hx
    subst hx
    simp only [go_sem, ↓reduceIte, List.length_map, hg]
    refine VW_loop (fun i : Nat => ⟨[(1, alsA ls), (2, .ptr 0 0 0), (5, I f), (6, .ptr 1 nx 0), (7, .ptr 2 (nx + 1) 0), (8, I i)], [⟨0, 24, 1, [I b.words, .imm 2 (b.funcs.map bfA)]⟩, ⟨nx, 52, 1, bfL g⟩, ⟨nx + 1, 63, 1, [rowsA L.inn, rowsA L.out]⟩], nx + 2⟩) (fun i => i ≤ g.bks.length) (fun i => g.bks.length - i) 0 (Wk.mk (by simp [get_cons]) ⟨[], rfl⟩ (Nat.le_refl _)) (Nat.zero_le _) ?_
    intro i hi
    by_cases hil : i < g.bks.length
    · have hin : i < g.n := hil
      have hlo : (L.out.getD i default).length = g.r := hsz.ol hin
      have hil2 := hfi.len _ (BF.mem hin)
      simp only [go_sem, Nat.reduceEqDiff, Nat.reduceAdd, ↓reduceIte, ↓dreduceIte, List.length_map, eq_true (show (i : Int) < g.bks.length by omega)]
      repeat ((with_reducible refine And.intro ?_ ?_); · first | omega | (simp; omega))
      refine VCall.of_contract (rbehind_c g L i hfi hin (by rw [hsz.o]; exact hin) hlo) (SleL.pure rfl) fun x hx => ?_
      subst hx
      have hbl := behindL_len (g.bk i) (L.out.getD i default)
      have hca : ∀ k < (g.bk i).ins.length, ((g.bk i).ins.getD k default).op = 10 → ∀ v < g.r, gB ((behindL (g.bk i) (L.out.getD i default)).getD k default) v = true → gP pl v < 0 := fun k hk hop v hv hv2 => by
        have h1 := (gB_behind hfi hin hlo hk hv).2
        rw [h1] at hv2
        exact hA.ca i hin k hk hop v hv hv2
      have hrl : ∀ k < (g.bk i).ins.length, ((behindL (g.bk i) (L.out.getD i default)).getD k default).length = g.r := fun k hk => behindL_lens hfi hin hlo hk
      have hil3 : (g.bk i).ins.length ≤ 1000 := hil2
      have hbk : g.bks.getD i default = g.bk i := rfl
      simp only [go_sem, ↓reduceIte, List.length_map]
      generalize behindL (g.bk i) (L.out.getD i default) = rs at *
      generalize g.bk i = bk at *
      refine VW_loop (fun k : Nat => ⟨[(1, alsA ls), (2, .ptr 0 0 0), (5, I f), (6, .ptr 1 nx 0), (7, .ptr 2 (nx + 1) 0), (8, I i), (9, rowsA rs), (10, I k)], [⟨0, 24, 1, [I b.words, .imm 2 (b.funcs.map bfA)]⟩, ⟨nx, 52, 1, bfL g⟩, ⟨nx + 1, 63, 1, [rowsA L.inn, rowsA L.out]⟩], nx + 2⟩) (fun k => k ≤ bk.ins.length) (fun k => bk.ins.length - k) 0 (Wk.mk (by simp [get_cons]) ⟨[], rfl⟩ (Nat.le_refl _)) (Nat.zero_le _) ?_
      intro k hk
      by_cases hkl : k < bk.ins.length
      · by_cases hop : (bk.ins.getD k default).op = 10
        · simp only [go_sem, Nat.reduceEqDiff, Nat.reduceAdd, ↓reduceIte, Nat.reduceLeDiff, List.length_map, hbk, hop, eq_true (show (k : Int) < bk.ins.length by omega), bne_self_eq_false]
          repeat ((with_reducible refine And.intro ?_ ?_); · first | omega | (simp; omega))
          refine VW_loop (fun v : Nat => ⟨[(1, alsA ls), (2, .ptr 0 0 0), (5, I f), (6, .ptr 1 nx 0), (7, .ptr 2 (nx + 1) 0), (8, I i), (9, rowsA rs), (10, I k), (11, I v)], [⟨0, 24, 1, [I b.words, .imm 2 (b.funcs.map bfA)]⟩, ⟨nx, 52, 1, bfL g⟩, ⟨nx + 1, 63, 1, [rowsA L.inn, rowsA L.out]⟩], nx + 2⟩) (fun v => v ≤ g.r) (fun v => g.r - v) 0 (Wk.mk (by simp [get_cons]) ⟨[], rfl⟩ (Nat.le_refl _)) (Nat.zero_le _) ?_
          intro v hv
          by_cases hvl : v < g.r
          · have hrl' := hrl k hkl
            have hpl' := hA.len
            by_cases hgb : gB (rs.getD k default) v = true
            · have hneg := hca k hkl hop v hvl hgb
              have hp0 : ¬ 0 < pl.getD v default := by have : gP pl v = pl.getD v default := rfl; omega
              simp only [go_sem, Nat.reduceEqDiff, Nat.reduceAdd, ↓reduceIte, Nat.reduceLeDiff, hrg, hpe, gB_getD, hgb, eq_true (show (v : Int) < g.r by omega), eq_false hp0]
              repeat ((with_reducible refine And.intro ?_ ?_); · first | omega | (simp; omega))
              rw [i64_in (n := (v : Int) + 1) (by omega) (by omega)]
              exact ⟨v + 1, by omega, by omega, Wk.mk (by simp [get_cons]) ⟨[], rfl⟩ (Nat.le_refl _)⟩
            · have hgb' : gB (rs.getD k default) v = false := by simpa using hgb
              simp only [go_sem, Nat.reduceEqDiff, Nat.reduceAdd, ↓reduceIte, Nat.reduceLeDiff, hrg, gB_getD, hgb', eq_true (show (v : Int) < g.r by omega)]
              repeat ((with_reducible refine And.intro ?_ ?_); · first | omega | (simp; omega))
              rw [i64_in (n := (v : Int) + 1) (by omega) (by omega)]
              exact ⟨v + 1, by omega, by omega, Wk.mk (by simp [get_cons]) ⟨[], rfl⟩ (Nat.le_refl _)⟩
          · obtain rfl : v = g.r := by omega
            simp only [go_sem, Nat.reduceEqDiff, Nat.reduceAdd, ↓reduceIte, Nat.reduceLeDiff, hrg, eq_false (show ¬ ((g.r : Nat) : Int) < (g.r : Int) by omega)]
            rw [i64_in (n := (k : Int) + 1) (by omega) (by omega)]
            exact ⟨k + 1, by omega, by omega, Wk.mk (by simp [get_cons]) ⟨[], rfl⟩ (Nat.le_refl _)⟩
        · simp only [go_sem, Nat.reduceEqDiff, Nat.reduceAdd, ↓reduceIte, Nat.reduceLeDiff, List.length_map, hbk, eq_true (show (k : Int) < bk.ins.length by omega), eq_false hop, bne_iff_ne, ne_eq, not_false_eq_true]
          repeat ((with_reducible refine And.intro ?_ ?_); · first | omega | (simp; omega))
          rw [i64_in (n := (k : Int) + 1) (by omega) (by omega)]
          exact ⟨k + 1, by omega, by omega, Wk.mk (by simp [get_cons]) ⟨[], rfl⟩ (Nat.le_refl _)⟩
      · obtain rfl : k = bk.ins.length := by omega
        simp only [go_sem, Nat.reduceEqDiff, Nat.reduceAdd, ↓reduceIte, Nat.reduceLeDiff, List.length_map, hbk, eq_false (show ¬ (bk.ins.length : Int) < bk.ins.length by omega)]
        repeat ((with_reducible refine And.intro ?_ ?_); · first | omega | (simp; omega))
        rw [i64_in (n := (i : Int) + 1) (by omega) (by omega)]
        exact ⟨i + 1, by omega, by omega, Wk.mk (by simp [get_cons]) ⟨[], rfl⟩ (Nat.le_refl _)⟩
    · simp only [go_sem, Nat.reduceEqDiff, Nat.reduceAdd, ↓reduceIte, List.length_map, eq_false (show ¬ (i : Int) < g.bks.length by omega)]
      rw [i64_in (n := (f : Int) + 1) (by omega) (by omega)]
      exact ⟨⟨f + 1, nx + 2⟩, by simp only; omega, by simp only; omega, Wk.mk (by simp [get_cons]) ⟨[_, _], rfl⟩ (by simp only; omega)⟩
  · simp only [go_sem, Nat.reduceEqDiff, Nat.reduceAdd, ↓reduceIte, List.length_map, eq_false (show ¬ (f : Int) < b.funcs.length by omega)]
    exact ⟨_, Frz.pure rfl, rfl⟩
set_option maxRecDepth 100000 in
theorem chooselive_lifted (os : Os) (started : os.Started) (H : Type) (enc : TypeId × Value → H) :
    ReturnsInHanded {} Try.checked os 7 .any (Rows.chooseLiveSpec.pre6 enc Try.prog Try.f7 Rows.chooseLiveRow.domain false) (Rows.chooseLiveSpec.post enc Try.prog Try.f7 false true false false) := by
  refine returnsInHanded_of_change_sized (C := Try.checked) Try.own started (by kernel_rfl) Try.func7
    (ChangeSpec.witness6 (enc := enc) (C := Try.checked) false ⟨#[], #[.agg #[.int .i64 0, .slice none 0 0], .slice none 0 0], []⟩ 8 (by kernel_rfl) (by kernel_rfl) (by kernel_rfl) (by kernel_rfl)) ?_
  intro W base args ds gs before hval hW _ hwt _
  refine law_calls (P := Try.prog) (n := 20) (shs := [bpSh, alsSh]) (tb := 4) Try.laidOut rfl (by kernel_rfl) (by kernel_rfl) (by decide +kernel) (by kernel_rfl) (fun ds h => ?_) (fun xs hx => ?_) hval hW hwt
  · match ds, h with
    | [d1, d2], _ => rfl
  · obtain ⟨x, xs', rfl, hx1, hxs⟩ := fitS_cons hx
    obtain ⟨y, ys', rfl, hy, hys⟩ := fitS_cons hxs
    simp only [Sh.fitL] at hys
    subst hys
    obtain ⟨b, rfl, g1, g2, g3⟩ := bp_of hx1
    obtain ⟨ls, rfl, g4, g5⟩ := als_of hy
    exact chooselive_c b ls g2 g3 g4 g5
theorem chooselive_holds : Rows.ChooseLiveSaid :=
  OpenClaim.holds_of_wide 7 Try.f7 rfl rfl rfl rfl rfl rfl rfl ⟨rfl, rfl, rfl, rfl, rfl⟩ rfl rfl rfl rfl rfl (by kernel_rfl) Try.func7 (by kernel_rfl)
    (of_decide_eq_true (by kernel_rfl)) (by unfold Func.isWrapper; first | (rw [if_pos (by decide +kernel)]; kernel_rfl) | (rw [if_neg (by decide +kernel)]; exact ⟨rfl, rfl⟩))
    (fun os started H enc _ => chooselive_lifted os started H enc)
end Go.Proofs.Ytkbhfokbhkmfgaa
namespace Go.Proofs.Ytkbhfokbhkmfgaa
set_option linter.unusedSimpArgs false
set_option linter.unusedVariables false
set_option maxRecDepth 10000
open Go.V Go.ChangeShapes Go.WideShapes Go.ChangeAt Go.RowKit
theorem rsame08_c (code : List Int) (data : Int) (hl : code.length ≤ 1000000) : Contract Try.prog 27 [imgC code data, imgC code data] (fun r => r = B true) := by
  refine Contract.of_call (VCall.of_body hmix f_scref08_Same (by simp) ?_)
  simp only [go_sem, Nat.reduceEqDiff, Nat.reduceAdd, ↓reduceIte, reduceCtorEq, Nat.reduceLeDiff, List.length_map, c_scref08_Same, bne_self_eq_false]
  refine VW_loop (fun i : Nat => ⟨[(2, .ptr 0 0 0), (3, .ptr 1 1 0), (5, I i)], [⟨0, 30, 1, [.imm 1 (code.map U32), I data]⟩, ⟨1, 30, 1, [.imm 1 (code.map U32), I data]⟩], 2⟩) (fun i => i ≤ code.length) (fun i => code.length - i) 0 (Wk.mk (by simp [get_cons]) ⟨[], rfl⟩ (Nat.le_refl _)) (Nat.zero_le _) ?_
  intro i hi
  by_cases hlt : i < code.length
  · simp only [go_sem, Nat.reduceEqDiff, Nat.reduceAdd, ↓reduceIte, Nat.reduceLeDiff, List.length_map, eq_true (show (i : Int) < code.length by omega), bne_self_eq_false]
    repeat ((with_reducible refine And.intro ?_ ?_); · first | omega | (simp; omega))
    rw [i64_in (n := (i : Int) + 1) (by omega) (by omega)]
    exact ⟨i + 1, by omega, by omega, Wk.mk (by simp [get_cons]) ⟨[], rfl⟩ (Nat.le_refl _)⟩
  · obtain rfl : i = code.length := by omega
    simp only [go_sem, Nat.reduceEqDiff, Nat.reduceAdd, ↓reduceIte, Nat.reduceLeDiff, List.length_map, eq_false (show ¬ (code.length : Int) < code.length by omega)]
    exact ⟨_, Frz.pure rfl, rfl⟩
theorem need_c {b : BP} {ls : List (List Int)} {rw : Nat → List Bool} (h : OfH b ls rw) : Contract Try.prog 26 [bpA b, alsA ls] (fun r => r = I (dataO b ls)) := by
  refine Contract.of_call (VCall.of_body hmix f_choose_Need (by simp) ?_)
  simp only [go_sem, Nat.reduceEqDiff, Nat.reduceAdd, ↓reduceIte, ↓dreduceIte, reduceCtorEq, c_choose_Need]
  refine VCall.of_contract (of29_c h) (SleL.pure rfl) fun x hx => ?_
  subst hx
  simp only [go_sem, Nat.reduceEqDiff, Nat.reduceAdd, ↓reduceIte, Nat.reduceLT, bne_self_eq_false]
  exact ⟨_, Frz.pure rfl, rfl⟩
theorem chooseneeds_c (b : BP) (ls : List (List Int)) (hl : b.funcs.length ≤ 140737488355328) (hf : ∀ f ∈ b.funcs, BfOk f) (hls : ls.length ≤ 140737488355328) (hpl : ∀ pl ∈ ls, pl.length ≤ 140737488355328) : Contract Try.prog 8 [bpA b, alsA ls] (fun r => r = B true) := by
  refine Contract.of_call (VCall.of_body hmix f_sclaw29_ChooseNeeds (by simp) ?_)
  simp only [go_sem, Nat.reduceAdd, ↓reduceIte, ↓dreduceIte, c_sclaw29_ChooseNeeds]
  refine VCall.of_contract alive_c (SleL.pure rfl) fun x hx => ?_
  subst hx
  simp only [go_sem, Nat.reduceEqDiff, Nat.reduceAdd, ↓reduceIte, ↓dreduceIte, reduceCtorEq]
  refine VCall.of_contract (fair_c b ls hl hf hls hpl) (SleL.pure rfl) fun x hx => ?_
  obtain ⟨v, rfl, hv⟩ := hx
  cases v
  · simp only [go_sem, ↓reduceIte]
    exact ⟨_, Frz.pure rfl, rfl⟩
  obtain ⟨rw, h⟩ := fair_of (hv rfl) hf hpl
  have hcl : (codeO b ls rw).length ≤ 1000000 := by
    have hR : RunP b (endO b ls rw) _ _ := RunP.all h.f h.n h.rl (b.funcs.length - 1) (Nat.le_refl _)
    have hB := tot_bound h.f (b.funcs.length - 1) (Nat.le_refl _)
    have hlen := hR.len
    have e : (codeO b ls rw).length = (endO b ls rw).l.length := by simp [codeO, fixY]
    omega
  have k1 := of29_c h
  have k2 := need_c h
  have k3 := rsame08_c (codeO b ls rw) (dataO b ls) hcl
  unfold ofA at k1
  generalize codeO b ls rw = code at *
  generalize dataO b ls = data at *
  simp only [go_sem, Nat.reduceEqDiff, Nat.reduceAdd, ↓reduceIte, ↓dreduceIte, reduceCtorEq]
  refine VCall.of_contract k1 (SleL.pure rfl) fun x hx => ?_
  subst hx
  simp only [go_sem, Nat.reduceEqDiff, Nat.reduceAdd, ↓reduceIte, ↓dreduceIte, reduceCtorEq, Nat.reduceLT]
  refine VCall.of_contract k1 (SleL.pure rfl) fun x hx => ?_
  subst hx
  simp only [go_sem, Nat.reduceEqDiff, Nat.reduceAdd, ↓reduceIte, ↓dreduceIte, reduceCtorEq, Nat.reduceLT, Int.reduceBEq]
  refine ECall.of k2 (SleL.pure rfl) ⟨_, fun _ => Iff.rfl⟩ fun x hx => ?_
  subst hx
  simp only [go_sem, Nat.reduceEqDiff, Nat.reduceAdd, ↓reduceIte, ↓dreduceIte, Nat.reduceLT, beq_self_eq_true]
  refine ECall.of k3 (SleL.pure rfl) ⟨_, fun _ => Iff.rfl⟩ fun x hx => ?_
  subst hx
  simp only [go_sem, Nat.reduceEqDiff, ↓reduceIte]
  exact ⟨_, Frz.pure rfl, rfl⟩
set_option maxRecDepth 100000 in
theorem chooseneeds_lifted (os : Os) (started : os.Started) (H : Type) (enc : TypeId × Value → H) :
    ReturnsInHanded {} Try.checked os 8 .any (Rows.chooseNeedsSpec.pre6 enc Try.prog Try.f8 Rows.chooseNeedsRow.domain false) (Rows.chooseNeedsSpec.post enc Try.prog Try.f8 false true false false) := by
  refine returnsInHanded_of_change_sized (C := Try.checked) Try.own started (by kernel_rfl) Try.func8
    (ChangeSpec.witness6 (enc := enc) (C := Try.checked) false ⟨#[], #[.agg #[.int .i64 0, .slice none 0 0], .slice none 0 0], []⟩ 8 (by kernel_rfl) (by kernel_rfl) (by kernel_rfl) (by kernel_rfl)) ?_
  intro W base args ds gs before hval hW _ hwt _
  refine law_calls (P := Try.prog) (n := 20) (shs := [bpSh, alsSh]) (tb := 4) Try.laidOut rfl (by kernel_rfl) (by kernel_rfl) (by decide +kernel) (by kernel_rfl) (fun ds h => ?_) (fun xs hx => ?_) hval hW hwt
  · match ds, h with
    | [d1, d2], _ => rfl
  · obtain ⟨x, xs', rfl, hx1, hxs⟩ := fitS_cons hx
    obtain ⟨y, ys', rfl, hy, hys⟩ := fitS_cons hxs
    simp only [Sh.fitL] at hys
    subst hys
    obtain ⟨b, rfl, g1, g2, g3⟩ := bp_of hx1
    obtain ⟨ls, rfl, g4, g5⟩ := als_of hy
    exact chooseneeds_c b ls g2 g3 g4 g5
theorem chooseneeds_holds : Rows.ChooseNeedsSaid :=
  OpenClaim.holds_of_wide 8 Try.f8 rfl rfl rfl rfl rfl rfl rfl ⟨rfl, rfl, rfl, rfl, rfl⟩ rfl rfl rfl rfl rfl (by kernel_rfl) Try.func8 (by kernel_rfl)
    (of_decide_eq_true (by kernel_rfl)) (by unfold Func.isWrapper; first | (rw [if_pos (by decide +kernel)]; kernel_rfl) | (rw [if_neg (by decide +kernel)]; exact ⟨rfl, rfl⟩))
    (fun os started H enc _ => chooseneeds_lifted os started H enc)
end Go.Proofs.Ytkbhfokbhkmfgaa
namespace Go.Proofs.Ytkbhfokbhkmfgaa
end Go.Proofs.Ytkbhfokbhkmfgaa
