/-
  The document's stack machine: calls: contracts. No condition.
-/
import Derived.Test.YtdfdkoajphcjbaaS7
namespace Go.Proofs.Ytdfdkoajphcjbaa
set_option linter.unusedSimpArgs false
set_option linter.unusedVariables false
set_option maxRecDepth 10000
open Go.V

theorem putR_cons (m l : List Int) (j : Nat) (x : Int) (h : j + l.length < m.length) : (putR m (j + 1) l).set j x = putR m j (x :: l) := by
  have hj : (m.take j).length = j := by simp; omega
  have e1 : m.take (j + 1) = m.take j ++ [m.getD j default] := by
    rw [List.take_add_one, List.getElem?_eq_getElem (by omega)]; simp [List.getD, List.getElem?_eq_getElem (show j < m.length by omega)]
  unfold putR
  rw [e1, List.append_assoc, List.append_assoc, List.set_append_right _ _ (by omega), hj, Nat.sub_self]
  simp only [List.cons_append, List.nil_append, List.set_cons_zero, List.length_cons, List.append_assoc]
  rw [show j + 1 + l.length = j + (l.length + 1) by omega]
theorem putR_nil (m : List Int) (j : Nat) : putR m j [] = m := by simp [putR]
theorem ownW_get (g : SF) (L : List Int) (k : Nat) (hk : k < g.slots.toNat) (hp : g.params.toNat ≤ L.length) (hs : g.params.toNat ≤ g.slots.toNat) :
    (ownW g L).drop k = (if k < g.params.toNat then L.getD (g.params.toNat - 1 - k) default else 0) :: (ownW g L).drop (k + 1) := by
  have hl : (ownW g L).length = g.slots.toNat := by simp only [ownW, List.length_append, List.length_reverse, List.length_take, List.length_replicate]; omega
  rw [List.drop_eq_getElem_cons (by omega)]
  congr 1
  unfold ownW
  split
  · rename_i h
    rw [List.getElem_append_left (by simp; omega), List.getElem_reverse]
    simp only [List.getElem_take]
    rw [List.getD, List.getElem?_eq_getElem (by omega), Option.getD_some]
    congr 1
    simp; omega
  · rename_i h
    rw [List.getElem_append_right (by simp; omega)]
    simp

section
variable (sw : Bool) (o0 o1 : VObj) (s2 sc sM nx : Nat) (bel junk : List AV) (F A v : AV) (t : Nat) (s : SP) (c0 c2 c3 c5 c6 c7 : AV) (T : List VObj) (mem : List Int) (n : Nat)

theorem rcall_v (ht : bel.length = t * 3) (h2 : t ≤ 1000000) (a : Int) (ha : 0 ≤ a) (hb : a < s.funcs.length) (L : List Int) (hn : n = mem.length) (hg : CallOK (s.fn a.toNat) mem.length L.length) (hm : mem.length ≤ 1000000) (hl : L.length ≤ 1000000)
    (hF : F.one = true) (hA : A.one = true) (h : PW T v L) (C : AV → List VObj → Nat → Prop)
    (hC : ∀ r R v' sc' nx', PW (T ++ R) v' (L.drop (s.fn a.toNat).params.toNat) → idOf v' = idOf v →
      C r (hpR sw o0 o1 (wdO s2 (putR mem (s.fn a.toNat).first.toNat (ownW (s.fn a.toNat) L))) (frO sc' (bel ++ [F, A, v'] ++ I a :: I 0 :: nilv :: [])) (rmO sM [c0, fnsA s.funcs, c2, c3, .ref (mi sw) s2 0 n, c5, c6, c7, .ref (ci sw) sc' 0 (t + 1 + 1)]) (T ++ R)) nx') :
    VCall Try.prog 49 [.ptr 4 sM 0, I a] (hpR sw o0 o1 (wdO s2 mem) (frO sc (bel ++ F :: A :: v :: junk)) (rmO sM [c0, fnsA s.funcs, c2, c3, .ref (mi sw) s2 0 n, c5, c6, c7, .ref (ci sw) sc 0 (t + 1)]) T) nx C := by
  refine VCall.of_body hmix f_scref20_M_call (by simp) ?_
  have hfa : s.funcs.getD a.toNat default = s.fn a.toNat := rfl
  obtain ⟨g, hgg⟩ : ∃ g, s.fn a.toNat = g := ⟨_, rfl⟩
  rw [hgg] at hg hC hfa
  obtain ⟨g1, g2, g3, g4, g5⟩ := hg
  have hmx : (2000000 : Nat) ≤ maxLen := by decide
  have hol : (ownW g L).length = g.slots.toNat := ownW_length ⟨g1, g2, g3, g4, g5⟩ rfl
  simp only [go_sem,Nat.reduceEqDiff,Nat.reduceAdd,Nat.reduceMul,↓reduceIte,↓dreduceIte,reduceCtorEq,Nat.reduceLeDiff,Nat.reduceLT,Nat.reduceSub,Int.reduceToNat,Int.reduceLE,Int.reduceLT, c_scref20_M_call, q_mach, q_calls, qs_calls, q_len, q_add, q_T, qs_T, one_ref, one_imm, ponx, pg0, ps0, hfa]
  repeat (refine And.intro (by omega) ?_)
  refine VW_loop (fun q : Nat × AV => ⟨[(0, .ptr 4 sM 0), (1, I a), (4, .ptr (T.length + 5) nx 0), (5, I q.1)],
      hpR sw o0 o1 (wdO s2 (putR mem (g.first.toNat + (g.slots.toNat - q.1)) ((ownW g L).drop (g.slots.toNat - q.1)))) (frO sc (bel ++ F :: A :: q.2 :: junk)) (rmO sM [c0, fnsA s.funcs, c2, c3, .ref (mi sw) s2 0 n, c5, c6, c7, .ref (ci sw) sc 0 (t + 1)])
        (T ++ [⟨nx, 39, 1, [I g.params, I g.slots, I g.first, B g.word, .imm 4 (g.code.map siA)]⟩]), nx + 1⟩)
    (fun q => q.1 ≤ g.slots.toNat ∧ PW (T ++ [⟨nx, 39, 1, [I g.params, I g.slots, I g.first, B g.word, .imm 4 (g.code.map siA)]⟩]) q.2 (L.drop (q.1 - (g.slots.toNat - g.params.toNat))) ∧ idOf q.2 = idOf v) (fun q => g.slots.toNat - q.1)
    (0, v) (Wk.mk (by simp [get_cons]) ⟨[], ?_⟩ (Nat.le_refl _)) ⟨Nat.zero_le _, by simpa using h.add _, rfl⟩ ?_
  · simp only [Nat.sub_zero, List.append_nil]
    rw [List.drop_eq_nil_of_le (by omega), putR_nil]
  rintro ⟨i, v1⟩ ⟨h1, h3, h4⟩
  simp only at h1 h3 h4
  by_cases hi : (i : Int) < g.slots
  · have e1 : IntKind.i64.wrap (IntKind.i64.wrap (g.slots - 1) - (i : Int)) = ((g.slots.toNat - 1 - i : Nat) : Int) := by rw [i64_in (n := g.slots - 1) (by omega) (by omega), i64_in (by omega) (by omega)]; omega
    have e2 : IntKind.i64.wrap ((i : Int) + 1) = ((i + 1 : Nat) : Int) := by rw [i64_in (by omega) (by omega)]; omega
    have e3 : IntKind.i64.wrap (g.first + ((g.slots.toNat - 1 - i : Nat) : Int)) = ((g.first.toNat + (g.slots.toNat - 1 - i) : Nat) : Int) := by rw [i64_in (by omega) (by omega)]; omega
    have hk := ownW_get g L (g.slots.toNat - 1 - i) (by omega) (by omega) (by omega)
    rw [show g.slots.toNat - 1 - i + 1 = g.slots.toNat - i by omega] at hk
    have hplen : ∀ j l, j + l.length ≤ mem.length → (putR mem j l).length = mem.length := fun j l hjl => putR_length hjl
    have hset : ∀ w, (ownW g L).drop (g.slots.toNat - 1 - i) = w :: (ownW g L).drop (g.slots.toNat - i) →
        ((putR mem (g.first.toNat + (g.slots.toNat - i)) ((ownW g L).drop (g.slots.toNat - i))).map U32).set (g.first.toNat + (g.slots.toNat - 1 - i)) (U32 w) = (putR mem (g.first.toNat + (g.slots.toNat - (i + 1))) ((ownW g L).drop (g.slots.toNat - (i + 1)))).map U32 := fun w hw => by
      rw [set_map U32]
      congr 1
      rw [show g.slots.toNat - (i + 1) = g.slots.toNat - 1 - i by omega, hw, ← putR_cons _ _ _ _ (by simp only [List.length_drop, hol]; omega)]
      rw [show g.first.toNat + (g.slots.toNat - i) = g.first.toNat + (g.slots.toNat - 1 - i) + 1 by omega]
    have hpl : (putR mem (g.first.toNat + (g.slots.toNat - i)) ((ownW g L).drop (g.slots.toNat - i))).length = mem.length := hplen _ _ (by simp only [List.length_drop, hol]; omega)
    by_cases hp : ((g.slots.toNat - 1 - i : Nat) : Int) < g.params
    · have hdr : L.drop (i - (g.slots.toNat - g.params.toNat)) = L.getD (g.params.toNat - 1 - (g.slots.toNat - 1 - i)) default :: L.drop (i + 1 - (g.slots.toNat - g.params.toNat)) := by
        rw [List.drop_eq_getElem_cons (by omega)]
        congr 1
        · rw [List.getD, List.getElem?_eq_getElem (by omega), Option.getD_some]; congr 1; omega
        · congr 1; omega
      rw [if_pos (by omega)] at hk
      rw [hdr] at h3
      simp only [go_sem,Nat.reduceEqDiff,Nat.reduceAdd,Nat.reduceMul,↓reduceIte,↓dreduceIte,reduceCtorEq,Nat.reduceLeDiff,Nat.reduceLT,Nat.reduceSub,Int.reduceToNat,Int.reduceLE,Int.reduceLT, q_mach, q_calls, q_mem, qs_mem, qs_calls, q_len, q_add, q_T, qs_T, one_ref, one_imm, ponx, pg0, ps0, eq_true hi, e1, eq_true hp]
      refine rpop_v sw o0 o1 _ sc sM _ bel junk F A v1 t c0 _ c2 c3 _ c5 c6 c7 _ ht h2 _ _ (by simp; omega) h3 _ fun v' k1 k2 => ?_
      simp only [go_sem,Nat.reduceEqDiff,Nat.reduceAdd,Nat.reduceMul,↓reduceIte,↓dreduceIte,reduceCtorEq,Nat.reduceLeDiff,Nat.reduceLT,Nat.reduceSub,Int.reduceToNat,Int.reduceLE,Int.reduceLT, q_mach, q_calls, q_mem, qs_mem, qs_calls, q_len, q_add, q_T, qs_T, one_ref, one_imm, ponx, pg0, ps0, e1, e3, e2, hset _ hk, hpl]
      repeat (refine And.intro (by omega) ?_)
      exact ⟨(i + 1, v'), ⟨by simp only; omega, k1, k2.trans h4⟩, by simp only; omega, Wk.mk (by simp [get_cons]) ⟨[], (List.append_nil _).symm⟩ (Nat.le_refl _)⟩
    · rw [if_neg (by omega)] at hk
      rw [show i - (g.slots.toNat - g.params.toNat) = i + 1 - (g.slots.toNat - g.params.toNat) by omega] at h3
      simp only [go_sem,Nat.reduceEqDiff,Nat.reduceAdd,Nat.reduceMul,↓reduceIte,↓dreduceIte,reduceCtorEq,Nat.reduceLeDiff,Nat.reduceLT,Nat.reduceSub,Int.reduceToNat,Int.reduceLE,Int.reduceLT, q_mach, q_calls, q_mem, qs_mem, qs_calls, q_len, q_add, q_T, qs_T, one_ref, one_imm, ponx, pg0, ps0, eq_true hi, e1, eq_false hp, e3, e2, hset _ hk, hpl]
      repeat (refine And.intro (by omega) ?_)
      exact ⟨(i + 1, v1), ⟨by simp only; omega, h3, h4⟩, by simp only; omega, Wk.mk (by simp [get_cons]) ⟨[], (List.append_nil _).symm⟩ (Nat.le_refl _)⟩
  · obtain rfl : i = g.slots.toNat := by omega
    rw [show g.slots.toNat - (g.slots.toNat - g.params.toNat) = g.params.toNat by omega] at h3
    have hv1 := h3.one
    have htk : (bel ++ F :: A :: v1 :: junk).take ((t + 1) * 3) = bel ++ [F, A, v1] := by
      rw [show (t + 1) * 3 = bel.length + 3 by omega, List.take_length_add_append]; rfl
    simp only [go_sem,Nat.reduceEqDiff,Nat.reduceAdd,Nat.reduceMul,↓reduceIte,↓dreduceIte,reduceCtorEq,Nat.reduceLeDiff,Nat.reduceLT,Nat.reduceSub,Int.reduceToNat,Int.reduceLE,Int.reduceLT, q_mach, q_calls, q_mem, qs_mem, qs_calls, qs_mach, q_len, q_add, q_T, qs_T, one_ref, one_imm, ponx, pg0, pg1, pg01, ps0, eq_false hi, Nat.sub_self, htk]
    repeat (refine And.intro (by first | omega | rfl) ?_)
    have := hC (AV.tup []) [⟨nx, 39, 1, [I g.params, I g.slots, I g.first, B g.word, .imm 4 (g.code.map siA)]⟩, ⟨nx + 1, 75, 3, [I a, I 0, nilv]⟩] v1 (nx + 1 + 1) (nx + 1 + 1 + 1) (by simpa using h3.add [⟨nx + 1, 75, 3, [I a, I 0, nilv]⟩]) h4
    simpa using this

theorem rret_v (ht : bel.length = t * 3) (h2 : t ≤ 1000000) (f : Nat) (hf : f < s.funcs.length) (L : List Int) (hL : L.length = cntB (s.fn f).word) (h : PW T v L) (m4 : AV) (C : AV → List VObj → Nat → Prop)
    (hC0 : t = 0 → ∀ r co cr, cr.one = true → C r (hpR sw o0 o1 (wdO s2 mem) co (rmO sM [c0, fnsA s.funcs, c2, c3, m4, c5, c6, I 1, cr]) T) nx)
    (hC1 : ∀ u, t = u + 1 → ∃ bel2 F2 A2 v2 l2, bel = bel2 ++ [F2, A2, v2] ∧ bel2.length = u * 3 ∧ PW T v2 l2 ∧ l2.length ≤ 900000 ∧ (idOf v2 = none ∨ idOf v2 ≠ idOf v) ∧
      ∀ r T' v' junk' nx', PW T' v' ((if (s.fn f).word then [L.headD 0] else []) ++ l2) → UpT T T' v2 v' →
        C r (hpR sw o0 o1 (wdO s2 mem) (frO sc (bel2 ++ F2 :: A2 :: v' :: junk')) (rmO sM [c0, fnsA s.funcs, c2, c3, m4, c5, c6, c7, .ref (ci sw) sc 0 (u + 1)]) T') nx') :
    VCall Try.prog 50 [.ptr 4 sM 0] (hpR sw o0 o1 (wdO s2 mem) (frO sc (bel ++ I f :: A :: v :: junk)) (rmO sM [c0, fnsA s.funcs, c2, c3, m4, c5, c6, c7, .ref (ci sw) sc 0 (t + 1)]) T) nx C := by
  refine VCall.of_body hmix f_scref20_M_ret (by simp) ?_
  have hfa : s.funcs.getD f default = s.fn f := rfl
  have e1 : IntKind.i64.wrap (((t + 1 : Nat) : Int) - 1) = (t : Int) := by rw [i64_in (by omega) (by omega)]; omega
  have hvo := h.one
  have hone : (AV.ref (ci sw) sc 0 t).one = true := rfl
  cases hw : (s.fn f).word with
  | false =>
    simp only [hw] at hL hC1
    by_cases h0 : (t : Int) = 0
    · simp only [go_sem,Nat.reduceEqDiff,Nat.reduceAdd,Nat.reduceMul,↓reduceIte,↓dreduceIte,reduceCtorEq,Nat.reduceLeDiff,Nat.reduceLT,Nat.reduceSub,Int.reduceToNat,Int.reduceLE,Int.reduceLT, q_mach, q_calls, q_mem, qs_mem, qs_calls, qs_mach, q_len, q_add, q_T, qs_T, one_ref, one_imm, c_scref20_M_ret, e1, hfa, hw, fr_0 ht, Nat.sub_zero, eq_true h0]
      repeat (refine And.intro (by first | omega | rfl) ?_)
      exact hC0 (by omega) _ _ _ hone
    · simp only [go_sem,Nat.reduceEqDiff,Nat.reduceAdd,Nat.reduceMul,↓reduceIte,↓dreduceIte,reduceCtorEq,Nat.reduceLeDiff,Nat.reduceLT,Nat.reduceSub,Int.reduceToNat,Int.reduceLE,Int.reduceLT, q_mach, q_calls, q_mem, qs_mem, qs_calls, qs_mach, q_len, q_add, q_T, qs_T, one_ref, one_imm, c_scref20_M_ret, e1, hfa, hw, fr_0 ht, Nat.sub_zero, eq_false h0]
      repeat (refine And.intro (by first | omega | rfl) ?_)
      obtain ⟨bel2, F2, A2, v2, l2, rfl, b1, b2, b3, b4, b5⟩ := hC1 (t - 1) (by omega)
      have := b5 (AV.tup []) T v2 (I f :: A :: v :: junk) nx (by simpa using b2) (UpT.same rfl)
      rw [show t - 1 + 1 = t by omega] at this
      simpa using this
  | true =>
    simp only [hw] at hL hC1
    obtain ⟨x, rfl⟩ : ∃ x, L = [x] := by
      match L, hL with
      | [x], _ => exact ⟨x, rfl⟩
    by_cases h0 : (t : Int) = 0
    · simp only [go_sem,Nat.reduceEqDiff,Nat.reduceAdd,Nat.reduceMul,↓reduceIte,↓dreduceIte,reduceCtorEq,Nat.reduceLeDiff,Nat.reduceLT,Nat.reduceSub,Int.reduceToNat,Int.reduceLE,Int.reduceLT, q_mach, q_calls, q_mem, qs_mem, qs_calls, qs_mach, q_len, q_add, q_T, qs_T, one_ref, one_imm, c_scref20_M_ret, e1, hfa, hw, fr_0 ht, Nat.sub_zero, eq_true h0]
      repeat (refine And.intro (by first | omega | rfl) ?_)
      refine rpop_v sw o0 o1 _ sc sM _ bel junk (I f) A v t c0 _ c2 c3 m4 c5 c6 c7 _ ht h2 [] x (by simp) h _ fun v' k1 k2 => ?_
      simp only [go_sem,Nat.reduceEqDiff,Nat.reduceAdd,Nat.reduceMul,↓reduceIte,↓dreduceIte,reduceCtorEq,Nat.reduceLeDiff,Nat.reduceLT,Nat.reduceSub,Int.reduceToNat,Int.reduceLE,Int.reduceLT, q_mach, q_calls, q_mem, qs_mem, qs_calls, qs_mach, q_len, q_add, q_T, qs_T, one_ref, one_imm, e1, hfa, hw, fr_0 ht, Nat.sub_zero, eq_true h0]
      repeat (refine And.intro (by first | omega | rfl) ?_)
      exact hC0 (by omega) _ _ _ hone
    · obtain ⟨bel2, F2, A2, v2, l2, hbel, b1, b2, b3, b4, b5⟩ := hC1 (t - 1) (by omega)
      simp only [go_sem,Nat.reduceEqDiff,Nat.reduceAdd,Nat.reduceMul,↓reduceIte,↓dreduceIte,reduceCtorEq,Nat.reduceLeDiff,Nat.reduceLT,Nat.reduceSub,Int.reduceToNat,Int.reduceLE,Int.reduceLT, q_mach, q_calls, q_mem, qs_mem, qs_calls, qs_mach, q_len, q_add, q_T, qs_T, one_ref, one_imm, c_scref20_M_ret, e1, hfa, hw, fr_0 ht, Nat.sub_zero, eq_false h0]
      repeat (refine And.intro (by first | omega | rfl) ?_)
      refine rpop_v sw o0 o1 _ sc sM _ bel junk (I f) A v t c0 _ c2 c3 m4 c5 c6 c7 _ ht h2 [] x (by simp) h _ fun v' k1 k2 => ?_
      simp only [go_sem,Nat.reduceEqDiff,Nat.reduceAdd,Nat.reduceMul,↓reduceIte,↓dreduceIte,reduceCtorEq,Nat.reduceLeDiff,Nat.reduceLT,Nat.reduceSub,Int.reduceToNat,Int.reduceLE,Int.reduceLT, q_mach, q_calls, q_mem, qs_mem, qs_calls, qs_mach, q_len, q_add, q_T, qs_T, one_ref, one_imm, e1, hfa, hw, fr_0 ht, Nat.sub_zero, eq_false h0]
      repeat (refine And.intro (by first | omega | rfl) ?_)
      subst hbel
      obtain ⟨u, hu⟩ : ∃ u, t = u + 1 := ⟨t - 1, by omega⟩
      subst hu
      have e9 : bel2 ++ [F2, A2, v2] ++ I f :: A :: v' :: junk = bel2 ++ F2 :: A2 :: v2 :: (I f :: A :: v' :: junk) := by simp
      rw [e9]
      refine rpush_v sw o0 o1 _ sc sM _ bel2 _ F2 A2 v2 u c0 _ c2 c3 m4 c5 c6 c7 T b1 (by omega) l2 x (by omega) b2 _ fun r T' v3 nx' k3 k4 => ?_
      simp only [go_sem,Nat.reduceEqDiff,Nat.reduceAdd,Nat.reduceMul,↓reduceIte,↓dreduceIte,reduceCtorEq,Nat.reduceLeDiff,Nat.reduceLT,Nat.reduceSub,Int.reduceToNat,Int.reduceLE,Int.reduceLT, q_mach, q_calls, q_mem, qs_mem, qs_calls, qs_mach, q_len, q_add, q_T, qs_T, one_ref, one_imm]
      exact b5 _ _ _ _ _ (by simpa using k3) k4
end
end Go.Proofs.Ytdfdkoajphcjbaa
