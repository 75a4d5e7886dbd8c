/-
  LiveReads: the row. No condition.
-/
import Derived.Test.YtjdeediehmhdoaaL27a
import Derived.Test.YtjdeediehmhdoaaBU
namespace Go.Proofs.Ytjdeediehmhdoaa
set_option linter.unusedSimpArgs false
set_option linter.unusedVariables false
set_option maxRecDepth 10000
open Go.V Go.ChangeShapes Go.WideShapes Go.ChangeAt Go.RowKit

theorem thru_drop (ins : List Tac) (l : List Bool) {n : Nat} (hn : n < ins.length) (hr : ∀ t ∈ ins, RegT t l.length) {u : Int} (hu : u ∈ usesL (ins.getD n default)) : u.toNat < (thruL (ins.drop n) l).length ∧ 0 ≤ u ∧ gB (thruL (ins.drop n) l) u.toNat = true := by
  have hm := mem_getD hn
  have h1 := (hr _ hm).1 u hu
  have hlt : u.toNat < l.length := by omega
  rw [drop_back ins l hn, backL_len, thruL_len]
  refine ⟨hlt, h1.1, ?_⟩
  rw [gB_back _ _ _ (by rw [thruL_len]; exact hr _ hm) (by rw [thruL_len]; exact hlt)]
  unfold bk1
  rw [if_pos (by rw [Int.toNat_of_nonneg h1.1]; exact hu)]
theorem tmod_nat {b : Int} {m : Nat} (h0 : 0 ≤ b) (hm : 0 < m) : ∃ k : Nat, b.tmod m = k ∧ k < m := by
  refine ⟨(b % m).toNat, ?_, ?_⟩
  · rw [Int.tmod_eq_emod_of_nonneg h0]
    have := Int.emod_nonneg b (show (m : Int) ≠ 0 by omega)
    omega
  · have := Int.emod_lt_of_pos b (show (0 : Int) < m by omega)
    have := Int.emod_nonneg b (show (m : Int) ≠ 0 by omega)
    omega
/-- What is read matters. -/
theorem reads_row {f : BF} {L : LD} (hf : Fine f) (hL : Least f L) {k n : Nat} (hk : k < f.n) (hn : n < (f.bk k).ins.length) (A : List Bool) (hA : A = (if n = 0 then L.inn.getD k default else (behindL (f.bk k) (L.out.getD k default)).getD (n - 1) default)) :
    A.length = f.r ∧ ∀ u ∈ usesL ((f.bk k).ins.getD n default), 0 ≤ u ∧ u.toNat < A.length ∧ gB A u.toNat = true := by
  have hol : k < L.out.length := by rw [hL.cl.sz.o]; exact hk
  have hlo : (L.out.getD k default).length = f.r := hL.cl.sz.or _ (mem_getD hol)
  have hr := (hf.regs hk hlo).1
  have hr2 : ∀ t ∈ (f.bk k).ins, RegT t (lastL (f.bk k) (L.out.getD k default)).length := by rw [lastL_len]; exact hr
  by_cases h0 : n = 0
  · subst h0
    rw [if_pos rfl] at hA
    have hil : k < L.inn.length := by rw [hL.cl.sz.i]; exact hk
    have hli : (L.inn.getD k default).length = f.r := hL.cl.sz.ir _ (mem_getD hil)
    subst hA
    refine ⟨hli, fun u hu => ?_⟩
    obtain ⟨h1, h2, h3⟩ := thru_drop _ _ hn hr2 hu
    rw [thruL_len, lastL_len, hlo] at h1
    refine ⟨h2, by rw [hli]; exact h1, ?_⟩
    have h4 := hL.cl.cl.ahead k hk u.toNat h1
    rw [List.drop_zero, gB_thru _ _ _ hr2 (by rw [lastL_len, hlo]; exact h1), gB_last _ _ _ (fun e => ((hf.regs hk hlo).2 e).1) (by rw [hlo]; exact h1)] at h3
    exact h4 h3
  · rw [if_neg h0] at hA
    have e : (behindL (f.bk k) (L.out.getD k default)).getD (n - 1) default = thruL ((f.bk k).ins.drop n) (lastL (f.bk k) (L.out.getD k default)) := by
      unfold behindL
      simp only [List.getD, List.getElem?_map, List.getElem?_range (show n - 1 < (f.bk k).ins.length by omega), Option.map_some, Option.getD_some, show n - 1 + 1 = n by omega]
    rw [e] at hA
    subst hA
    refine ⟨by rw [thruL_len, lastL_len, hlo], fun u hu => ?_⟩
    obtain ⟨h1, h2, h3⟩ := thru_drop _ _ hn hr2 hu
    exact ⟨h2, h1, h3⟩
theorem livereads_c (f : BF) (b i : Int) (hF : BfOk f) (hb : 0 ≤ b ∧ b ≤ 255) (hi : 0 ≤ i ∧ i ≤ 255) : Contract Try.prog 7 [bfA f, Y8 b, Y8 i] (fun r => r = B true) := by
  refine Contract.of_call (VCall.of_body hmix f_sclaw27_LiveReads (by simp) ?_)
  simp only [go_sem,Nat.reduceEqDiff,Nat.reduceAdd,Nat.reduceMul,↓reduceIte,↓dreduceIte,reduceCtorEq,Nat.reduceLeDiff,Nat.reduceLT,Nat.reduceSub,Int.reduceToNat,Int.reduceLE,Int.reduceLT, one_imm, one_ref, c_sclaw27_LiveReads]
  refine VCall.of_contract (small_c f 12 60 hF (by decide) (by decide)) (SleL.pure rfl) fun x hx => ?_
  subst hx
  cases hs : smallB f 12 60
  · simp only [go_sem,Nat.reduceEqDiff,Nat.reduceAdd,Nat.reduceMul,↓reduceIte,↓dreduceIte,reduceCtorEq,Nat.reduceLeDiff,Nat.reduceLT,Nat.reduceSub,Int.reduceToNat,Int.reduceLE,Int.reduceLT, one_imm, one_ref]
    refine VCall.of_contract awake_c (SleL.pure rfl) fun x hx => ?_
    subst hx
    simp only [go_sem,Nat.reduceEqDiff,Nat.reduceAdd,Nat.reduceMul,↓reduceIte,↓dreduceIte,reduceCtorEq,Nat.reduceLeDiff,Nat.reduceLT,Nat.reduceSub,Int.reduceToNat,Int.reduceLE,Int.reduceLT, one_imm, one_ref]
    exact ⟨_, Frz.pure rfl, rfl⟩
  obtain ⟨hf, h12, h40, _, _⟩ := small_fine hs
  have hne : 0 < f.bks.length := List.length_pos_iff.2 hf.b0
  have hn : f.bks.length = f.n := rfl
  obtain ⟨M, hM⟩ := least_exists hf
  have hr : f.r ≤ 64 := by unfold BF.r; omega
  have hok := hM.cl.sz.ok hf
  simp only [go_sem,Nat.reduceEqDiff,Nat.reduceAdd,Nat.reduceMul,↓reduceIte,↓dreduceIte,reduceCtorEq,Nat.reduceLeDiff,Nat.reduceLT,Nat.reduceSub,Int.reduceToNat,Int.reduceLE,Int.reduceLT, one_imm, one_ref, List.length_map, eq_false (show ¬ (f.bks.length : Int) = 0 by omega)]
  refine VCall.of_contract (live_of_c f hf hr M hM) (SleL.pure rfl) fun x hx => ?_
  subst hx
  obtain ⟨k, hk, hkn⟩ := tmod_nat hb.1 hne
  have w1 : IntKind.i64.wrap b = b := i64_in (by omega) (by omega)
  have w2 : IntKind.i64.wrap (k : Int) = k := i64_in (by omega) (by omega)
  have w3 : IntKind.i64.wrap i = i := i64_in (by omega) (by omega)
  have hkn' : k < f.n := hkn
  have hbk : f.bks.getD k default = f.bk k := rfl
  have hm := BF.mem hkn'
  have hv := hf.v _ hm
  have hlen := hf.len _ hm
  have hil : k < M.inn.length := by rw [hM.cl.sz.i]; exact hkn
  have hli : (M.inn.getD k default).length = f.r := hM.cl.sz.ir _ (mem_getD hil)
  have hol : k < M.out.length := by rw [hM.cl.sz.o]; exact hkn
  have hlo : (M.out.getD k default).length = f.r := hM.cl.sz.or _ (mem_getD hol)
  have hregs : f.regs = (f.r : Int) := by have := hf.r0; unfold BF.r; omega
  simp only [go_sem,Nat.reduceEqDiff,Nat.reduceAdd,Nat.reduceMul,↓reduceIte,↓dreduceIte,reduceCtorEq,Nat.reduceLeDiff,Nat.reduceLT,Nat.reduceSub,Int.reduceToNat,Int.reduceLE,Int.reduceLT, one_imm, one_ref, List.length_map, w1, w2, hk, hbk, eq_false (show ¬ (f.bks.length : Int) = 0 by omega)]
  repeat ((with_reducible refine And.intro ?_ ?_); · omega)
  refine VCall.of_contract (rSized_c f M hok.i hok.o) (SleL.pure rfl) fun x hx => ?_
  rw [(sizedB_iff hf.r0 M).2 hM.cl.sz] at hx
  subst hx
  obtain ⟨q, he, hq⟩ : ∃ q : Prop, ((f.bk k).e = 2) = q ∧ (q = True ∨ q = False) := ⟨_, rfl, by by_cases h : (f.bk k).e = 2 <;> simp [h]⟩
  by_cases hnil : (f.bk k).ins.length = 0
  · have hins : (f.bk k).ins = [] := List.length_eq_zero_iff.1 hnil
    rcases hq with rfl | rfl
    · have he' : (f.bk k).e = 2 := of_eq_true he
      have hv' := hv he'
      obtain ⟨v, hvv⟩ : ∃ v : Nat, (f.bk k).v = (v : Int) := ⟨(f.bk k).v.toNat, by omega⟩
      have hvr : v < f.r := by omega
      have hlive : (M.inn.getD k default).getD v default = true := by
        refine hM.cl.cl.ahead k hkn' v hvr ?_
        unfold ahead1 last1
        rw [hins, if_pos ⟨he', hvv⟩]; rfl
      have hil' := hil
      simp only [go_sem,Nat.reduceEqDiff,Nat.reduceAdd,Nat.reduceMul,↓reduceIte,↓dreduceIte,reduceCtorEq,Nat.reduceLeDiff,Nat.reduceLT,Nat.reduceSub,Int.reduceToNat,Int.reduceLE,Int.reduceLT, one_imm, one_ref, List.length_map, w1, w2, hk, hbk, he, hnil, hvv, hlive, Nat.cast_zero']
      repeat ((with_reducible refine And.intro ?_ ?_); · omega)
      refine VCall.of_contract awake_c (SleL.pure rfl) fun x hx => ?_
      subst hx
      simp only [go_sem,Nat.reduceEqDiff,Nat.reduceAdd,Nat.reduceMul,↓reduceIte,↓dreduceIte,reduceCtorEq,Nat.reduceLeDiff,Nat.reduceLT,Nat.reduceSub,Int.reduceToNat,Int.reduceLE,Int.reduceLT, one_imm, one_ref]
      exact ⟨_, Frz.pure rfl, rfl⟩
    · simp only [go_sem,Nat.reduceEqDiff,Nat.reduceAdd,Nat.reduceMul,↓reduceIte,↓dreduceIte,reduceCtorEq,Nat.reduceLeDiff,Nat.reduceLT,Nat.reduceSub,Int.reduceToNat,Int.reduceLE,Int.reduceLT, one_imm, one_ref, List.length_map, w1, w2, hk, hbk, he, hnil, Nat.cast_zero']
      refine VCall.of_contract awake_c (SleL.pure rfl) fun x hx => ?_
      subst hx
      simp only [go_sem,Nat.reduceEqDiff,Nat.reduceAdd,Nat.reduceMul,↓reduceIte,↓dreduceIte,reduceCtorEq,Nat.reduceLeDiff,Nat.reduceLT,Nat.reduceSub,Int.reduceToNat,Int.reduceLE,Int.reduceLT, one_imm, one_ref]
      exact ⟨_, Frz.pure rfl, rfl⟩
  obtain ⟨n, hnd, hnl⟩ := tmod_nat hi.1 (show 0 < (f.bk k).ins.length by omega)
  have w4 : IntKind.i64.wrap (n : Int) = n := i64_in (by omega) (by omega)
  obtain ⟨A, hA⟩ : ∃ A, A = (if n = 0 then M.inn.getD k default else (behindL (f.bk k) (M.out.getD k default)).getD (n - 1) default) := ⟨_, rfl⟩
  obtain ⟨hAl, hAu⟩ := reads_row hf hM hkn' hnl A hA
  have hul := usesL_len ((f.bk k).ins.getD n default)
  obtain ⟨us, hus⟩ : ∃ us, us = usesL ((f.bk k).ins.getD n default) := ⟨_, rfl⟩
  rw [← hus] at hAu hul
  have hbl := behindL_len (f.bk k) (M.out.getD k default)
  have hbeh : n ≠ 0 → (behindL (f.bk k) (M.out.getD k default)).getD (n - 1) default = A := fun h => by rw [hA, if_neg h]
  have hAz : n = 0 → M.inn.getD k default = A := fun h => by rw [hA, if_pos h]
  clear hA
  have hin1 : n - 1 < (f.bk k).ins.length := by omega
  rcases Nat.eq_zero_or_pos n with h0 | h0
  · have hA := hAz h0
    subst h0
    rcases hq with rfl | rfl
    all_goals
      simp only [go_sem,Nat.reduceEqDiff,Nat.reduceAdd,Nat.reduceMul,↓reduceIte,↓dreduceIte,reduceCtorEq,Nat.reduceLeDiff,Nat.reduceLT,Nat.reduceSub,Int.reduceToNat,Int.reduceLE,Int.reduceLT, one_imm, one_ref, List.length_map, w1, w2, w3, w4, hk, hbk, he, hnd, hA, eq_false (show ¬ ((f.bk k).ins.length : Int) = 0 by omega), eq_false (show ¬ (0 : Int) < ((0 : Nat) : Int) by decide)]
      repeat ((with_reducible refine And.intro ?_ ?_); · omega)
      refine VCall.of_contract (refuses_c _).old (SleL.pure rfl) fun x hx => ?_
      subst hx
      rw [← hus]
      simp only [go_sem,Nat.reduceEqDiff,Nat.reduceAdd,Nat.reduceMul,↓reduceIte,↓dreduceIte,reduceCtorEq,Nat.reduceLeDiff,Nat.reduceLT,Nat.reduceSub,Int.reduceToNat,Int.reduceLE,Int.reduceLT, one_imm, one_ref]
      refine VW_loop (fun j : Nat => ⟨[(11, bools A), (13, ints us), (14, I j)], [], 3⟩) (fun j => j ≤ us.length) (fun j => us.length - j) 0 (Wk.mk (by simp [get_cons]) ⟨_, rfl⟩ (by simp)) (Nat.zero_le _) ?_
      intro j hj
      by_cases hjl : j < us.length
      · obtain ⟨u1, u2, u3⟩ := hAu _ (mem_getD hjl)
        obtain ⟨u, hu⟩ : ∃ u : Nat, us.getD j default = (u : Int) := ⟨(us.getD j default).toNat, by omega⟩
        rw [hu, Int.toNat_natCast] at u2 u3
        have u3' : A.getD u default = true := u3
        simp only [go_sem,Nat.reduceEqDiff,Nat.reduceAdd,Nat.reduceMul,↓reduceIte,↓dreduceIte,reduceCtorEq,Nat.reduceLeDiff,Nat.reduceLT,Nat.reduceSub,Int.reduceToNat,Int.reduceLE,Int.reduceLT, one_imm, one_ref, List.length_map, hu, u3', eq_true (show (j : Int) < us.length by omega), eq_false (show ¬ ((A.length : Int) ≤ (u : Int)) by omega)]
        repeat ((with_reducible refine And.intro ?_ ?_); · omega)
        rw [i64_in (by omega) (by omega)]
        exact ⟨j + 1, by omega, by omega, Wk.mk (by simp [get_cons]) ⟨[], rfl⟩ (Nat.le_refl _)⟩
      · simp only [go_sem,Nat.reduceEqDiff,Nat.reduceAdd,Nat.reduceMul,↓reduceIte,↓dreduceIte,reduceCtorEq,Nat.reduceLeDiff,Nat.reduceLT,Nat.reduceSub,Int.reduceToNat,Int.reduceLE,Int.reduceLT, one_imm, one_ref, List.length_map, eq_false (show ¬ (j : Int) < us.length by omega)]
        refine VCall.of_contract awake_c (SleL.pure rfl) fun x hx => ?_
        subst hx
        simp only [go_sem,Nat.reduceEqDiff,Nat.reduceAdd,Nat.reduceMul,↓reduceIte,↓dreduceIte,reduceCtorEq,Nat.reduceLeDiff,Nat.reduceLT,Nat.reduceSub,Int.reduceToNat,Int.reduceLE,Int.reduceLT, one_imm, one_ref]
        exact ⟨_, Frz.pure rfl, rfl⟩

  · have hA := hbeh (by omega)
    have w5 : IntKind.i64.wrap ((n : Int) - 1) = ((n - 1 : Nat) : Int) := by rw [i64_in (by omega) (by omega)]; omega
    rcases hq with rfl | rfl
    all_goals
      simp only [go_sem,Nat.reduceEqDiff,Nat.reduceAdd,Nat.reduceMul,↓reduceIte,↓dreduceIte,reduceCtorEq,Nat.reduceLeDiff,Nat.reduceLT,Nat.reduceSub,Int.reduceToNat,Int.reduceLE,Int.reduceLT, one_imm, one_ref, List.length_map, w1, w2, w3, w4, hk, hbk, he, hnd, eq_false (show ¬ ((f.bk k).ins.length : Int) = 0 by omega), eq_true (show (0 : Int) < (n : Int) by omega)]
      repeat ((with_reducible refine And.intro ?_ ?_); · omega)
      refine VCall.of_contract (behind_c f M k hf hkn hol hlo) (SleL.pure rfl) fun x hx => ?_
      subst hx
      simp only [go_sem,Nat.reduceEqDiff,Nat.reduceAdd,Nat.reduceMul,↓reduceIte,↓dreduceIte,reduceCtorEq,Nat.reduceLeDiff,Nat.reduceLT,Nat.reduceSub,Int.reduceToNat,Int.reduceLE,Int.reduceLT, one_imm, one_ref, List.length_map, w1, w2, w3, w4, w5, hk, hbk, he, hnd, hbl, hA]
      repeat ((with_reducible refine And.intro ?_ ?_); · omega)
      refine VCall.of_contract (refuses_c _).old (SleL.pure rfl) fun x hx => ?_
      subst hx
      rw [← hus]
      simp only [go_sem,Nat.reduceEqDiff,Nat.reduceAdd,Nat.reduceMul,↓reduceIte,↓dreduceIte,reduceCtorEq,Nat.reduceLeDiff,Nat.reduceLT,Nat.reduceSub,Int.reduceToNat,Int.reduceLE,Int.reduceLT, one_imm, one_ref]
      refine VW_loop (fun j : Nat => ⟨[(11, bools A), (13, ints us), (14, I j)], [], 3⟩) (fun j => j ≤ us.length) (fun j => us.length - j) 0 (Wk.mk (by simp [get_cons]) ⟨_, rfl⟩ (by simp)) (Nat.zero_le _) ?_
      intro j hj
      by_cases hjl : j < us.length
      · obtain ⟨u1, u2, u3⟩ := hAu _ (mem_getD hjl)
        obtain ⟨u, hu⟩ : ∃ u : Nat, us.getD j default = (u : Int) := ⟨(us.getD j default).toNat, by omega⟩
        rw [hu, Int.toNat_natCast] at u2 u3
        have u3' : A.getD u default = true := u3
        simp only [go_sem,Nat.reduceEqDiff,Nat.reduceAdd,Nat.reduceMul,↓reduceIte,↓dreduceIte,reduceCtorEq,Nat.reduceLeDiff,Nat.reduceLT,Nat.reduceSub,Int.reduceToNat,Int.reduceLE,Int.reduceLT, one_imm, one_ref, List.length_map, hu, u3', eq_true (show (j : Int) < us.length by omega), eq_false (show ¬ ((A.length : Int) ≤ (u : Int)) by omega)]
        repeat ((with_reducible refine And.intro ?_ ?_); · omega)
        rw [i64_in (by omega) (by omega)]
        exact ⟨j + 1, by omega, by omega, Wk.mk (by simp [get_cons]) ⟨[], rfl⟩ (Nat.le_refl _)⟩
      · simp only [go_sem,Nat.reduceEqDiff,Nat.reduceAdd,Nat.reduceMul,↓reduceIte,↓dreduceIte,reduceCtorEq,Nat.reduceLeDiff,Nat.reduceLT,Nat.reduceSub,Int.reduceToNat,Int.reduceLE,Int.reduceLT, one_imm, one_ref, List.length_map, eq_false (show ¬ (j : Int) < us.length by omega)]
        refine VCall.of_contract awake_c (SleL.pure rfl) fun x hx => ?_
        subst hx
        simp only [go_sem,Nat.reduceEqDiff,Nat.reduceAdd,Nat.reduceMul,↓reduceIte,↓dreduceIte,reduceCtorEq,Nat.reduceLeDiff,Nat.reduceLT,Nat.reduceSub,Int.reduceToNat,Int.reduceLE,Int.reduceLT, one_imm, one_ref]
        exact ⟨_, Frz.pure rfl, rfl⟩


set_option maxRecDepth 100000 in
theorem livereads_lifted (os : Os) (started : os.Started) (H : Type) (enc : TypeId × Value → H) :
    ReturnsInHanded {} Try.checked os 7 .any (Rows.liveReadsSpec.pre6 enc Try.prog Try.f7 Rows.liveReadsRow.domain false) (Rows.liveReadsSpec.post enc Try.prog Try.f7 false true false false) := by
  refine returnsInHanded_of_change_sized (C := Try.checked) Try.own started (by kernel_rfl) Try.func7
    (ChangeSpec.witness6 (enc := enc) (C := Try.checked) false ⟨#[], #[.agg #[.int .i64 0, .slice none 0 0], .int .u8 0, .int .u8 0], []⟩ 8 (by kernel_rfl) (by kernel_rfl) (by kernel_rfl) (by kernel_rfl)) ?_
  intro W base args ds gs before hval hW _ hwt _
  refine law_calls (P := Try.prog) (n := 20) (shs := [bfSh, .int .u8, .int .u8]) (tb := 4) Try.laidOut rfl (by kernel_rfl) (by kernel_rfl) (by decide +kernel) (by kernel_rfl) (fun ds h => ?_) (fun xs hx => ?_) hval hW hwt
  · match ds, h with
    | [d1, d2, d3], _ => rfl
  · obtain ⟨x, xs', rfl, hx1, hxs⟩ := fitS_cons hx
    obtain ⟨y, ys', rfl, hy, hys⟩ := fitS_cons hxs
    obtain ⟨z, zs', rfl, hz, hzs⟩ := fitS_cons hys
    simp only [Sh.fitL] at hzs
    subst hzs
    obtain ⟨f, rfl, hF⟩ := bf_of hx1
    obtain ⟨b, rfl, hb⟩ := fit_y hy
    obtain ⟨i, rfl, hi⟩ := fit_y hz
    exact livereads_c f b i hF hb hi

theorem livereads_holds : Rows.LiveReadsSaid :=
  OpenClaim.holds_of_wide 7 Try.f7 rfl rfl rfl rfl rfl rfl rfl ⟨rfl, rfl, rfl, rfl, rfl⟩ rfl rfl rfl rfl rfl (by kernel_rfl) Try.func7 (by kernel_rfl)
    (of_decide_eq_true (by kernel_rfl)) (by unfold Func.isWrapper; first | (rw [if_pos (by decide +kernel)]; kernel_rfl) | (rw [if_neg (by decide +kernel)]; exact ⟨rfl, rfl⟩))
    (fun os started H enc _ => livereads_lifted os started H enc)
end Go.Proofs.Ytjdeediehmhdoaa
