/-
  How deep the stack is: the document's search: its contract. No condition.
-/
import Derived.Test.YtdfdkoajphcjbaaD2
namespace Go.Proofs.Ytdfdkoajphcjbaa
set_option linter.unusedSimpArgs false
set_option linter.unusedVariables false
set_option maxRecDepth 10000
open Go.V

def tdA (l : List Nat) : List AV := l.map fun (t : Nat) => I (t : Int)
theorem tdA_len (l : List Nat) : (tdA l).length = l.length := by simp [tdA]
theorem td_cell {pre : List AV} {k : Nat} {l : List Nat} {off : Nat} (h : pre.length = off) {C : AV → Prop} : cellT (pre ++ tdA (k :: l)) off false 1 C .mk = C (I k) := by
  have e : (pre ++ tdA (k :: l)).getD off .dead = I k := by rw [← h]; simp [List.getD, tdA]
  have e2 : off + 1 ≤ (pre ++ tdA (k :: l)).length := by simp [tdA_len, h]
  simp only [cellT, cellW, partOK, partA, e]
  simp only [AV.one, Value.oneCell']
  simp; exact fun _ => by simp [tdA_len, h]
theorem td_drop {pre : List AV} {l : List Nat} {off : Nat} (h : pre.length = off) : (pre ++ tdA l).drop off = tdA l := by rw [← h, List.drop_left]
theorem td_take (l : List Nat) : (tdA l).take l.length = tdA l := List.take_of_length_le (by simp [tdA])
theorem fill_set (n i : Nat) (hi : i < n) : ((List.replicate i (-1 : Int) ++ List.replicate (n - i) 0).map I).set i (I (-1)) = (List.replicate (i + 1) (-1 : Int) ++ List.replicate (n - (i + 1)) 0).map I := by
  rw [set_map I, List.set_append_right _ _ (by simp), List.length_replicate, Nat.sub_self, show n - i = (n - (i + 1)) + 1 by omega, List.replicate_succ, List.set_cons_zero]
  congr 1
  rw [List.replicate_succ', List.append_assoc]; rfl
theorem frzT_nil {n : Nat} {H : List VObj} {nx : Nat} : Frz n H nx (.tup [nilv, B false]) (.tup [ints [], B false]) := Frz.tup ⟨_, _, rfl, Frz.nil 1, _, _, rfl, Frz.pure rfl, rfl⟩
theorem depths_no {s : SP} {f : Nat} (h : ∀ out, ¬ Sol s f out) : DepthsR s f [] false := ⟨fun h => (by cases h), fun out ho => (h out ho).elim⟩
theorem cellT_I' {xs : List Int} {off : Nat} {C : AV → Prop} : cellT (xs.map I) off false 1 C .mk = (off < xs.length ∧ C (I (xs.getD off default))) := cellT_I
theorem getD_dm {l : List Int} {i : Nat} (h : i < l.length) : l.getD i default = l.getD i (-1) := by simp [List.getD, h]

theorem nextL_len (x : SI) (k : Nat) : (nextL x k).length ≤ 2 := by
  unfold nextL
  by_cases h : x.op = 8
  · rw [if_pos h]; simp
  rw [if_neg h]
  by_cases h : x.op = 9
  · rw [if_pos h]; simp
  rw [if_neg h]
  by_cases h : x.op = 11
  · rw [if_pos h]; simp
  rw [if_neg h]; simp
/-- What is known at the heads of the loops. -/
structure DQ where
  dl : List Int
  tl : List Nat
  off : Nat
  st : Nat
  pre : List AV
  T : List VObj
  nx : Nat
  j : Nat

theorem refdepths_c (s : SP) (hs : InP s) (f : Nat) (hf : f < s.funcs.length) : Contract Try.prog 22 [spA s, I f] (fun r => ∃ dl ok, r = .tup [ints dl, B ok] ∧ DepthsR s f dl ok) := by
  refine Contract.of_call (VCall.of_body hmix f_scref20_Depths (by simp) ?_)
  have hfn : s.funcs.getD f default = s.fn f := rfl
  have hcl := hs.code f
  have hfl := hs.fn
  have hmx : (3000000 : Nat) ≤ maxLen := by decide
  by_cases hc : (s.fn f).code = []
  · have hc0 : ((s.fn f).code.length : Int) = 0 := by rw [hc]; rfl
    simp only [go_sem,Nat.reduceEqDiff,Nat.reduceAdd,Nat.reduceMul,↓reduceIte,↓dreduceIte,reduceCtorEq,Nat.reduceLeDiff,Nat.reduceLT,Nat.reduceSub,Int.reduceToNat,Int.reduceLE,Int.reduceLT, c_scref20_Depths, hfn, one_imm, eq_false (show ¬ (f : Int) < 0 by omega), eq_false (show ¬ (s.funcs.length : Int) ≤ (f : Int) by omega), eq_true hc0]
    repeat (refine And.intro (by omega) ?_)
    exact ⟨_, frzT_nil, [], false, rfl, depths_no fun out ho => ho.ne hc⟩
  obtain ⟨code, hcode⟩ : ∃ code, (s.fn f).code = code := ⟨_, rfl⟩
  have hpos : 0 < (s.fn f).code.length := by
    cases h : (s.fn f).code with
    | nil => exact absurd h hc
    | cons a l => simp
  have hn0 : ¬ ((s.fn f).code.length : Int) = 0 := by omega
  simp only [go_sem,Nat.reduceEqDiff,Nat.reduceAdd,Nat.reduceMul,↓reduceIte,↓dreduceIte,reduceCtorEq,Nat.reduceLeDiff,Nat.reduceLT,Nat.reduceSub,Int.reduceToNat,Int.reduceLE,Int.reduceLT, c_scref20_Depths, hfn, one_imm, eq_false (show ¬ (f : Int) < 0 by omega), eq_false (show ¬ (s.funcs.length : Int) ≤ (f : Int) by omega), eq_false hn0]
  repeat (refine And.intro (by omega) ?_)
  rw [flat_rep]
  refine VW_loop (fun i : Nat => ⟨[(1, I f), (2, .ptr 0 0 0), (6, .imm 4 ((s.fn f).code.map siA)), (7, .ref 1 1 0 (s.fn f).code.length), (8, I i)],
      [⟨0, 24, 1, [I s.words, fnsA s.funcs]⟩, ⟨1, 3, 1, (List.replicate i (-1 : Int) ++ List.replicate ((s.fn f).code.length - i) 0).map I⟩], 2⟩)
    (fun i => i ≤ (s.fn f).code.length) (fun i => (s.fn f).code.length - i) 0 (Wk.mk (by simp [get_cons]) ⟨[], ?_⟩ (Nat.le_refl _)) (Nat.zero_le _) ?_
  · simp
  intro i hi
  by_cases hil : (i : Int) < ((s.fn f).code.length : Int)
  · have e1 : IntKind.i64.wrap ((i : Int) + 1) = ((i + 1 : Nat) : Int) := by rw [i64_in (by omega) (by omega)]; omega
    have hset := fill_set (s.fn f).code.length i (by omega)
    simp only [go_sem,Nat.reduceEqDiff,Nat.reduceAdd,Nat.reduceMul,↓reduceIte,↓dreduceIte,reduceCtorEq,Nat.reduceLeDiff,Nat.reduceLT,Nat.reduceSub,Int.reduceToNat,Int.reduceLE,Int.reduceLT, eq_true hil, e1, hset]
    repeat (refine And.intro (by first | omega | (simp; omega)) ?_)
    exact ⟨i + 1, by omega, by omega, Wk.mk (by simp [get_cons]) ⟨[], (List.append_nil _).symm⟩ (Nat.le_refl _)⟩
  obtain rfl : i = (s.fn f).code.length := by omega
  have hset0 : (List.map I (List.replicate (s.fn f).code.length (-1 : Int) ++ List.replicate ((s.fn f).code.length - (s.fn f).code.length) 0)).set 0 (I 0) = ((List.replicate (s.fn f).code.length (-1 : Int)).set 0 0).map I := by
    rw [Nat.sub_self, List.replicate_zero, List.append_nil, set_map I]
  simp only [go_sem,Nat.reduceEqDiff,Nat.reduceAdd,Nat.reduceMul,↓reduceIte,↓dreduceIte,reduceCtorEq,Nat.reduceLeDiff,Nat.reduceLT,Nat.reduceSub,Int.reduceToNat,Int.reduceLE,Int.reduceLT, eq_false hil, hset0]
  repeat (refine And.intro (by first | omega | (simp; omega)) ?_)
  refine VW_loop (fun q : DQ => ⟨[(1, I f), (2, .ptr 0 0 0), (6, .imm 4 ((s.fn f).code.map siA)), (7, .ref 1 1 0 (s.fn f).code.length), (9, .ref 2 q.st q.off q.tl.length)],
      ⟨0, 24, 1, [I s.words, fnsA s.funcs]⟩ :: ⟨1, 3, 1, q.dl.map I⟩ :: ⟨q.st, 3, 1, q.pre ++ tdA q.tl⟩ :: q.T, q.nx⟩)
    (fun q => WL s f q.dl q.tl none ∧ q.pre.length = q.off ∧ 2 * negs q.dl + q.tl.length ≤ 2 * (s.fn f).code.length + 1) (fun q => 2 * negs q.dl + q.tl.length)
    ⟨(List.replicate (s.fn f).code.length (-1 : Int)).set 0 0, [0], 0, 2, [], [], 3, 0⟩ (Wk.mk (by simp [get_cons]) ⟨[], rfl⟩ (Nat.le_refl _)) ⟨WL.start hc, rfl, by have := negs_le ((List.replicate (s.fn f).code.length (-1 : Int)).set 0 0); simp at this ⊢; omega⟩ ?_
  rintro ⟨dl0, tl0, off0, st0, pre0, T0, nx0, j0⟩ ⟨hwl, hpre, hmu⟩
  simp only at hwl hpre hmu ⊢
  cases tl0 with
  | nil =>
    have hll : (s.fn f).code.length = dl0.length := hwl.len.symm
    simp only [go_sem,Nat.reduceEqDiff,Nat.reduceAdd,Nat.reduceMul,↓reduceIte,↓dreduceIte,reduceCtorEq,Nat.reduceLeDiff,Nat.reduceLT,Nat.reduceSub,Int.reduceToNat,Int.reduceLE,Int.reduceLT, one_ref, one_imm, Int.reduceLT, Int.reduceEq, Int.reduceBEq, eq_false (show ¬ (0 : Int) < ((0 : Nat) : Int) by decide)]
    rw [hll]
    exact ⟨_, Frz.tup ⟨_, _, rfl, frz_ints (l := dl0) (Nat.zero_le _) rfl rfl, _, _, rfl, Frz.pure rfl, rfl⟩, dl0, true, rfl, fun _ => ⟨hwl.sol, fun i => by have := hwl.bound i; omega⟩, fun out ho => ⟨rfl, hwl.sub out ho⟩⟩
  | cons k rest =>
    obtain ⟨hk1, hk2⟩ := hwl.td k (by simp)
    have hbd := hwl.bound k
    have hdlen := hwl.len
    have hin : (s.fn f).code.getD k default = s.ins f k := rfl
    obtain ⟨x, hx⟩ : ∃ x, s.ins f k = x := ⟨_, rfl⟩
    have hxc : (s.fn f).code.getD k default = x := hx
    rw [hx] at hin
    have hgk : dl0.getD k default = dl0.getD k (-1) := getD_dm hk1
    obtain ⟨d, hd⟩ : ∃ d, dl0.getD k (-1) = d := ⟨_, rfl⟩
    rw [hd] at hgk hk2 hbd
    have hpos2 : (0 : Int) < ((k :: rest).length : Int) := by simp only [List.length_cons]; omega
    have hpos3 : (0 : Int) < (rest.length : Int) + 1 := by omega
    have hone : pre0 ++ tdA (k :: rest) = (pre0 ++ [I k]) ++ tdA rest := by simp [tdA]
    have hcellk : ∀ {C : AV → Prop}, cellT (pre0 ++ tdA (k :: rest)) off0 false 1 C .mk = C (I k) := td_cell hpre
    simp only [go_sem,Nat.reduceEqDiff,Nat.reduceAdd,Nat.reduceMul,↓reduceIte,↓dreduceIte,reduceCtorEq,Nat.reduceLeDiff,Nat.reduceLT,Nat.reduceSub,Int.reduceToNat,Int.reduceLE,Int.reduceLT, one_ref, one_imm, Int.reduceLT, Int.reduceEq, Int.reduceBEq, List.length_cons, Int.natCast_add, Int.cast_ofNat_Int, eq_true hpos3, hcellk, hin]
    repeat (refine And.intro (by first | omega | (simp; done) | (simp; omega)) ?_)
    refine VCall.of_contract (takes_c s f hf x) (SleL.pure rfl) fun r hr => ?_
    subst hr
    refine ⟨Stab.refl _ _ _, ?_⟩
    cases htk : tkS s f x with
    | none =>
      simp only [go_sem,Nat.reduceEqDiff,Nat.reduceAdd,Nat.reduceMul,↓reduceIte,↓dreduceIte,reduceCtorEq,Nat.reduceLeDiff,Nat.reduceLT,Nat.reduceSub,Int.reduceToNat,Int.reduceLE,Int.reduceLT, one_ref, one_imm, Int.reduceLT, Int.reduceEq, Int.reduceBEq, hin, cellT_I', hgk]
      repeat (refine And.intro (by omega) ?_)
      exact ⟨_, frzT_nil, [], false, rfl, depths_no (hwl.fail (k := k) (by simp) (by rw [hxc, effD, htk]))⟩
    | some tp =>
      obtain ⟨t, p⟩ := tp
      obtain ⟨hp0, hp1⟩ := tkS_p htk
      by_cases c1 : t < 0
      · simp only [go_sem,Nat.reduceEqDiff,Nat.reduceAdd,Nat.reduceMul,↓reduceIte,↓dreduceIte,reduceCtorEq,Nat.reduceLeDiff,Nat.reduceLT,Nat.reduceSub,Int.reduceToNat,Int.reduceLE,Int.reduceLT, one_ref, one_imm, Int.reduceLT, Int.reduceEq, Int.reduceBEq, hin, cellT_I', hgk, eq_true c1]
        repeat (refine And.intro (by omega) ?_)
        exact ⟨_, frzT_nil, [], false, rfl, depths_no (hwl.fail (k := k) (by simp) (by rw [hxc, effD, htk]; simp [c1]))⟩
      by_cases c2 : d < t
      · simp only [go_sem,Nat.reduceEqDiff,Nat.reduceAdd,Nat.reduceMul,↓reduceIte,↓dreduceIte,reduceCtorEq,Nat.reduceLeDiff,Nat.reduceLT,Nat.reduceSub,Int.reduceToNat,Int.reduceLE,Int.reduceLT, one_ref, one_imm, Int.reduceLT, Int.reduceEq, Int.reduceBEq, hin, cellT_I', hgk, eq_false c1, eq_true c2]
        repeat (refine And.intro (by omega) ?_)
        exact ⟨_, frzT_nil, [], false, rfl, depths_no (hwl.fail (k := k) (by simp) (by rw [hxc, effD, htk, hd]; simp [c2]))⟩
      by_cases c3 : x.op = 11 ∧ d ≠ t
      · obtain ⟨c4, c5⟩ := c3
        simp only [go_sem,Nat.reduceEqDiff,Nat.reduceAdd,Nat.reduceMul,↓reduceIte,↓dreduceIte,reduceCtorEq,Nat.reduceLeDiff,Nat.reduceLT,Nat.reduceSub,Int.reduceToNat,Int.reduceLE,Int.reduceLT, one_ref, one_imm, Int.reduceLT, Int.reduceEq, Int.reduceBEq, hin, cellT_I', hgk, eq_false c1, eq_false c2, eq_true c4, eq_false c5]
        repeat (refine And.intro (by first | omega | (simp; done)) ?_)
        exact ⟨_, frzT_nil, [], false, rfl, depths_no (hwl.fail (k := k) (by simp) (by rw [hxc, effD, htk, hd]; simp [c4, c5]))⟩
      have heff : effD s f x d = some (d - t + p) := by rw [effD, htk]; simp only; rw [if_neg (by intro h; rcases h with h | h | h; exact c1 h; exact c2 h; exact c3 h)]
      have hwl1 : WL s f dl0 rest (some (k, d - t + p, 0)) := hwl.take (by simp) (fun t ht => by simpa using ht) (fun t ht => by simp [ht]) (by rw [hxc, hd]; exact heff)
      have e1 : IntKind.i64.wrap (d - t) = d - t := i64_in (by omega) (by omega)
      have e2 : IntKind.i64.wrap (d - t + p) = d - t + p := i64_in (by omega) (by omega)
      have hkk : k ≤ 1000000 := by omega
      have h11 : (x.op = 11 ∧ d = t) ∨ ¬ x.op = 11 := by
        by_cases c4 : x.op = 11
        · exact .inl ⟨c4, Classical.byContradiction fun h => c3 ⟨c4, h⟩⟩
        · exact .inr c4
      rcases h11 with ⟨c4, c5⟩ | c4
      · simp only [go_sem,Nat.reduceEqDiff,Nat.reduceAdd,Nat.reduceMul,↓reduceIte,↓dreduceIte,reduceCtorEq,Nat.reduceLeDiff,Nat.reduceLT,Nat.reduceSub,Int.reduceToNat,Int.reduceLE,Int.reduceLT, one_ref, one_imm, Int.reduceLT, Int.reduceEq, Int.reduceBEq, hin, cellT_I', hgk, eq_false c1, eq_false c2, eq_true c4, eq_true c5]
        repeat (refine And.intro (by first | omega | (simp; done)) ?_)
        rw [hone]
        refine VCall.of_contract (nextR_c x k hkk) (SleL.pure rfl) fun r hr => ?_
        subst hr
        simp only [go_sem,Nat.reduceEqDiff,Nat.reduceAdd,Nat.reduceMul,↓reduceIte,↓dreduceIte,reduceCtorEq,Nat.reduceLeDiff,Nat.reduceLT,Nat.reduceSub,Int.reduceToNat,Int.reduceLE,Int.reduceLT, one_ref, one_imm, Int.reduceLT, Int.reduceEq, Int.reduceBEq, e1, e2]
        refine VW_loop (fun q : DQ => ⟨[(1, I f), (2, .ptr 0 0 0), (6, .imm 4 ((s.fn f).code.map siA)), (7, .ref 1 1 0 (s.fn f).code.length), (9, .ref 2 q.st q.off q.tl.length), (10, I k), (14, I (d - t + p)), (15, ints (nextL x k)), (16, I q.j)],
            ⟨0, 24, 1, [I s.words, fnsA s.funcs]⟩ :: ⟨1, 3, 1, q.dl.map I⟩ :: ⟨q.st, 3, 1, q.pre ++ tdA q.tl⟩ :: q.T, q.nx⟩)
          (fun q => WL s f q.dl q.tl (some (k, d - t + p, q.j)) ∧ q.pre.length = q.off ∧ q.j ≤ (nextL x k).length ∧ 2 * negs q.dl + q.tl.length + 1 ≤ 2 * negs dl0 + (k :: rest).length) (fun q => (nextL x k).length - q.j)
          ⟨dl0, rest, off0 + 1, st0, pre0 ++ [I k], T0, nx0, 0⟩ (Wk.mk (by simp [get_cons]) ⟨[], (List.append_nil _).symm⟩ (Nat.le_refl _)) ⟨hwl1, by simp [hpre], Nat.zero_le _, by simp only [List.length_cons]; omega⟩ ?_
        rintro ⟨dl, tl, off, st, pre, T, nx, j⟩ ⟨u1, u2, u3, u4⟩
        simp only at u1 u2 u3 u4 ⊢
        have u5 := u1.len
        by_cases hj : (j : Int) < ((nextL x k).length : Int)
        · have hj' : j < (nextL ((s.fn f).code.getD k default) k).length := by rw [hxc]; omega
          have hnl := nextL_len x k
          obtain ⟨y, hy⟩ : ∃ y, (nextL x k).getD j default = y := ⟨_, rfl⟩
          have hy' : (nextL ((s.fn f).code.getD k default) k).getD j default = y := by rw [hxc]; exact hy
          have e3 : IntKind.i64.wrap ((j : Int) + 1) = ((j + 1 : Nat) : Int) := by rw [i64_in (by omega) (by omega)]; omega
          by_cases y1 : y < 0
          · simp only [go_sem,Nat.reduceEqDiff,Nat.reduceAdd,Nat.reduceMul,↓reduceIte,↓dreduceIte,reduceCtorEq,Nat.reduceLeDiff,Nat.reduceLT,Nat.reduceSub,Int.reduceToNat,Int.reduceLE,Int.reduceLT, one_ref, one_imm, Int.reduceLT, Int.reduceEq, Int.reduceBEq, eq_true hj, hy, eq_true y1]
            repeat (refine And.intro (by first | omega | (simp; done)) ?_)
            exact ⟨_, frzT_nil, [], false, rfl, depths_no (u1.fail2 hj' (.inl (by rw [hy']; exact y1)))⟩
          by_cases y2 : ((s.fn f).code.length : Int) ≤ y
          · simp only [go_sem,Nat.reduceEqDiff,Nat.reduceAdd,Nat.reduceMul,↓reduceIte,↓dreduceIte,reduceCtorEq,Nat.reduceLeDiff,Nat.reduceLT,Nat.reduceSub,Int.reduceToNat,Int.reduceLE,Int.reduceLT, one_ref, one_imm, Int.reduceLT, Int.reduceEq, Int.reduceBEq, eq_true hj, hy, eq_false y1, eq_true y2]
            repeat (refine And.intro (by first | omega | (simp; done)) ?_)
            exact ⟨_, frzT_nil, [], false, rfl, depths_no (u1.fail2 hj' (.inr (.inl (by rw [hy']; exact y2))))⟩
          have hyl : y.toNat < dl.length := by omega
          have hgy : dl.getD y.toNat default = dl.getD y.toNat (-1) := getD_dm hyl
          obtain ⟨dy, hdy⟩ : ∃ dy, dl.getD y.toNat (-1) = dy := ⟨_, rfl⟩
          rw [hdy] at hgy
          by_cases y3 : 0 ≤ dy
          · by_cases y4 : dy = d - t + p
            · simp only [go_sem,Nat.reduceEqDiff,Nat.reduceAdd,Nat.reduceMul,↓reduceIte,↓dreduceIte,reduceCtorEq,Nat.reduceLeDiff,Nat.reduceLT,Nat.reduceSub,Int.reduceToNat,Int.reduceLE,Int.reduceLT, one_ref, one_imm, Int.reduceLT, Int.reduceEq, Int.reduceBEq, eq_true hj, hy, eq_false y1, eq_false y2, cellT_I', hgy, eq_true y3, eq_true y4, eq_false (show ¬ dy < 0 by omega), e3]
              repeat (refine And.intro (by first | omega | (simp; done)) ?_)
              exact ⟨⟨dl, tl, off, st, pre, T, nx, j + 1⟩, ⟨u1.known hj' (by rw [hy']; omega) (by rw [hy']; omega) (by rw [hy', hdy]; exact y4), u2, by simp only; omega, u4⟩, by simp only; omega, Wk.mk (by simp [get_cons]) ⟨[], (List.append_nil _).symm⟩ (Nat.le_refl _)⟩
            · simp only [go_sem,Nat.reduceEqDiff,Nat.reduceAdd,Nat.reduceMul,↓reduceIte,↓dreduceIte,reduceCtorEq,Nat.reduceLeDiff,Nat.reduceLT,Nat.reduceSub,Int.reduceToNat,Int.reduceLE,Int.reduceLT, one_ref, one_imm, Int.reduceLT, Int.reduceEq, Int.reduceBEq, eq_true hj, hy, eq_false y1, eq_false y2, cellT_I', hgy, eq_true y3, eq_false y4]
              repeat (refine And.intro (by first | omega | (simp; done)) ?_)
              exact ⟨_, frzT_nil, [], false, rfl, depths_no (u1.fail2 hj' (.inr (.inr ⟨by rw [hy', hdy]; exact y3, by rw [hy', hdy]; exact y4⟩)))⟩
          · have hset : (dl.map I).set y.toNat (I (d - t + p)) = (dl.set y.toNat (d - t + p)).map I := set_map I _ _ _
            have htl : tl.length ≤ 2000001 := by simp only [List.length_cons] at u4 hmu; omega
            simp only [go_sem,Nat.reduceEqDiff,Nat.reduceAdd,Nat.reduceMul,↓reduceIte,↓dreduceIte,reduceCtorEq,Nat.reduceLeDiff,Nat.reduceLT,Nat.reduceSub,Int.reduceToNat,Int.reduceLE,Int.reduceLT, one_ref, one_imm, Int.reduceLT, Int.reduceEq, Int.reduceBEq, eq_true hj, hy, eq_false y1, eq_false y2, cellT_I', hgy, eq_false y3, eq_true (show dy < 0 by omega), e3, hset, ponx, pg0]
            repeat (refine And.intro (by first | omega | (simp; done)) ?_)
            rw [td_drop u2, td_take]
            have hlt : negs (dl.set y.toNat (d - t + p)) + 1 = negs dl := negs_set hyl (by rw [hdy]; omega) (by have := (effD_bound heff).1; exact this)
            have hyn : y = ((y.toNat : Nat) : Int) := by omega
            have h9 : tdA tl ++ [I y] = [] ++ tdA (tl ++ [y.toNat]) := by rw [hyn]; simp [tdA]
            rw [h9]
            have hw9 := u1.fresh (todo' := tl ++ [y.toNat]) hj' (by rw [hy']; omega) (by rw [hy']; omega) (by rw [hy', hdy]; omega) (fun t => by rw [hy']; simp [or_comm])
            rw [hy'] at hw9
            exact ⟨⟨dl.set y.toNat (d - t + p), tl ++ [y.toNat], 0, _, [], _, _, j + 1⟩, ⟨hw9, rfl, by simp only; omega, by simp only [List.length_append, List.length_singleton, List.length_cons, List.length_nil] at u4 ⊢; omega⟩, by simp only; omega, Wk.mk (by simp [get_cons]) ⟨[], (List.append_nil _).symm⟩ (Nat.le_refl _)⟩
        · simp only [go_sem,Nat.reduceEqDiff,Nat.reduceAdd,Nat.reduceMul,↓reduceIte,↓dreduceIte,reduceCtorEq,Nat.reduceLeDiff,Nat.reduceLT,Nat.reduceSub,Int.reduceToNat,Int.reduceLE,Int.reduceLT, one_ref, one_imm, Int.reduceLT, Int.reduceEq, Int.reduceBEq, eq_false hj]
          refine ⟨⟨dl, tl, off, st, pre, T, nx, 0⟩, ⟨u1.done (by rw [hxc]; omega), u2, by simp only [List.length_cons] at u4 hmu; simp only; omega⟩, by simp only [List.length_cons] at u4 ⊢; omega, Wk.mk (by simp [get_cons]) ⟨[], (List.append_nil _).symm⟩ (Nat.le_refl _)⟩
      · simp only [go_sem,Nat.reduceEqDiff,Nat.reduceAdd,Nat.reduceMul,↓reduceIte,↓dreduceIte,reduceCtorEq,Nat.reduceLeDiff,Nat.reduceLT,Nat.reduceSub,Int.reduceToNat,Int.reduceLE,Int.reduceLT, one_ref, one_imm, Int.reduceLT, Int.reduceEq, Int.reduceBEq, hin, cellT_I', hgk, eq_false c1, eq_false c2, eq_false c4]
        repeat (refine And.intro (by first | omega | (simp; done)) ?_)
        rw [hone]
        refine VCall.of_contract (nextR_c x k hkk) (SleL.pure rfl) fun r hr => ?_
        subst hr
        simp only [go_sem,Nat.reduceEqDiff,Nat.reduceAdd,Nat.reduceMul,↓reduceIte,↓dreduceIte,reduceCtorEq,Nat.reduceLeDiff,Nat.reduceLT,Nat.reduceSub,Int.reduceToNat,Int.reduceLE,Int.reduceLT, one_ref, one_imm, Int.reduceLT, Int.reduceEq, Int.reduceBEq, e1, e2]
        refine VW_loop (fun q : DQ => ⟨[(1, I f), (2, .ptr 0 0 0), (6, .imm 4 ((s.fn f).code.map siA)), (7, .ref 1 1 0 (s.fn f).code.length), (9, .ref 2 q.st q.off q.tl.length), (10, I k), (14, I (d - t + p)), (15, ints (nextL x k)), (16, I q.j)],
            ⟨0, 24, 1, [I s.words, fnsA s.funcs]⟩ :: ⟨1, 3, 1, q.dl.map I⟩ :: ⟨q.st, 3, 1, q.pre ++ tdA q.tl⟩ :: q.T, q.nx⟩)
          (fun q => WL s f q.dl q.tl (some (k, d - t + p, q.j)) ∧ q.pre.length = q.off ∧ q.j ≤ (nextL x k).length ∧ 2 * negs q.dl + q.tl.length + 1 ≤ 2 * negs dl0 + (k :: rest).length) (fun q => (nextL x k).length - q.j)
          ⟨dl0, rest, off0 + 1, st0, pre0 ++ [I k], T0, nx0, 0⟩ (Wk.mk (by simp [get_cons]) ⟨[], (List.append_nil _).symm⟩ (Nat.le_refl _)) ⟨hwl1, by simp [hpre], Nat.zero_le _, by simp only [List.length_cons]; omega⟩ ?_
        rintro ⟨dl, tl, off, st, pre, T, nx, j⟩ ⟨u1, u2, u3, u4⟩
        simp only at u1 u2 u3 u4 ⊢
        have u5 := u1.len
        by_cases hj : (j : Int) < ((nextL x k).length : Int)
        · have hj' : j < (nextL ((s.fn f).code.getD k default) k).length := by rw [hxc]; omega
          have hnl := nextL_len x k
          obtain ⟨y, hy⟩ : ∃ y, (nextL x k).getD j default = y := ⟨_, rfl⟩
          have hy' : (nextL ((s.fn f).code.getD k default) k).getD j default = y := by rw [hxc]; exact hy
          have e3 : IntKind.i64.wrap ((j : Int) + 1) = ((j + 1 : Nat) : Int) := by rw [i64_in (by omega) (by omega)]; omega
          by_cases y1 : y < 0
          · simp only [go_sem,Nat.reduceEqDiff,Nat.reduceAdd,Nat.reduceMul,↓reduceIte,↓dreduceIte,reduceCtorEq,Nat.reduceLeDiff,Nat.reduceLT,Nat.reduceSub,Int.reduceToNat,Int.reduceLE,Int.reduceLT, one_ref, one_imm, Int.reduceLT, Int.reduceEq, Int.reduceBEq, eq_true hj, hy, eq_true y1]
            repeat (refine And.intro (by first | omega | (simp; done)) ?_)
            exact ⟨_, frzT_nil, [], false, rfl, depths_no (u1.fail2 hj' (.inl (by rw [hy']; exact y1)))⟩
          by_cases y2 : ((s.fn f).code.length : Int) ≤ y
          · simp only [go_sem,Nat.reduceEqDiff,Nat.reduceAdd,Nat.reduceMul,↓reduceIte,↓dreduceIte,reduceCtorEq,Nat.reduceLeDiff,Nat.reduceLT,Nat.reduceSub,Int.reduceToNat,Int.reduceLE,Int.reduceLT, one_ref, one_imm, Int.reduceLT, Int.reduceEq, Int.reduceBEq, eq_true hj, hy, eq_false y1, eq_true y2]
            repeat (refine And.intro (by first | omega | (simp; done)) ?_)
            exact ⟨_, frzT_nil, [], false, rfl, depths_no (u1.fail2 hj' (.inr (.inl (by rw [hy']; exact y2))))⟩
          have hyl : y.toNat < dl.length := by omega
          have hgy : dl.getD y.toNat default = dl.getD y.toNat (-1) := getD_dm hyl
          obtain ⟨dy, hdy⟩ : ∃ dy, dl.getD y.toNat (-1) = dy := ⟨_, rfl⟩
          rw [hdy] at hgy
          by_cases y3 : 0 ≤ dy
          · by_cases y4 : dy = d - t + p
            · simp only [go_sem,Nat.reduceEqDiff,Nat.reduceAdd,Nat.reduceMul,↓reduceIte,↓dreduceIte,reduceCtorEq,Nat.reduceLeDiff,Nat.reduceLT,Nat.reduceSub,Int.reduceToNat,Int.reduceLE,Int.reduceLT, one_ref, one_imm, Int.reduceLT, Int.reduceEq, Int.reduceBEq, eq_true hj, hy, eq_false y1, eq_false y2, cellT_I', hgy, eq_true y3, eq_true y4, eq_false (show ¬ dy < 0 by omega), e3]
              repeat (refine And.intro (by first | omega | (simp; done)) ?_)
              exact ⟨⟨dl, tl, off, st, pre, T, nx, j + 1⟩, ⟨u1.known hj' (by rw [hy']; omega) (by rw [hy']; omega) (by rw [hy', hdy]; exact y4), u2, by simp only; omega, u4⟩, by simp only; omega, Wk.mk (by simp [get_cons]) ⟨[], (List.append_nil _).symm⟩ (Nat.le_refl _)⟩
            · simp only [go_sem,Nat.reduceEqDiff,Nat.reduceAdd,Nat.reduceMul,↓reduceIte,↓dreduceIte,reduceCtorEq,Nat.reduceLeDiff,Nat.reduceLT,Nat.reduceSub,Int.reduceToNat,Int.reduceLE,Int.reduceLT, one_ref, one_imm, Int.reduceLT, Int.reduceEq, Int.reduceBEq, eq_true hj, hy, eq_false y1, eq_false y2, cellT_I', hgy, eq_true y3, eq_false y4]
              repeat (refine And.intro (by first | omega | (simp; done)) ?_)
              exact ⟨_, frzT_nil, [], false, rfl, depths_no (u1.fail2 hj' (.inr (.inr ⟨by rw [hy', hdy]; exact y3, by rw [hy', hdy]; exact y4⟩)))⟩
          · have hset : (dl.map I).set y.toNat (I (d - t + p)) = (dl.set y.toNat (d - t + p)).map I := set_map I _ _ _
            have htl : tl.length ≤ 2000001 := by simp only [List.length_cons] at u4 hmu; omega
            simp only [go_sem,Nat.reduceEqDiff,Nat.reduceAdd,Nat.reduceMul,↓reduceIte,↓dreduceIte,reduceCtorEq,Nat.reduceLeDiff,Nat.reduceLT,Nat.reduceSub,Int.reduceToNat,Int.reduceLE,Int.reduceLT, one_ref, one_imm, Int.reduceLT, Int.reduceEq, Int.reduceBEq, eq_true hj, hy, eq_false y1, eq_false y2, cellT_I', hgy, eq_false y3, eq_true (show dy < 0 by omega), e3, hset, ponx, pg0]
            repeat (refine And.intro (by first | omega | (simp; done)) ?_)
            rw [td_drop u2, td_take]
            have hlt : negs (dl.set y.toNat (d - t + p)) + 1 = negs dl := negs_set hyl (by rw [hdy]; omega) (by have := (effD_bound heff).1; exact this)
            have hyn : y = ((y.toNat : Nat) : Int) := by omega
            have h9 : tdA tl ++ [I y] = [] ++ tdA (tl ++ [y.toNat]) := by rw [hyn]; simp [tdA]
            rw [h9]
            have hw9 := u1.fresh (todo' := tl ++ [y.toNat]) hj' (by rw [hy']; omega) (by rw [hy']; omega) (by rw [hy', hdy]; omega) (fun t => by rw [hy']; simp [or_comm])
            rw [hy'] at hw9
            exact ⟨⟨dl.set y.toNat (d - t + p), tl ++ [y.toNat], 0, _, [], _, _, j + 1⟩, ⟨hw9, rfl, by simp only; omega, by simp only [List.length_append, List.length_singleton, List.length_cons, List.length_nil] at u4 ⊢; omega⟩, by simp only; omega, Wk.mk (by simp [get_cons]) ⟨[], (List.append_nil _).symm⟩ (Nat.le_refl _)⟩
        · simp only [go_sem,Nat.reduceEqDiff,Nat.reduceAdd,Nat.reduceMul,↓reduceIte,↓dreduceIte,reduceCtorEq,Nat.reduceLeDiff,Nat.reduceLT,Nat.reduceSub,Int.reduceToNat,Int.reduceLE,Int.reduceLT, one_ref, one_imm, Int.reduceLT, Int.reduceEq, Int.reduceBEq, eq_false hj]
          refine ⟨⟨dl, tl, off, st, pre, T, nx, 0⟩, ⟨u1.done (by rw [hxc]; omega), u2, by simp only [List.length_cons] at u4 hmu; simp only; omega⟩, by simp only [List.length_cons] at u4 ⊢; omega, Wk.mk (by simp [get_cons]) ⟨[], (List.append_nil _).symm⟩ (Nat.le_refl _)⟩
end Go.Proofs.Ytdfdkoajphcjbaa
