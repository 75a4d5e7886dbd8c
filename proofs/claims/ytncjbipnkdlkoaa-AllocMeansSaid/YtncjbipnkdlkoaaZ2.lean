/-
  Places by numbers of their own, and how many that matter stand at each, plainly. No condition. The document's allocations: how many words; may places be; apart; at an instruction: contracts; the same of the program's own words. No condition. The document's allocations: does one hold: contract. No condition. The program's check of an allocation: its watch: contracts. No condition. The program's check of an allocation: a block: contract. No condition. The allocation's clashes: contract. No condition. The allocation's clashes: the walk: contract. No condition. The program's allocation, plainly: places one by one, none that clashes has the same. No condition. The program's allocation: a free place; Of: contract. No condition. The program's allocation: Of: contract. No condition. The engine: programs of the call's own, given to functions that answer with values. No condition. Own literals, frozen between statements: instructions, blocks, rows. No condition. A table that is built row by row: its objects. No condition. Allocations: which functions are small; the table by which all matters: contracts. No condition. Allocations: the table by which all matters: contract. No condition.
-/
import Derived.Test.YtncjbipnkdlkoaaZ1
import Derived.Test.YtncjbipnkdlkoaaUH
import Derived.Test.YtncjbipnkdlkoaaUC
import Derived.Test.YtncjbipnkdlkoaaUY
set_option linter.unusedVariables false
set_option linter.unusedSimpArgs false
namespace Go.Proofs.Ytncjbipnkdlkoaa
set_option linter.unusedSimpArgs false
set_option linter.unusedVariables false
open Go.V
def mapC : List Int → Nat → List AV
  | [], _ => []
  | k :: ks, s => I k :: I ((s : Nat) : Int) :: mapC ks (s + 1)
theorem mapC_len : ∀ (ks : List Int) (s : Nat), (mapC ks s).length = 2 * ks.length
  | [], _ => rfl
  | k :: ks, s => by simp only [mapC, List.length_cons, mapC_len ks]; omega
theorem look_mapC {p : Int} {C : Option AV → Prop} : ∀ (ks : List Int) (s : Nat), lookW (.int .i64 p) (mapC ks s) C = (if p ∈ ks then C (some (I ((s + ks.idxOf p : Nat) : Int))) else C none)
  | [], s => by simp [mapC, lookW]
  | k :: ks, s => by
    simp only [mapC, lookW]
    rw [look_mapC ks (s + 1)]
    by_cases h : p = k
    · subst h; simp
    · have h' : ¬ k = p := fun e => h e.symm
      have e1 : (k :: ks).idxOf p = ks.idxOf p + 1 := by
        rw [List.idxOf_cons]
        have e0 : (k == p) = false := beq_false_of_ne h'
        rw [e0]; rfl
      simp only [h, h', e1, List.mem_cons, false_or, true_and, false_implies, ne_eq, not_false_eq_true, forall_const]
      rw [show s + 1 + ks.idxOf p = s + (ks.idxOf p + 1) by omega]
theorem lookT_mapC {p : Int} {ks : List Int} {s : Nat} {C : Option AV → Prop} : lookT (.int .i64 p) (mapC ks s) C .mk = (if p ∈ ks then C (some (I ((s + ks.idxOf p : Nat) : Int))) else C none) := look_mapC ks s
theorem upd_mapC {p : Int} : ∀ (ks : List Int) (s : Nat), p ∉ ks → updA (.int .i64 p) (I ((s + ks.length : Nat) : Int)) (mapC ks s) = mapC (ks ++ [p]) s
  | [], s, _ => by simp [mapC, updA]
  | k :: ks, s, h => by
    have h1 : ¬ p = k := fun e => h (by simp [e])
    simp only [mapC, updA, List.cons_append]
    rw [if_neg (by simpa using h1), List.length_cons, show s + (ks.length + 1) = s + 1 + ks.length by omega, upd_mapC ks (s + 1) (fun e => h (by simp [e]))]
theorem mapOK_mapC : ∀ (ks : List Int) (s : Nat), mapOK .i64 (mapC ks s)
  | [], _ => trivial
  | k :: ks, s => ⟨rfl, rfl, mapOK_mapC ks (s + 1)⟩
theorem head_mapC (ks : List Int) (s : Nat) (r : Loop) : (mapC ks s).head? ≠ some (.lp r) := by
  cases ks <;> simp [mapC]
def seenK (pl : List Int) : List Int := pl.foldl (fun ks p => if p ∈ ks then ks else ks ++ [p]) []
theorem seenK_take (pl : List Int) {k : Nat} (hk : k < pl.length) : seenK (pl.take (k + 1)) = if pl.getD k default ∈ seenK (pl.take k) then seenK (pl.take k) else seenK (pl.take k) ++ [pl.getD k default] := by
  unfold seenK
  rw [List.take_add_one, List.foldl_append]
  simp [List.getD, List.getElem?_eq_getElem hk]
theorem seenK_pre (pl : List Int) (k : Nat) : ∃ l, seenK pl = seenK (pl.take k) ++ l := by
  have key : ∀ (a b : List Int), ∃ l, b.foldl (fun ks p => if p ∈ ks then ks else ks ++ [p]) a = a ++ l := by
    intro a b
    induction b generalizing a with
    | nil => exact ⟨[], by simp⟩
    | cons q b ih =>
      rw [List.foldl_cons]
      obtain ⟨l, hl⟩ := ih (if q ∈ a then a else a ++ [q])
      rw [hl]
      split
      · exact ⟨l, rfl⟩
      · exact ⟨q :: l, by simp⟩
  have := key (seenK (pl.take k)) (pl.drop k)
  obtain ⟨l, hl⟩ := this
  refine ⟨l, ?_⟩
  rw [← hl]
  unfold seenK
  rw [← List.foldl_append, List.take_append_drop]
theorem seenK_len (pl : List Int) : (seenK pl).length ≤ pl.length := by
  have key : ∀ (b a : List Int), (b.foldl (fun ks p => if p ∈ ks then ks else ks ++ [p]) a).length ≤ a.length + b.length := by
    intro b
    induction b with
    | nil => intro a; simp
    | cons q b ih =>
      intro a
      rw [List.foldl_cons]
      refine Nat.le_trans (ih _) ?_
      split <;> simp <;> omega
  have := key pl []
  simp only [List.length_nil, Nat.zero_add] at this
  exact this
def idN (pl : List Int) (v : Nat) : Nat := (seenK pl).idxOf (gP pl v)
theorem mem_seen (pl : List Int) {v : Nat} (hv : v < pl.length) : pl.getD v default ∈ seenK (pl.take (v + 1)) := by
  rw [seenK_take pl hv]
  split
  · assumption
  · simp
theorem idN_lt (pl : List Int) {v : Nat} (hv : v < pl.length) : idN pl v < (seenK pl).length := by
  unfold idN
  refine List.idxOf_lt_length_of_mem ?_
  obtain ⟨l, hl⟩ := seenK_pre pl (v + 1)
  rw [hl]
  exact List.mem_append_left _ (mem_seen pl hv)
theorem idN_eq (pl : List Int) {u v : Nat} (hu : u < pl.length) (hv : v < pl.length) : idN pl u = idN pl v ↔ gP pl u = gP pl v := by
  refine ⟨fun h => ?_, fun h => by unfold idN; rw [h]⟩
  have hm : ∀ {w}, w < pl.length → gP pl w ∈ seenK pl := fun {w} hw => by
    obtain ⟨l, hl⟩ := seenK_pre pl (w + 1)
    rw [hl]
    exact List.mem_append_left _ (mem_seen pl hw)
  unfold idN at h
  have h1 := List.getElem_idxOf (List.idxOf_lt_length_of_mem (hm hu))
  have h2 := List.getElem_idxOf (List.idxOf_lt_length_of_mem (hm hv))
  rw [← h1, ← h2]
  simp only [h]
theorem idN_old (pl : List Int) {v : Nat} (hv : v < pl.length) (h : pl.getD v default ∈ seenK (pl.take v)) : (seenK (pl.take v)).idxOf (pl.getD v default) = idN pl v := by
  obtain ⟨l, hl⟩ := seenK_pre pl v
  unfold idN gP
  rw [hl, List.idxOf_append, if_pos h]
theorem idN_new (pl : List Int) {v : Nat} (hv : v < pl.length) (h : pl.getD v default ∉ seenK (pl.take v)) : (seenK (pl.take v)).length = idN pl v := by
  obtain ⟨l, hl⟩ := seenK_pre pl (v + 1)
  unfold idN gP
  have := seenK_take pl hv
  rw [if_neg h] at this
  rw [this] at hl
  rw [hl, List.append_assoc, List.idxOf_append, if_neg h]
  simp
theorem countP_set {p q : Nat → Bool} {v : Nat} : ∀ {n : Nat}, v < n → (∀ i < n, i ≠ v → p i = q i) → p v = false → q v = true → (List.range n).countP q = (List.range n).countP p + 1
  | 0, h, _, _, _ => absurd h (Nat.not_lt_zero v)
  | n + 1, h, hpq, hp, hq => by
    rw [List.range_succ, List.countP_append, List.countP_append]
    by_cases e : v = n
    · subst e
      have : (List.range v).countP q = (List.range v).countP p := List.countP_congr fun i hi => by
        have := List.mem_range.1 hi
        rw [hpq i (by omega) (by omega)]
      rw [this]; simp [hp, hq]
    · have ih := countP_set (n := n) (by omega) (fun i hi => hpq i (by omega)) hp hq
      rw [ih]
      simp only [List.countP_cons, List.countP_nil, hpq n (by omega) (fun e2 => e e2.symm)]
      omega
theorem countP_same {p q : Nat → Bool} {n : Nat} (h : ∀ i < n, p i = q i) : (List.range n).countP p = (List.range n).countP q := List.countP_congr fun i hi => by rw [h i (List.mem_range.1 hi)]
theorem countP_zero {p : Nat → Bool} {n : Nat} : (List.range n).countP p = 0 ↔ ∀ i < n, p i = false := by
  rw [List.countP_eq_zero]
  exact ⟨fun h i hi => by have := h i (List.mem_range.2 hi); simpa using this, fun h i hi => by rw [h i (List.mem_range.1 hi)]; decide⟩
def cntK (pl : List Int) (row : List Bool) (k : Nat) : Nat := (List.range row.length).countP fun v => gB row v && decide (idN pl v = k)
def cntG (pl : List Int) (row : List Bool) : Nat := (List.range row.length).countP fun v => gB row v && decide (0 < gP pl v)
def cntL' (pl : List Int) (row : List Bool) : List Int := (List.range (seenK pl).length).map fun k => (cntK pl row k : Int)
theorem cntK_add (pl : List Int) (row : List Bool) {v : Nat} (hv : v < row.length) (h : gB row v = false) (k : Nat) : cntK pl (row.set v true) k = cntK pl row k + if idN pl v = k then 1 else 0 := by
  unfold cntK
  rw [List.length_set]
  by_cases e : idN pl v = k
  · rw [if_pos e]
    refine countP_set hv (fun i hi hne => ?_) (by rw [h]; rfl) (by rw [gB_set _ _ _ _ hv, if_pos rfl, decide_eq_true e]; rfl)
    rw [gB_set _ _ _ _ hi, if_neg (fun e => hne e.symm)]
  · rw [if_neg e]
    refine countP_same fun i hi => ?_
    rw [gB_set _ _ _ _ hi]
    by_cases e2 : v = i
    · subst e2; rw [if_pos rfl, h, decide_eq_false e]; rfl
    · rw [if_neg e2]
theorem cntG_add (pl : List Int) (row : List Bool) {v : Nat} (hv : v < row.length) (h : gB row v = false) : cntG pl (row.set v true) = cntG pl row + if 0 < gP pl v then 1 else 0 := by
  unfold cntG
  rw [List.length_set]
  by_cases e : 0 < gP pl v
  · rw [if_pos e]
    refine countP_set hv (fun i hi hne => ?_) (by rw [h]; rfl) (by rw [gB_set _ _ _ _ hv, if_pos rfl, decide_eq_true e]; rfl)
    rw [gB_set _ _ _ _ hi, if_neg (fun e => hne e.symm)]
  · rw [if_neg e]
    refine countP_same fun i hi => ?_
    rw [gB_set _ _ _ _ hi]
    by_cases e2 : v = i
    · subst e2; rw [if_pos rfl, h, decide_eq_false e]; rfl
    · rw [if_neg e2]
theorem set_back {row : List Bool} {v : Nat} (hv : v < row.length) (h : gB row v = true) : (row.set v false).set v true = row := by
  rw [List.set_set]
  refine gB_ext (by simp) fun i hi => ?_
  rw [List.length_set] at hi
  rw [gB_set _ _ _ _ hi]
  split
  · rename_i e; subst e; rw [h]
  · rfl
theorem cntK_drop (pl : List Int) (row : List Bool) {v : Nat} (hv : v < row.length) (h : gB row v = true) (k : Nat) : cntK pl row k = cntK pl (row.set v false) k + if idN pl v = k then 1 else 0 := by
  have := cntK_add pl (row.set v false) (v := v) (by simpa using hv) (by rw [gB_set _ _ _ _ hv, if_pos rfl]) k
  rw [set_back hv h] at this
  exact this
theorem cntG_drop (pl : List Int) (row : List Bool) {v : Nat} (hv : v < row.length) (h : gB row v = true) : cntG pl row = cntG pl (row.set v false) + if 0 < gP pl v then 1 else 0 := by
  have := cntG_add pl (row.set v false) (v := v) (by simpa using hv) (by rw [gB_set _ _ _ _ hv, if_pos rfl])
  rw [set_back hv h] at this
  exact this
theorem cntL_len (pl : List Int) (row : List Bool) : (cntL' pl row).length = (seenK pl).length := by simp [cntL']
theorem cntL_get (pl : List Int) (row : List Bool) {k : Nat} (hk : k < (seenK pl).length) : (cntL' pl row).getD k default = cntK pl row k := by simp [cntL', List.getD, hk]
theorem cntL_set (pl : List Int) (row row' : List Bool) {v : Nat} (hv : v < pl.length) (x : Int) (h : ∀ k, (cntK pl row' k : Int) = if idN pl v = k then x else cntK pl row k) : (cntL' pl row).set (idN pl v) x = cntL' pl row' := by
  refine List.ext_getElem (by simp [cntL']) fun k h1 h2 => ?_
  rw [List.getElem_set]
  simp only [cntL', List.getElem_map, List.getElem_range]
  rw [h k]
theorem cnt_le (pl : List Int) (row : List Bool) (k : Nat) : cntK pl row k ≤ row.length ∧ cntG pl row ≤ row.length := by
  unfold cntK cntG
  constructor
  · exact Nat.le_trans List.countP_le_length (by simp)
  · exact Nat.le_trans List.countP_le_length (by simp)
theorem cntK_none (pl : List Int) (r k : Nat) : cntK pl (List.replicate r false) k = 0 ∧ cntG pl (List.replicate r false) = 0 := by
  unfold cntK cntG
  constructor <;> exact countP_zero.2 fun i hi => by rw [gB_rep]; rfl
end Go.Proofs.Ytncjbipnkdlkoaa
namespace Go.Proofs.Ytncjbipnkdlkoaa
set_option linter.unusedSimpArgs false
set_option linter.unusedVariables false
set_option maxRecDepth 10000
open Go.V
theorem rwords_c (pl : List Int) (hl : pl.length ≤ 140737488355328) : Contract Try.prog 17 [alA pl] (fun r => r = I (wdsI pl)) := by
  refine Contract.of_call (VCall.of_body hmix f_scref28_Words (by simp) ?_)
  simp only [go_sem,Nat.reduceEqDiff,Nat.reduceAdd,Nat.reduceMul,↓reduceIte,↓dreduceIte,reduceCtorEq,Nat.reduceLeDiff,Nat.reduceLT,Nat.reduceSub,Int.reduceToNat,Int.reduceLE,Int.reduceLT, c_scref28_Words, one_imm]
  refine VW_loop (fun k : Nat => ⟨[(1, .ptr 0 0 0), (3, I (wdsI (pl.take k))), (4, I k)], [⟨0, 33, 1, [ints pl]⟩], 1⟩) (fun k => k ≤ pl.length) (fun k => pl.length - k) 0 (Wk.mk (by simp [get_cons, wdsI]) ⟨[], rfl⟩ (Nat.le_refl _)) (Nat.zero_le _) ?_
  intro k hk
  by_cases h : k < pl.length
  · have hst := wdsI_take pl h
    generalize hp : pl.getD k default = p at hst
    by_cases h1 : p < 0
    · by_cases h2 : wdsI (pl.take k) < IntKind.i64.wrap (-p)
      · rw [if_pos ⟨h1, h2⟩] at hst
        simp only [go_sem,Nat.reduceEqDiff,Nat.reduceAdd,Nat.reduceMul,↓reduceIte,↓dreduceIte,reduceCtorEq,Nat.reduceLeDiff,Nat.reduceLT,Nat.reduceSub,Int.reduceToNat,Int.reduceLE,Int.reduceLT, one_imm, List.length_map, hp, Int.zero_sub, eq_true (show (k : Int) < pl.length by omega), eq_true h1, eq_true h2]
        repeat ((with_reducible refine And.intro ?_ ?_); · omega)
        rw [i64_in (n := (k : Int) + 1) (by omega) (by omega)]
        exact ⟨k + 1, by omega, by omega, Wk.mk (by simp [get_cons, hst]) ⟨[], rfl⟩ (Nat.le_refl _)⟩
      · rw [if_neg (fun e => h2 e.2)] at hst
        simp only [go_sem,Nat.reduceEqDiff,Nat.reduceAdd,Nat.reduceMul,↓reduceIte,↓dreduceIte,reduceCtorEq,Nat.reduceLeDiff,Nat.reduceLT,Nat.reduceSub,Int.reduceToNat,Int.reduceLE,Int.reduceLT, one_imm, List.length_map, hp, Int.zero_sub, eq_true (show (k : Int) < pl.length by omega), eq_true h1, eq_false h2]
        repeat ((with_reducible refine And.intro ?_ ?_); · omega)
        rw [i64_in (n := (k : Int) + 1) (by omega) (by omega)]
        exact ⟨k + 1, by omega, by omega, Wk.mk (by simp [get_cons, hst]) ⟨[], rfl⟩ (Nat.le_refl _)⟩
    · rw [if_neg (fun e => h1 e.1)] at hst
      simp only [go_sem,Nat.reduceEqDiff,Nat.reduceAdd,Nat.reduceMul,↓reduceIte,↓dreduceIte,reduceCtorEq,Nat.reduceLeDiff,Nat.reduceLT,Nat.reduceSub,Int.reduceToNat,Int.reduceLE,Int.reduceLT, one_imm, List.length_map, hp, Int.zero_sub, eq_true (show (k : Int) < pl.length by omega), eq_false h1]
      repeat ((with_reducible refine And.intro ?_ ?_); · omega)
      rw [i64_in (n := (k : Int) + 1) (by omega) (by omega)]
      exact ⟨k + 1, by omega, by omega, Wk.mk (by simp [get_cons, hst]) ⟨[], rfl⟩ (Nat.le_refl _)⟩
  · simp only [go_sem,Nat.reduceEqDiff,Nat.reduceAdd,Nat.reduceMul,↓reduceIte,↓dreduceIte,reduceCtorEq,Nat.reduceLeDiff,Nat.reduceLT,Nat.reduceSub,Int.reduceToNat,Int.reduceLE,Int.reduceLT, one_imm, List.length_map, eq_false (show ¬ (k : Int) < pl.length by omega)]
    refine ⟨_, Frz.pure rfl, ?_⟩
    rw [List.take_of_length_le (by omega)]
theorem awords_c (pl : List Int) (hl : pl.length ≤ 140737488355328) : Contract Try.prog 15 [alA pl] (fun r => r = I (wdsI pl)) := by
  refine Contract.of_call (VCall.of_body hmix f_alloc_Words (by simp) ?_)
  simp only [go_sem,Nat.reduceEqDiff,Nat.reduceAdd,Nat.reduceMul,↓reduceIte,↓dreduceIte,reduceCtorEq,Nat.reduceLeDiff,Nat.reduceLT,Nat.reduceSub,Int.reduceToNat,Int.reduceLE,Int.reduceLT, c_alloc_Words, one_imm, List.length_map]
  refine VW_loop (fun k : Nat => ⟨[(3, I (wdsI (pl.take k))), (7, ints pl), (8, I pl.length), (9, I k)], [], 1⟩) (fun k => k ≤ pl.length) (fun k => pl.length - k) 0 (Wk.mk (by simp [get_cons, wdsI]) ⟨_, rfl⟩ (Nat.le_refl _)) (Nat.zero_le _) ?_
  intro k hk
  by_cases h : k < pl.length
  · have hst := wdsI_take pl h
    generalize hp : pl.getD k default = p at hst
    by_cases h1 : p < 0
    · by_cases h2 : wdsI (pl.take k) < IntKind.i64.wrap (-p)
      · rw [if_pos ⟨h1, h2⟩] at hst
        simp only [go_sem,Nat.reduceEqDiff,Nat.reduceAdd,Nat.reduceMul,↓reduceIte,↓dreduceIte,reduceCtorEq,Nat.reduceLeDiff,Nat.reduceLT,Nat.reduceSub,Int.reduceToNat,Int.reduceLE,Int.reduceLT, one_imm, List.length_map, hp, Int.zero_sub, eq_true (show (k : Int) < pl.length by omega), eq_true h1, eq_true h2, gt_iff_lt]
        repeat ((with_reducible refine And.intro ?_ ?_); · omega)
        rw [i64_in (n := (k : Int) + 1) (by omega) (by omega)]
        exact ⟨k + 1, by omega, by omega, Wk.mk (by simp [get_cons, hst]) ⟨[], rfl⟩ (Nat.le_refl _)⟩
      · rw [if_neg (fun e => h2 e.2)] at hst
        simp only [go_sem,Nat.reduceEqDiff,Nat.reduceAdd,Nat.reduceMul,↓reduceIte,↓dreduceIte,reduceCtorEq,Nat.reduceLeDiff,Nat.reduceLT,Nat.reduceSub,Int.reduceToNat,Int.reduceLE,Int.reduceLT, one_imm, List.length_map, hp, Int.zero_sub, eq_true (show (k : Int) < pl.length by omega), eq_true h1, eq_false h2, gt_iff_lt]
        repeat ((with_reducible refine And.intro ?_ ?_); · omega)
        rw [i64_in (n := (k : Int) + 1) (by omega) (by omega)]
        exact ⟨k + 1, by omega, by omega, Wk.mk (by simp [get_cons, hst]) ⟨[], rfl⟩ (Nat.le_refl _)⟩
    · rw [if_neg (fun e => h1 e.1)] at hst
      simp only [go_sem,Nat.reduceEqDiff,Nat.reduceAdd,Nat.reduceMul,↓reduceIte,↓dreduceIte,reduceCtorEq,Nat.reduceLeDiff,Nat.reduceLT,Nat.reduceSub,Int.reduceToNat,Int.reduceLE,Int.reduceLT, one_imm, List.length_map, hp, Int.zero_sub, eq_true (show (k : Int) < pl.length by omega), eq_false h1]
      repeat ((with_reducible refine And.intro ?_ ?_); · omega)
      rw [i64_in (n := (k : Int) + 1) (by omega) (by omega)]
      exact ⟨k + 1, by omega, by omega, Wk.mk (by simp [get_cons, hst]) ⟨[], rfl⟩ (Nat.le_refl _)⟩
  · simp only [go_sem,Nat.reduceEqDiff,Nat.reduceAdd,Nat.reduceMul,↓reduceIte,↓dreduceIte,reduceCtorEq,Nat.reduceLeDiff,Nat.reduceLT,Nat.reduceSub,Int.reduceToNat,Int.reduceLE,Int.reduceLT, one_imm, List.length_map, eq_false (show ¬ (k : Int) < pl.length by omega)]
    refine ⟨_, Frz.pure rfl, ?_⟩
    rw [List.take_of_length_le (by omega)]
theorem places_c (pl : List Int) (regs n : Int) (hl : pl.length ≤ 140737488355328) : Contract Try.prog 29 [alA pl, I regs, I n] (fun r => r = B (placesB pl regs n)) := by
  refine Contract.of_call (VCall.of_body hmix f_scref28_places (by simp) ?_)
  by_cases h0 : (pl.length : Int) = regs
  case neg =>
    simp only [go_sem,Nat.reduceEqDiff,Nat.reduceAdd,Nat.reduceMul,↓reduceIte,↓dreduceIte,reduceCtorEq,Nat.reduceLeDiff,Nat.reduceLT,Nat.reduceSub,Int.reduceToNat,Int.reduceLE,Int.reduceLT, c_scref28_places, one_imm, List.length_map, eq_false h0]
    exact ⟨_, Frz.pure rfl, by simp [placesB, h0]⟩
  simp only [go_sem,Nat.reduceEqDiff,Nat.reduceAdd,Nat.reduceMul,↓reduceIte,↓dreduceIte,reduceCtorEq,Nat.reduceLeDiff,Nat.reduceLT,Nat.reduceSub,Int.reduceToNat,Int.reduceLE,Int.reduceLT, c_scref28_places, one_imm, List.length_map, eq_true h0]
  refine VW_loop (fun k : Nat => ⟨[(2, I n), (3, .ptr 0 0 0), (7, I k)], [⟨0, 33, 1, [ints pl]⟩], 1⟩) (fun k => k ≤ pl.length ∧ (pl.take k).all (okP n) = true) (fun k => pl.length - k) 0 (Wk.mk (by simp [get_cons]) ⟨[], rfl⟩ (Nat.le_refl _)) ⟨Nat.zero_le _, rfl⟩ ?_
  rintro k ⟨hk, hp⟩
  by_cases h : k < pl.length
  · have hgo : okP n (pl.getD k default) = true → (pl.take (k + 1)).all (okP n) = true := fun e => all_step h hp e
    have hno : okP n (pl.getD k default) = false → placesB pl regs n = false := fun e => by
      unfold placesB; rw [all_stop h e]; simp
    generalize hq : pl.getD k default = p at hgo hno
    have hiff := okP_iff (n := n) (p := p)
    have hlt := eq_true (show (k : Int) < pl.length by omega)
    by_cases h1 : p < -4000
    · simp only [go_sem,Nat.reduceEqDiff,Nat.reduceAdd,Nat.reduceMul,↓reduceIte,↓dreduceIte,reduceCtorEq,Nat.reduceLeDiff,Nat.reduceLT,Nat.reduceSub,Int.reduceToNat,Int.reduceLE,Int.reduceLT, one_imm, List.length_map, hq, hlt, eq_true h1]
      repeat ((with_reducible refine And.intro ?_ ?_); · omega)
      refine ⟨_, Frz.pure rfl, ?_⟩
      rw [hno (by cases e : okP n p with | false => rfl | true => have := hiff.1 e; omega)]
    by_cases h2 : p = 0
    · simp only [go_sem,Nat.reduceEqDiff,Nat.reduceAdd,Nat.reduceMul,↓reduceIte,↓dreduceIte,reduceCtorEq,Nat.reduceLeDiff,Nat.reduceLT,Nat.reduceSub,Int.reduceToNat,Int.reduceLE,Int.reduceLT, one_imm, List.length_map, hq, hlt, eq_false h1, eq_true h2]
      repeat ((with_reducible refine And.intro ?_ ?_); · omega)
      refine ⟨_, Frz.pure rfl, ?_⟩
      rw [hno (by cases e : okP n p with | false => rfl | true => have := hiff.1 e; omega)]
    by_cases h3 : 0 < p
    · by_cases h4 : n < p
      · simp only [go_sem,Nat.reduceEqDiff,Nat.reduceAdd,Nat.reduceMul,↓reduceIte,↓dreduceIte,reduceCtorEq,Nat.reduceLeDiff,Nat.reduceLT,Nat.reduceSub,Int.reduceToNat,Int.reduceLE,Int.reduceLT, one_imm, List.length_map, hq, hlt, eq_false h1, eq_false h2, eq_true h3, eq_true h4]
        repeat ((with_reducible refine And.intro ?_ ?_); · omega)
        refine ⟨_, Frz.pure rfl, ?_⟩
        rw [hno (by cases e : okP n p with | false => rfl | true => have := hiff.1 e; omega)]
      · simp only [go_sem,Nat.reduceEqDiff,Nat.reduceAdd,Nat.reduceMul,↓reduceIte,↓dreduceIte,reduceCtorEq,Nat.reduceLeDiff,Nat.reduceLT,Nat.reduceSub,Int.reduceToNat,Int.reduceLE,Int.reduceLT, one_imm, List.length_map, hq, hlt, eq_false h1, eq_false h2, eq_true h3, eq_false h4]
        repeat ((with_reducible refine And.intro ?_ ?_); · omega)
        rw [i64_in (n := (k : Int) + 1) (by omega) (by omega)]
        exact ⟨k + 1, ⟨by omega, hgo (hiff.2 (by omega))⟩, by omega, Wk.mk (by simp [get_cons]) ⟨[], rfl⟩ (Nat.le_refl _)⟩
    · simp only [go_sem,Nat.reduceEqDiff,Nat.reduceAdd,Nat.reduceMul,↓reduceIte,↓dreduceIte,reduceCtorEq,Nat.reduceLeDiff,Nat.reduceLT,Nat.reduceSub,Int.reduceToNat,Int.reduceLE,Int.reduceLT, one_imm, List.length_map, hq, hlt, eq_false h1, eq_false h2, eq_false h3]
      repeat ((with_reducible refine And.intro ?_ ?_); · omega)
      rw [i64_in (n := (k : Int) + 1) (by omega) (by omega)]
      exact ⟨k + 1, ⟨by omega, hgo (hiff.2 (by omega))⟩, by omega, Wk.mk (by simp [get_cons]) ⟨[], rfl⟩ (Nat.le_refl _)⟩
  · simp only [go_sem,Nat.reduceEqDiff,Nat.reduceAdd,Nat.reduceMul,↓reduceIte,↓dreduceIte,reduceCtorEq,Nat.reduceLeDiff,Nat.reduceLT,Nat.reduceSub,Int.reduceToNat,Int.reduceLE,Int.reduceLT, one_imm, List.length_map, eq_false (show ¬ (k : Int) < pl.length by omega)]
    refine ⟨_, Frz.pure rfl, ?_⟩
    unfold placesB; rw [all_end (by omega) hp, decide_eq_true h0]; rfl
def apI (pl : List Int) (row : List Bool) (i : Nat) : Prop := ∀ j < i, ∀ k < j, gB row j = true → gB row k = true → gP pl j ≠ gP pl k
def apK (pl : List Int) (row : List Bool) (i k : Nat) : Prop := ∀ j < k, gB row i = true → gB row j = true → gP pl i ≠ gP pl j
def onV (t : Tac) (pl : List Int) (row : List Bool) (v : Nat) : Prop := ∀ u < v, gB row u = true → ¬ ((0 ≤ setsL t ∧ (u : Int) ≠ setsL t ∧ gP pl u = gP pl (setsL t).toNat) ∨ (t.op = 10 ∧ 0 < gP pl u))
theorem apart_c (pl : List Int) (row : List Bool) (h : row.length ≤ pl.length) (hl : pl.length ≤ 140737488355328) : Contract Try.prog 30 [alA pl, bools row] (fun r => r = B (apartB pl row)) := by
  refine Contract.of_call (VCall.of_body hmix f_scref28_apart (by simp) ?_)
  simp only [go_sem,Nat.reduceEqDiff,Nat.reduceAdd,Nat.reduceMul,↓reduceIte,↓dreduceIte,reduceCtorEq,Nat.reduceLeDiff,Nat.reduceLT,Nat.reduceSub,Int.reduceToNat,Int.reduceLE,Int.reduceLT, c_scref28_apart, one_imm]
  refine VW_loop (fun i : Nat => ⟨[(1, bools row), (2, .ptr 0 0 0), (5, I i)], [⟨0, 33, 1, [ints pl]⟩], 1⟩) (fun i => i ≤ row.length ∧ apI pl row i) (fun i => row.length - i) 0 (Wk.mk (by simp [get_cons]) ⟨[], rfl⟩ (Nat.le_refl _)) ⟨Nat.zero_le _, fun j hj => by omega⟩ ?_
  rintro i ⟨hi, hp⟩
  by_cases hlt : i < row.length
  · simp only [go_sem,Nat.reduceEqDiff,Nat.reduceAdd,Nat.reduceMul,↓reduceIte,↓dreduceIte,reduceCtorEq,Nat.reduceLeDiff,Nat.reduceLT,Nat.reduceSub,Int.reduceToNat,Int.reduceLE,Int.reduceLT, one_imm, List.length_map, eq_true (show (i : Int) < row.length by omega)]
    refine VW_loop (fun k : Nat => ⟨[(1, bools row), (2, .ptr 0 0 0), (5, I i), (6, I k)], [⟨0, 33, 1, [ints pl]⟩], 1⟩) (fun k => k ≤ i ∧ apK pl row i k) (fun k => i - k) 0 (Wk.mk (by simp [get_cons]) ⟨[], rfl⟩ (Nat.le_refl _)) ⟨Nat.zero_le _, fun j hj => by omega⟩ ?_
    rintro k ⟨hk, hq⟩
    by_cases hlk : k < i
    · have hgo : (gB row i = true → gB row k = true → gP pl i ≠ gP pl k) → apK pl row i (k + 1) := fun e j hj => by
        by_cases e2 : j = k
        · rw [e2]; exact e
        · exact hq j (by omega)
      have e1 : row.getD i default = gB row i := rfl
      have e2 : row.getD k default = gB row k := rfl
      have e3 : pl.getD i default = gP pl i := rfl
      have e4 : pl.getD k default = gP pl k := rfl
      have hkl := eq_true (show (k : Int) < (i : Int) by omega)
      cases h1 : gB row i
      · simp only [go_sem,Nat.reduceEqDiff,Nat.reduceAdd,Nat.reduceMul,↓reduceIte,↓dreduceIte,reduceCtorEq,Nat.reduceLeDiff,Nat.reduceLT,Nat.reduceSub,Int.reduceToNat,Int.reduceLE,Int.reduceLT, one_imm, List.length_map, hkl, e1, e2, e3, e4, h1]
        repeat ((with_reducible refine And.intro ?_ ?_); · omega)
        rw [i64_in (n := (k : Int) + 1) (by omega) (by omega)]
        exact ⟨k + 1, ⟨by omega, hgo (by rw [h1]; intro h; cases h)⟩, by omega, Wk.mk (by simp [get_cons]) ⟨[], rfl⟩ (Nat.le_refl _)⟩
      cases h2 : gB row k
      · simp only [go_sem,Nat.reduceEqDiff,Nat.reduceAdd,Nat.reduceMul,↓reduceIte,↓dreduceIte,reduceCtorEq,Nat.reduceLeDiff,Nat.reduceLT,Nat.reduceSub,Int.reduceToNat,Int.reduceLE,Int.reduceLT, one_imm, List.length_map, hkl, e1, e2, e3, e4, h1, h2]
        repeat ((with_reducible refine And.intro ?_ ?_); · omega)
        rw [i64_in (n := (k : Int) + 1) (by omega) (by omega)]
        exact ⟨k + 1, ⟨by omega, hgo (by rw [h2]; intro _ h; cases h)⟩, by omega, Wk.mk (by simp [get_cons]) ⟨[], rfl⟩ (Nat.le_refl _)⟩
      by_cases h3 : gP pl i = gP pl k
      · simp only [go_sem,Nat.reduceEqDiff,Nat.reduceAdd,Nat.reduceMul,↓reduceIte,↓dreduceIte,reduceCtorEq,Nat.reduceLeDiff,Nat.reduceLT,Nat.reduceSub,Int.reduceToNat,Int.reduceLE,Int.reduceLT, one_imm, List.length_map, hkl, e1, e2, e3, e4, h1, h2, h3]
        repeat ((with_reducible refine And.intro ?_ ?_); · omega)
        refine ⟨_, Frz.pure rfl, ?_⟩
        have : apartB pl row = false := decide_eq_false fun e => e i hlt k hlk h1 h2 h3
        rw [this]
      · simp only [go_sem,Nat.reduceEqDiff,Nat.reduceAdd,Nat.reduceMul,↓reduceIte,↓dreduceIte,reduceCtorEq,Nat.reduceLeDiff,Nat.reduceLT,Nat.reduceSub,Int.reduceToNat,Int.reduceLE,Int.reduceLT, one_imm, List.length_map, hkl, e1, e2, e3, e4, h1, h2, eq_false h3]
        repeat ((with_reducible refine And.intro ?_ ?_); · omega)
        rw [i64_in (n := (k : Int) + 1) (by omega) (by omega)]
        exact ⟨k + 1, ⟨by omega, hgo (fun _ _ => h3)⟩, by omega, Wk.mk (by simp [get_cons]) ⟨[], rfl⟩ (Nat.le_refl _)⟩
    · simp only [go_sem,Nat.reduceEqDiff,Nat.reduceAdd,Nat.reduceMul,↓reduceIte,↓dreduceIte,reduceCtorEq,Nat.reduceLeDiff,Nat.reduceLT,Nat.reduceSub,Int.reduceToNat,Int.reduceLE,Int.reduceLT, one_imm, List.length_map, eq_false (show ¬ (k : Int) < (i : Int) by omega)]
      rw [i64_in (n := (i : Int) + 1) (by omega) (by omega)]
      refine ⟨i + 1, ⟨by omega, fun j hj => ?_⟩, by omega, Wk.mk (by simp [get_cons]) ⟨[], rfl⟩ (Nat.le_refl _)⟩
      by_cases e2 : j = i
      · rw [e2]; exact fun k' hk' => hq k' (by omega)
      · exact hp j (by omega)
  · simp only [go_sem,Nat.reduceEqDiff,Nat.reduceAdd,Nat.reduceMul,↓reduceIte,↓dreduceIte,reduceCtorEq,Nat.reduceLeDiff,Nat.reduceLT,Nat.reduceSub,Int.reduceToNat,Int.reduceLE,Int.reduceLT, one_imm, List.length_map, eq_false (show ¬ (i : Int) < row.length by omega)]
    refine ⟨_, Frz.pure rfl, ?_⟩
    have : apartB pl row = true := decide_eq_true fun j hj => hp j (by omega)
    rw [this]
theorem rone28_c (t : Tac) (pl : List Int) (row : List Bool) (h : row.length ≤ pl.length) (hl : pl.length ≤ 140737488355328) (hd : 0 ≤ setsL t → setsL t < pl.length) : Contract Try.prog 32 [tacA t, alA pl, bools row] (fun r => r = B (oneAB t pl row)) := by
  refine Contract.of_call (VCall.of_body hmix f_scref28_one (by simp) ?_)
  simp only [go_sem,Nat.reduceEqDiff,Nat.reduceAdd,Nat.reduceMul,↓reduceIte,↓dreduceIte,reduceCtorEq,Nat.reduceLeDiff,Nat.reduceLT,Nat.reduceSub,Int.reduceToNat,Int.reduceLE,Int.reduceLT, c_scref28_one, one_imm]
  refine VCall.of_contract (refsets_c t) (SleL.pure rfl) fun x hx => ?_
  subst hx
  simp only [go_sem,Nat.reduceEqDiff,Nat.reduceAdd,Nat.reduceMul,↓reduceIte,↓dreduceIte,reduceCtorEq,Nat.reduceLeDiff,Nat.reduceLT,Nat.reduceSub,Int.reduceToNat,Int.reduceLE,Int.reduceLT, one_imm]
  refine VW_loop (fun v : Nat => ⟨[(2, bools row), (3, .ptr 0 0 0), (4, .ptr 1 1 0), (7, I (setsL t)), (8, I v)], [⟨0, 57, 1, tacL t⟩, ⟨1, 33, 1, [ints pl]⟩], 2⟩)
    (fun v => v ≤ row.length ∧ onV t pl row v) (fun v => row.length - v) 0 (Wk.mk (by simp [get_cons]) ⟨[], rfl⟩ (Nat.le_refl _)) ⟨Nat.zero_le _, fun j hj => by omega⟩ ?_
  rintro v ⟨hv, hp⟩
  by_cases hlt : v < row.length
  · have hgo : (gB row v = true → ¬ ((0 ≤ setsL t ∧ (v : Int) ≠ setsL t ∧ gP pl v = gP pl (setsL t).toNat) ∨ (t.op = 10 ∧ 0 < gP pl v))) → onV t pl row (v + 1) := fun e u hu => by
      by_cases e2 : u = v
      · rw [e2]; exact e
      · exact hp u (by omega)
    have hno : gB row v = true → ((0 ≤ setsL t ∧ (v : Int) ≠ setsL t ∧ gP pl v = gP pl (setsL t).toNat) ∨ (t.op = 10 ∧ 0 < gP pl v)) → oneAB t pl row = false := fun e1 e2 => decide_eq_false fun e => e v hlt e1 e2
    have e1 : row.getD v default = gB row v := rfl
    have e3 : pl.getD v default = gP pl v := rfl
    have e4 : pl.getD (setsL t).toNat default = gP pl (setsL t).toNat := rfl
    obtain ⟨d, hdd⟩ : ∃ d, setsL t = d := ⟨_, rfl⟩
    rw [hdd] at hgo hno hd e4 ⊢
    have hlv := eq_true (show (v : Int) < row.length by omega)
    cases h1 : gB row v
    · simp only [go_sem,Nat.reduceEqDiff,Nat.reduceAdd,Nat.reduceMul,↓reduceIte,↓dreduceIte,reduceCtorEq,Nat.reduceLeDiff,Nat.reduceLT,Nat.reduceSub,Int.reduceToNat,Int.reduceLE,Int.reduceLT, one_imm, List.length_map, hlv, e1, h1]
      repeat ((with_reducible refine And.intro ?_ ?_); · omega)
      rw [i64_in (n := (v : Int) + 1) (by omega) (by omega)]
      exact ⟨v + 1, ⟨by omega, hgo (by rw [h1]; intro h; cases h)⟩, by omega, Wk.mk (by simp [get_cons]) ⟨[], rfl⟩ (Nat.le_refl _)⟩
    -- does it clash with what is set?
    by_cases h2 : 0 ≤ d
    · have hdl := hd h2
      by_cases h3 : (v : Int) = d
      · by_cases h5 : t.op = 10
        · by_cases h6 : 0 < gP pl v
          · simp only [go_sem,Nat.reduceEqDiff,Nat.reduceAdd,Nat.reduceMul,↓reduceIte,↓dreduceIte,reduceCtorEq,Nat.reduceLeDiff,Nat.reduceLT,Nat.reduceSub,Int.reduceToNat,Int.reduceLE,Int.reduceLT, one_imm, List.length_map, hlv, e1, e3, h1, eq_true h2, eq_true h3, eq_true h5, eq_true h6]
            repeat ((with_reducible refine And.intro ?_ ?_); · omega)
            refine ⟨_, Frz.pure rfl, ?_⟩
            rw [hno h1 (.inr ⟨h5, h6⟩)]
          · simp only [go_sem,Nat.reduceEqDiff,Nat.reduceAdd,Nat.reduceMul,↓reduceIte,↓dreduceIte,reduceCtorEq,Nat.reduceLeDiff,Nat.reduceLT,Nat.reduceSub,Int.reduceToNat,Int.reduceLE,Int.reduceLT, one_imm, List.length_map, hlv, e1, e3, h1, eq_true h2, eq_true h3, eq_true h5, eq_false h6]
            repeat ((with_reducible refine And.intro ?_ ?_); · omega)
            rw [i64_in (n := (v : Int) + 1) (by omega) (by omega)]
            exact ⟨v + 1, ⟨by omega, hgo (fun _ => by rintro (e | e); exact e.2.1 h3; exact h6 e.2)⟩, by omega, Wk.mk (by simp [get_cons]) ⟨[], rfl⟩ (Nat.le_refl _)⟩
        · simp only [go_sem,Nat.reduceEqDiff,Nat.reduceAdd,Nat.reduceMul,↓reduceIte,↓dreduceIte,reduceCtorEq,Nat.reduceLeDiff,Nat.reduceLT,Nat.reduceSub,Int.reduceToNat,Int.reduceLE,Int.reduceLT, one_imm, List.length_map, hlv, e1, e3, h1, eq_true h2, eq_true h3, eq_false h5]
          repeat ((with_reducible refine And.intro ?_ ?_); · omega)
          rw [i64_in (n := (v : Int) + 1) (by omega) (by omega)]
          exact ⟨v + 1, ⟨by omega, hgo (fun _ => by rintro (e | e); exact e.2.1 h3; exact h5 e.1)⟩, by omega, Wk.mk (by simp [get_cons]) ⟨[], rfl⟩ (Nat.le_refl _)⟩
      · by_cases h4 : gP pl v = gP pl d.toNat
        · simp only [go_sem,Nat.reduceEqDiff,Nat.reduceAdd,Nat.reduceMul,↓reduceIte,↓dreduceIte,reduceCtorEq,Nat.reduceLeDiff,Nat.reduceLT,Nat.reduceSub,Int.reduceToNat,Int.reduceLE,Int.reduceLT, one_imm, List.length_map, hlv, e1, e3, e4, h1, eq_true h2, eq_false h3, eq_true h4]
          repeat ((with_reducible refine And.intro ?_ ?_); · omega)
          refine ⟨_, Frz.pure rfl, ?_⟩
          rw [hno h1 (.inl ⟨h2, h3, h4⟩)]
        · by_cases h5 : t.op = 10
          · by_cases h6 : 0 < gP pl v
            · simp only [go_sem,Nat.reduceEqDiff,Nat.reduceAdd,Nat.reduceMul,↓reduceIte,↓dreduceIte,reduceCtorEq,Nat.reduceLeDiff,Nat.reduceLT,Nat.reduceSub,Int.reduceToNat,Int.reduceLE,Int.reduceLT, one_imm, List.length_map, hlv, e1, e3, e4, h1, eq_true h2, eq_false h3, eq_false h4, eq_true h5, eq_true h6]
              repeat ((with_reducible refine And.intro ?_ ?_); · omega)
              refine ⟨_, Frz.pure rfl, ?_⟩
              rw [hno h1 (.inr ⟨h5, h6⟩)]
            · simp only [go_sem,Nat.reduceEqDiff,Nat.reduceAdd,Nat.reduceMul,↓reduceIte,↓dreduceIte,reduceCtorEq,Nat.reduceLeDiff,Nat.reduceLT,Nat.reduceSub,Int.reduceToNat,Int.reduceLE,Int.reduceLT, one_imm, List.length_map, hlv, e1, e3, e4, h1, eq_true h2, eq_false h3, eq_false h4, eq_true h5, eq_false h6]
              repeat ((with_reducible refine And.intro ?_ ?_); · omega)
              rw [i64_in (n := (v : Int) + 1) (by omega) (by omega)]
              exact ⟨v + 1, ⟨by omega, hgo (fun _ => by rintro (e | e); exact h4 e.2.2; exact h6 e.2)⟩, by omega, Wk.mk (by simp [get_cons]) ⟨[], rfl⟩ (Nat.le_refl _)⟩
          · simp only [go_sem,Nat.reduceEqDiff,Nat.reduceAdd,Nat.reduceMul,↓reduceIte,↓dreduceIte,reduceCtorEq,Nat.reduceLeDiff,Nat.reduceLT,Nat.reduceSub,Int.reduceToNat,Int.reduceLE,Int.reduceLT, one_imm, List.length_map, hlv, e1, e3, e4, h1, eq_true h2, eq_false h3, eq_false h4, eq_false h5]
            repeat ((with_reducible refine And.intro ?_ ?_); · omega)
            rw [i64_in (n := (v : Int) + 1) (by omega) (by omega)]
            exact ⟨v + 1, ⟨by omega, hgo (fun _ => by rintro (e | e); exact h4 e.2.2; exact h5 e.1)⟩, by omega, Wk.mk (by simp [get_cons]) ⟨[], rfl⟩ (Nat.le_refl _)⟩
    · by_cases h5 : t.op = 10
      · by_cases h6 : 0 < gP pl v
        · simp only [go_sem,Nat.reduceEqDiff,Nat.reduceAdd,Nat.reduceMul,↓reduceIte,↓dreduceIte,reduceCtorEq,Nat.reduceLeDiff,Nat.reduceLT,Nat.reduceSub,Int.reduceToNat,Int.reduceLE,Int.reduceLT, one_imm, List.length_map, hlv, e1, e3, h1, eq_false h2, eq_true h5, eq_true h6]
          repeat ((with_reducible refine And.intro ?_ ?_); · omega)
          refine ⟨_, Frz.pure rfl, ?_⟩
          rw [hno h1 (.inr ⟨h5, h6⟩)]
        · simp only [go_sem,Nat.reduceEqDiff,Nat.reduceAdd,Nat.reduceMul,↓reduceIte,↓dreduceIte,reduceCtorEq,Nat.reduceLeDiff,Nat.reduceLT,Nat.reduceSub,Int.reduceToNat,Int.reduceLE,Int.reduceLT, one_imm, List.length_map, hlv, e1, e3, h1, eq_false h2, eq_true h5, eq_false h6]
          repeat ((with_reducible refine And.intro ?_ ?_); · omega)
          rw [i64_in (n := (v : Int) + 1) (by omega) (by omega)]
          exact ⟨v + 1, ⟨by omega, hgo (fun _ => by rintro (e | e); exact h2 e.1; exact h6 e.2)⟩, by omega, Wk.mk (by simp [get_cons]) ⟨[], rfl⟩ (Nat.le_refl _)⟩
      · simp only [go_sem,Nat.reduceEqDiff,Nat.reduceAdd,Nat.reduceMul,↓reduceIte,↓dreduceIte,reduceCtorEq,Nat.reduceLeDiff,Nat.reduceLT,Nat.reduceSub,Int.reduceToNat,Int.reduceLE,Int.reduceLT, one_imm, List.length_map, hlv, e1, e3, h1, eq_false h2, eq_false h5]
        repeat ((with_reducible refine And.intro ?_ ?_); · omega)
        rw [i64_in (n := (v : Int) + 1) (by omega) (by omega)]
        exact ⟨v + 1, ⟨by omega, hgo (fun _ => by rintro (e | e); exact h2 e.1; exact h5 e.1)⟩, by omega, Wk.mk (by simp [get_cons]) ⟨[], rfl⟩ (Nat.le_refl _)⟩
  · simp only [go_sem,Nat.reduceEqDiff,Nat.reduceAdd,Nat.reduceMul,↓reduceIte,↓dreduceIte,reduceCtorEq,Nat.reduceLeDiff,Nat.reduceLT,Nat.reduceSub,Int.reduceToNat,Int.reduceLE,Int.reduceLT, one_imm, List.length_map, eq_false (show ¬ (v : Int) < row.length by omega)]
    refine ⟨_, Frz.pure rfl, ?_⟩
    have : oneAB t pl row = true := decide_eq_true fun j hj => hp j (by omega)
    rw [this]
end Go.Proofs.Ytncjbipnkdlkoaa
namespace Go.Proofs.Ytncjbipnkdlkoaa
set_option linter.unusedSimpArgs false
set_option linter.unusedVariables false
set_option maxRecDepth 10000
open Go.V
def blkAll (f : BF) (L : LD) (pl : List Int) (b : Nat) : Prop := ∀ i < b, blkAB f L pl i = true
def insAll (f : BF) (L : LD) (pl : List Int) (b i : Nat) : Prop := ∀ j < i, oneAB ((f.bk b).ins.getD j default) pl ((behindL (f.bk b) (L.out.getD b default)).getD j default) = true
theorem rcheck28_c (f : BF) (L : LD) (pl : List Int) (n : Int) (hf : Fine f) (hL : LOK L) (hl : pl.length ≤ 140737488355328) : Contract Try.prog 13 [bfA f, liveA L, alA pl, I n] (fun r => r = B (allocB f L pl n)) := by
  refine Contract.of_call (VCall.of_body hmix f_scref28_Check (by simp) ?_)
  have hn : f.bks.length = f.n := rfl
  have hn5 := hf.b1
  rw [hn] at hn5
  have hr4 := hf.r1
  have hr0 := hf.r0
  have hpos : 0 < f.n := List.length_pos_iff.2 hf.b0
  have hregs : (f.r : Int) = f.regs := by unfold BF.r; omega
  simp only [go_sem,Nat.reduceEqDiff,Nat.reduceAdd,Nat.reduceMul,↓reduceIte,↓dreduceIte,reduceCtorEq,Nat.reduceLeDiff,Nat.reduceLT,Nat.reduceSub,Int.reduceToNat,Int.reduceLE,Int.reduceLT, c_scref28_Check, one_imm, one_ref, List.length_map]
  refine ECall.of (rcheck_c f L hf hL) (SleL.pure rfl) ⟨_, fun _ => Iff.rfl⟩ fun x hx => ?_
  subst hx
  cases hc : checkB f L
  · simp only [go_sem,Nat.reduceEqDiff,Nat.reduceAdd,Nat.reduceMul,↓reduceIte,↓dreduceIte,reduceCtorEq,Nat.reduceLeDiff,Nat.reduceLT,Nat.reduceSub,Int.reduceToNat,Int.reduceLE,Int.reduceLT, one_imm, one_ref, List.length_map]
    exact ⟨_, Frz.pure rfl, by simp [allocB, hc]⟩
  have hcl := (checkB_iff hf L).1 hc
  have hli : L.inn.length = f.n := hcl.sz.i
  have hi0 : (L.inn.getD 0 default).length = f.r := hcl.sz.il hpos
  simp only [go_sem,Nat.reduceEqDiff,Nat.reduceAdd,Nat.reduceMul,↓reduceIte,↓dreduceIte,reduceCtorEq,Nat.reduceLeDiff,Nat.reduceLT,Nat.reduceSub,Int.reduceToNat,Int.reduceLE,Int.reduceLT, one_imm, one_ref, List.length_map]
  refine ECall.of (places_c pl f.regs n hl) (SleL.pure rfl) ⟨_, fun _ => Iff.rfl⟩ fun x hx => ?_
  subst hx
  cases hp : placesB pl f.regs n
  · simp only [go_sem,Nat.reduceEqDiff,Nat.reduceAdd,Nat.reduceMul,↓reduceIte,↓dreduceIte,reduceCtorEq,Nat.reduceLeDiff,Nat.reduceLT,Nat.reduceSub,Int.reduceToNat,Int.reduceLE,Int.reduceLT, one_imm, one_ref, List.length_map]
    exact ⟨_, Frz.pure rfl, by simp [allocB, hp]⟩
  have hpl : pl.length = f.r := by
    have := hp
    unfold placesB at this
    simp only [Bool.and_eq_true, decide_eq_true_eq] at this
    omega
  simp only [go_sem,Nat.reduceEqDiff,Nat.reduceAdd,Nat.reduceMul,↓reduceIte,↓dreduceIte,reduceCtorEq,Nat.reduceLeDiff,Nat.reduceLT,Nat.reduceSub,Int.reduceToNat,Int.reduceLE,Int.reduceLT, one_imm, one_ref, List.length_map]
  repeat ((with_reducible refine And.intro ?_ ?_); · omega)
  refine ECall.of (apart_c pl (L.inn.getD 0 default) (by omega) hl) (SleL.pure rfl) ⟨_, fun _ => Iff.rfl⟩ fun x hx => ?_
  subst hx
  cases ha : apartB pl (L.inn.getD 0 default)
  · simp only [go_sem,Nat.reduceEqDiff,Nat.reduceAdd,Nat.reduceMul,↓reduceIte,↓dreduceIte,reduceCtorEq,Nat.reduceLeDiff,Nat.reduceLT,Nat.reduceSub,Int.reduceToNat,Int.reduceLE,Int.reduceLT, one_imm, one_ref, List.length_map]
    exact ⟨_, Frz.pure rfl, by simp only [allocB, ha, Bool.and_false, Bool.false_and]⟩
  simp only [go_sem,Nat.reduceEqDiff,Nat.reduceAdd,Nat.reduceMul,↓reduceIte,↓dreduceIte,reduceCtorEq,Nat.reduceLeDiff,Nat.reduceLT,Nat.reduceSub,Int.reduceToNat,Int.reduceLE,Int.reduceLT, one_imm, one_ref, List.length_map]
  refine VW_loop (fun b : Nat => ⟨[(3, I n), (4, .ptr 0 0 0), (5, .ptr 1 1 0), (6, .ptr 2 2 0), (9, I b)], [⟨0, 24, 1, bfL f⟩, ⟨1, 29, 1, [rowsA L.inn, rowsA L.out]⟩, ⟨2, 33, 1, [ints pl]⟩], 3⟩)
    (fun b => b ≤ f.n ∧ blkAll f L pl b) (fun b => f.n - b) 0 (Wk.mk (by simp [get_cons]) ⟨[], rfl⟩ (Nat.le_refl _)) ⟨Nat.zero_le _, fun i hi => absurd hi (Nat.not_lt_zero i)⟩ ?_
  rintro b ⟨hb, hp2⟩
  by_cases hlt : b < f.n
  · have hbk : f.bks.getD b default = f.bk b := rfl
    have hob : b < L.out.length := by rw [hcl.sz.o]; exact hlt
    have hlo : (L.out.getD b default).length = f.r := hcl.sz.ol hlt
    have hrg := hf.regs hlt hlo
    have hlen := hf.len _ (BF.mem hlt)
    simp only [go_sem,Nat.reduceEqDiff,Nat.reduceAdd,Nat.reduceMul,↓reduceIte,↓dreduceIte,reduceCtorEq,Nat.reduceLeDiff,Nat.reduceLT,Nat.reduceSub,Int.reduceToNat,Int.reduceLE,Int.reduceLT, one_imm, one_ref, List.length_map, hn, eq_true (show (b : Int) < f.n by omega)]
    refine VCall.of_contract (rbehind_c f L b hf hlt hob hlo) (SleL.pure rfl) fun x hx => ?_
    subst hx
    simp only [go_sem,Nat.reduceEqDiff,Nat.reduceAdd,Nat.reduceMul,↓reduceIte,↓dreduceIte,reduceCtorEq,Nat.reduceLeDiff,Nat.reduceLT,Nat.reduceSub,Int.reduceToNat,Int.reduceLE,Int.reduceLT, one_imm, one_ref, List.length_map]
    refine VW_loop (fun i : Nat => ⟨[(3, I n), (4, .ptr 0 0 0), (5, .ptr 1 1 0), (6, .ptr 2 2 0), (9, I b), (10, rowsA (behindL (f.bk b) (L.out.getD b default))), (11, I i)], [⟨0, 24, 1, bfL f⟩, ⟨1, 29, 1, [rowsA L.inn, rowsA L.out]⟩, ⟨2, 33, 1, [ints pl]⟩], 3⟩)
      (fun i => i ≤ (f.bk b).ins.length ∧ insAll f L pl b i) (fun i => (f.bk b).ins.length - i) 0 (Wk.mk (by simp [get_cons]) ⟨[], rfl⟩ (Nat.le_refl _)) ⟨Nat.zero_le _, fun i hi => absurd hi (Nat.not_lt_zero i)⟩ ?_
    rintro i ⟨hi, hq⟩
    by_cases hil : i < (f.bk b).ins.length
    · have hbl := behindL_len (f.bk b) (L.out.getD b default)
      have hrl : ((behindL (f.bk b) (L.out.getD b default)).getD i default).length = f.r := behindL_lens hf hlt hlo hil
      have hrt := hrg.1 _ (mem_getD hil)
      simp only [go_sem,Nat.reduceEqDiff,Nat.reduceAdd,Nat.reduceMul,↓reduceIte,↓dreduceIte,reduceCtorEq,Nat.reduceLeDiff,Nat.reduceLT,Nat.reduceSub,Int.reduceToNat,Int.reduceLE,Int.reduceLT, one_imm, one_ref, List.length_map, hbk, hbl, eq_true (show (i : Int) < (f.bk b).ins.length by omega)]
      repeat ((with_reducible refine And.intro ?_ ?_); · omega)
      refine VCall.of_contract (rone28_c ((f.bk b).ins.getD i default) pl ((behindL (f.bk b) (L.out.getD b default)).getD i default) (by omega) hl (fun h => by rcases hrt.sets with e | e <;> omega)) (SleL.pure rfl) fun x hx => ?_
      subst hx
      cases ho : oneAB ((f.bk b).ins.getD i default) pl ((behindL (f.bk b) (L.out.getD b default)).getD i default)
      · simp only [go_sem,Nat.reduceEqDiff,Nat.reduceAdd,Nat.reduceMul,↓reduceIte,↓dreduceIte,reduceCtorEq,Nat.reduceLeDiff,Nat.reduceLT,Nat.reduceSub,Int.reduceToNat,Int.reduceLE,Int.reduceLT, one_imm, one_ref, List.length_map]
        refine ⟨_, Frz.pure rfl, ?_⟩
        have h1 : blkAB f L pl b = false := by
          unfold blkAB
          exact List.all_eq_false.2 ⟨i, List.mem_range.2 hil, by rw [ho]; decide⟩
        have : allocB f L pl n = false := by
          unfold allocB
          rw [List.all_eq_false.2 ⟨b, List.mem_range.2 hlt, by rw [h1]; decide⟩]; simp
        rw [this]
      · simp only [go_sem,Nat.reduceEqDiff,Nat.reduceAdd,Nat.reduceMul,↓reduceIte,↓dreduceIte,reduceCtorEq,Nat.reduceLeDiff,Nat.reduceLT,Nat.reduceSub,Int.reduceToNat,Int.reduceLE,Int.reduceLT, one_imm, one_ref, List.length_map]
        rw [i64_in (by omega) (by omega)]
        refine ⟨i + 1, ⟨by omega, fun j hj => ?_⟩, by omega, Wk.mk (by simp [get_cons]) ⟨[], rfl⟩ (Nat.le_refl _)⟩
        by_cases e : j = i
        · rw [e]; exact ho
        · exact hq j (by omega)
    · simp only [go_sem,Nat.reduceEqDiff,Nat.reduceAdd,Nat.reduceMul,↓reduceIte,↓dreduceIte,reduceCtorEq,Nat.reduceLeDiff,Nat.reduceLT,Nat.reduceSub,Int.reduceToNat,Int.reduceLE,Int.reduceLT, one_imm, one_ref, List.length_map, hbk, hn, eq_false (show ¬ (i : Int) < (f.bk b).ins.length by omega)]
      repeat ((with_reducible refine And.intro ?_ ?_); · omega)
      rw [i64_in (by omega) (by omega)]
      refine ⟨b + 1, ⟨by omega, fun j hj => ?_⟩, by omega, Wk.mk (by simp [get_cons]) ⟨[], rfl⟩ (Nat.le_refl _)⟩
      by_cases e : j = b
      · rw [e]
        unfold blkAB
        rw [List.all_eq_true]
        exact fun k hk => hq k (by have := List.mem_range.1 hk; omega)
      · exact hp2 j (by omega)
  · simp only [go_sem,Nat.reduceEqDiff,Nat.reduceAdd,Nat.reduceMul,↓reduceIte,↓dreduceIte,reduceCtorEq,Nat.reduceLeDiff,Nat.reduceLT,Nat.reduceSub,Int.reduceToNat,Int.reduceLE,Int.reduceLT, one_imm, one_ref, List.length_map, hn, eq_false (show ¬ (b : Int) < f.n by omega)]
    refine ⟨_, Frz.pure rfl, ?_⟩
    have : allocB f L pl n = true := by
      unfold allocB
      rw [hc, hp, ha, List.all_eq_true.2 fun i hi => hp2 i (by have := List.mem_range.1 hi; omega)]; rfl
    rw [this]
end Go.Proofs.Ytncjbipnkdlkoaa
namespace Go.Proofs.Ytncjbipnkdlkoaa
set_option linter.unusedSimpArgs false
set_option linter.unusedVariables false
set_option maxRecDepth 10000
open Go.V
abbrev idsL (pl : List Int) : List Int := (List.range pl.length).map fun v => (idN pl v : Int)
theorem idsL_get (pl : List Int) {v : Nat} (h : v < pl.length) : (idsL pl).getD v default = idN pl v := by simp [idsL, List.getD, h]
structure WK where
  kw : Nat
  sw : Nat
  km : Nat
  sm : Nat
  kc : Nat
  sc : Nat
  ki : Nat
  si : Nat
structure WH (pl : List Int) (H : List VObj) (q : WK) (row : List Bool) : Prop where
  w : H[q.kw]? = some ⟨q.sw, 81, 1, [ints pl, .ref q.ki q.si 0 pl.length, .ref q.km q.sm 0 pl.length, .ref q.kc q.sc 0 (seenK pl).length, I (cntG pl row)]⟩
  m : H[q.km]? = some ⟨q.sm, 4, 1, row.map B⟩
  c : H[q.kc]? = some ⟨q.sc, 3, 1, (cntL' pl row).map I⟩
  i : H[q.ki]? = some ⟨q.si, 3, 1, (idsL pl).map I⟩
  ne : q.kc ≠ q.ki
def KeepW (q : WK) (H H' : List VObj) : Prop := ∀ (k : Nat) (ob : VObj), H[k]? = some ob → k ≠ q.kw → k ≠ q.km → k ≠ q.kc → H'[k]? = some ob
theorem KeepW.refl (q : WK) (H : List VObj) : KeepW q H H := fun _ _ h _ _ _ => h
theorem KeepW.trans {q : WK} {A B C : List VObj} (h : KeepW q A B) (k : KeepW q B C) : KeepW q A C := fun i ob h1 h2 h3 h4 => k i ob (h i ob h1 h2 h3 h4) h2 h3 h4
theorem KeepW.app (q : WK) (H R : List VObj) : KeepW q H (H ++ R) := fun k ob h _ _ _ => by rw [List.getElem?_append_left (List.getElem?_eq_some_iff.1 h).1]; exact h
theorem WH.app {pl : List Int} {H : List VObj} {q : WK} {row : List Bool} (h : WH pl H q row) (R : List VObj) : WH pl (H ++ R) q row :=
  ⟨app_old h.w R, app_old h.m R, app_old h.c R, app_old h.i R, h.ne⟩
theorem wset {pl : List Int} {H : List VObj} {q : WK} {row : List Bool} (v : Nat) (hv : v < pl.length) {x : Bool} {g : Nat} (h : WH pl H q row) (hc : ∀ k, cntK pl (row.set v x) k = if idN pl v = k then cntK pl (row.set v x) (idN pl v) else cntK pl row k) (hg : cntG pl (row.set v x) = g) (H' : List VObj)
    (hH : H' = ((H.set q.km ⟨q.sm, 4, 1, (row.set v x).map B⟩).set q.kc ⟨q.sc, 3, 1, ((cntL' pl row).set (idN pl v) (cntK pl (row.set v x) (idN pl v))).map I⟩).set q.kw ⟨q.sw, 81, 1, [ints pl, .ref q.ki q.si 0 pl.length, .ref q.km q.sm 0 pl.length, .ref q.kc q.sc 0 (seenK pl).length, I g]⟩) :
    WH pl H' q (row.set v x) ∧ KeepW q H H' := by
  have e1 : q.kw ≠ q.km := of_eq_false (ty_ne h.w h.m (by simp))
  have e2 : q.kw ≠ q.kc := of_eq_false (ty_ne h.w h.c (by simp))
  have e3 : q.kw ≠ q.ki := of_eq_false (ty_ne h.w h.i (by simp))
  have e4 : q.km ≠ q.kc := of_eq_false (ty_ne h.m h.c (by simp))
  have e5 : q.km ≠ q.ki := of_eq_false (ty_ne h.m h.i (by simp))
  have lw := (List.getElem?_eq_some_iff.1 h.w).1
  have lm := (List.getElem?_eq_some_iff.1 h.m).1
  have lc := (List.getElem?_eq_some_iff.1 h.c).1
  subst hH
  refine ⟨⟨?_, ?_, ?_, ?_, h.ne⟩, fun k ob hk n1 n2 n3 => ?_⟩
  · rw [List.getElem?_set_self (by simpa using lw), hg]
  · rw [List.getElem?_set_ne e1, List.getElem?_set_ne (fun e => e4 e.symm), List.getElem?_set_self lm]
  · rw [List.getElem?_set_ne e2, List.getElem?_set_self (by simpa using lc), cntL_set pl row (row.set v x) hv (cntK pl (row.set v x) (idN pl v)) (fun k => by rw [hc k]; split <;> rfl)]
  · rw [List.getElem?_set_ne e3, List.getElem?_set_ne h.ne, List.getElem?_set_ne e5]; exact h.i
  · rw [List.getElem?_set_ne (fun e => n1 e.symm), List.getElem?_set_ne (fun e => n3 e.symm), List.getElem?_set_ne (fun e => n2 e.symm)]; exact hk
theorem wadd_v {pl : List Int} {H : List VObj} {q : WK} {row : List Bool} (hl : pl.length ≤ 100000) (hr : row.length = pl.length) (v nx : Nat) (hv : v < pl.length) (C : AV → List VObj → Nat → Prop) (h : WH pl H q row) (hC : ∀ H', WH pl H' q (row.set v true) → KeepW q H H' → C (.tup []) H' nx) : VCall Try.prog 55 [.ptr q.kw q.sw 0, I v] H nx C := by
  refine VCall.of_body hmix f_alloc_watch_add (by simp) ?_
  have hw := h.w
  have hm := h.m
  have hc := h.c
  have hi := h.i
  have hvr : v < row.length := by omega
  have e0 : row.getD v default = gB row v := rfl
  cases hb : gB row v
  case true =>
    simp only [go_sem,Nat.reduceEqDiff,Nat.reduceAdd,Nat.reduceMul,↓reduceIte,↓dreduceIte,reduceCtorEq,Nat.reduceLeDiff,Nat.reduceLT,Nat.reduceSub,Int.reduceToNat,Int.reduceLE,Int.reduceLT, c_alloc_watch_add, hw, hm, one_imm, one_ref, e0, hb]
    repeat ((with_reducible refine And.intro ?_ ?_); · omega)
    have : row.set v true = row := by
      refine gB_ext (by simp) fun i hi => ?_
      rw [List.length_set] at hi
      rw [gB_set _ _ _ _ hi]
      split
      · rename_i e; subst e; exact hb.symm
      · rfl
    rw [this] at hC
    exact hC H h (KeepW.refl _ _)
  have e1 : (q.km = q.kw) = False := ty_ne hm hw (by simp)
  have e2 : (q.km = q.kc) = False := ty_ne hm hc (by simp)
  have e3 : (q.km = q.ki) = False := ty_ne hm hi (by simp)
  have e4 : (q.kc = q.kw) = False := ty_ne hc hw (by simp)
  have lm := lt_of hm
  have lc := lt_of hc
  have lw := lt_of hw
  have hid := idN_lt pl hv
  have hg := cntL_get pl row hid
  have hidg := idsL_get pl hv
  have hk := cntK_add pl row hvr hb
  have hG := cntG_add pl row hvr hb
  have hcl := cntL_len pl row
  have hle := cnt_le pl row (idN pl v)
  have hpg : pl.getD v default = gP pl v := rfl
  have hset : (cntL' pl row).set (idN pl v) ((cntK pl row (idN pl v) : Int) + 1) = (cntL' pl row).set (idN pl v) (cntK pl (row.set v true) (idN pl v)) := by rw [hk, if_pos rfl]; rfl
  have hck : ∀ k, cntK pl (row.set v true) k = if idN pl v = k then cntK pl (row.set v true) (idN pl v) else cntK pl row k := fun k => by
    by_cases e : idN pl v = k
    · subst e; rw [if_pos rfl]
    · rw [hk, if_neg e, if_neg e, Nat.add_zero]
  by_cases hp : 0 < gP pl v
  · rw [if_pos hp] at hG
    simp only [go_sem,Nat.reduceEqDiff,Nat.reduceAdd,Nat.reduceMul,↓reduceIte,↓dreduceIte,reduceCtorEq,Nat.reduceLeDiff,Nat.reduceLT,Nat.reduceSub,Int.reduceToNat,Int.reduceLE,Int.reduceLT, c_alloc_watch_add, hw, hm, hc, hi, one_imm, one_ref, e0, hb, List.getElem?_set, e1, e2, e3, e4, lm, lc, lw, List.length_set, hidg, hg, hpg, set_B, set_map, eq_true hp]
    repeat ((with_reducible refine And.intro ?_ ?_); · first | omega | (simp; omega))
    rw [i64_in (n := (cntK pl row (idN pl v) : Int) + 1) (by omega) (by omega), i64_in (n := (cntG pl row : Int) + 1) (by omega) (by omega), hset]
    have hw2 := wset v hv (x := true) h hck rfl _ rfl
    rw [show ((cntG pl row : Int) + 1) = ((cntG pl (row.set v true) : Nat) : Int) by omega]
    exact hC _ hw2.1 hw2.2
  · rw [if_neg hp] at hG
    simp only [go_sem,Nat.reduceEqDiff,Nat.reduceAdd,Nat.reduceMul,↓reduceIte,↓dreduceIte,reduceCtorEq,Nat.reduceLeDiff,Nat.reduceLT,Nat.reduceSub,Int.reduceToNat,Int.reduceLE,Int.reduceLT, c_alloc_watch_add, hw, hm, hc, hi, one_imm, one_ref, e0, hb, List.getElem?_set, e1, e2, e3, e4, lm, lc, lw, List.length_set, hidg, hg, hpg, set_B, set_map, eq_false hp]
    repeat ((with_reducible refine And.intro ?_ ?_); · first | omega | (simp; omega))
    rw [i64_in (n := (cntK pl row (idN pl v) : Int) + 1) (by omega) (by omega), hset]
    have he : cntG pl (row.set v true) = cntG pl row := by omega
    have hq := set_of_get (l := (H.set q.km ⟨q.sm, 4, 1, (row.set v true).map B⟩).set q.kc ⟨q.sc, 3, 1, ((cntL' pl row).set (idN pl v) (cntK pl (row.set v true) (idN pl v))).map I⟩) (i := q.kw) (x := ⟨q.sw, 81, 1, [ints pl, .ref q.ki q.si 0 pl.length, .ref q.km q.sm 0 pl.length, .ref q.kc q.sc 0 (seenK pl).length, I (cntG pl row)]⟩) (by
      rw [List.getElem?_set_ne (of_eq_false e4), List.getElem?_set_ne (of_eq_false e1)]; exact hw)
    have hw2 := wset v hv h hck he _ hq.symm
    exact hC _ hw2.1 hw2.2
theorem wdrop_v {pl : List Int} {H : List VObj} {q : WK} {row : List Bool} (hl : pl.length ≤ 100000) (hr : row.length = pl.length) (v nx : Nat) (hv : v < pl.length) (C : AV → List VObj → Nat → Prop) (h : WH pl H q row) (hC : ∀ H', WH pl H' q (row.set v false) → KeepW q H H' → C (.tup []) H' nx) : VCall Try.prog 56 [.ptr q.kw q.sw 0, I v] H nx C := by
  refine VCall.of_body hmix f_alloc_watch_drop (by simp) ?_
  have hw := h.w
  have hm := h.m
  have hc := h.c
  have hi := h.i
  have hvr : v < row.length := by omega
  have e0 : row.getD v default = gB row v := rfl
  cases hb : gB row v
  case false =>
    simp only [go_sem,Nat.reduceEqDiff,Nat.reduceAdd,Nat.reduceMul,↓reduceIte,↓dreduceIte,reduceCtorEq,Nat.reduceLeDiff,Nat.reduceLT,Nat.reduceSub,Int.reduceToNat,Int.reduceLE,Int.reduceLT, c_alloc_watch_drop, hw, hm, one_imm, one_ref, e0, hb]
    repeat ((with_reducible refine And.intro ?_ ?_); · omega)
    have : row.set v false = row := by
      refine gB_ext (by simp) fun i hi => ?_
      rw [List.length_set] at hi
      rw [gB_set _ _ _ _ hi]
      split
      · rename_i e; subst e; exact hb.symm
      · rfl
    rw [this] at hC
    exact hC H h (KeepW.refl _ _)
  have e1 : (q.km = q.kw) = False := ty_ne hm hw (by simp)
  have e2 : (q.km = q.kc) = False := ty_ne hm hc (by simp)
  have e3 : (q.km = q.ki) = False := ty_ne hm hi (by simp)
  have e4 : (q.kc = q.kw) = False := ty_ne hc hw (by simp)
  have lm := lt_of hm
  have lc := lt_of hc
  have lw := lt_of hw
  have hid := idN_lt pl hv
  have hg := cntL_get pl row hid
  have hidg := idsL_get pl hv
  have hk := cntK_drop pl row hvr hb
  have hG := cntG_drop pl row hvr hb
  have hcl := cntL_len pl row
  have hle := cnt_le pl row (idN pl v)
  have hk0 := hk (idN pl v)
  rw [if_pos rfl] at hk0
  have hpg : pl.getD v default = gP pl v := rfl
  have hset : (cntL' pl row).set (idN pl v) ((cntK pl row (idN pl v) : Int) - 1) = (cntL' pl row).set (idN pl v) (cntK pl (row.set v false) (idN pl v)) := by
    have := hk (idN pl v)
    rw [if_pos rfl] at this
    rw [show ((cntK pl row (idN pl v) : Int) - 1) = ((cntK pl (row.set v false) (idN pl v) : Nat) : Int) by omega]
  have hck : ∀ k, cntK pl (row.set v false) k = if idN pl v = k then cntK pl (row.set v false) (idN pl v) else cntK pl row k := fun k => by
    by_cases e : idN pl v = k
    · subst e; rw [if_pos rfl]
    · have := hk k
      rw [if_neg e] at this
      rw [if_neg e]; omega
  by_cases hp : 0 < gP pl v
  · rw [if_pos hp] at hG
    simp only [go_sem,Nat.reduceEqDiff,Nat.reduceAdd,Nat.reduceMul,↓reduceIte,↓dreduceIte,reduceCtorEq,Nat.reduceLeDiff,Nat.reduceLT,Nat.reduceSub,Int.reduceToNat,Int.reduceLE,Int.reduceLT, c_alloc_watch_drop, hw, hm, hc, hi, one_imm, one_ref, e0, hb, List.getElem?_set, e1, e2, e3, e4, lm, lc, lw, List.length_set, hidg, hg, hpg, set_B, set_map, eq_true hp]
    repeat ((with_reducible refine And.intro ?_ ?_); · first | omega | (simp; omega))
    rw [i64_in (n := (cntK pl row (idN pl v) : Int) - 1) (by omega) (by omega), i64_in (n := (cntG pl row : Int) - 1) (by omega) (by omega), hset]
    have hw2 := wset v hv (x := false) h hck rfl _ rfl
    rw [show ((cntG pl row : Int) - 1) = ((cntG pl (row.set v false) : Nat) : Int) by omega]
    exact hC _ hw2.1 hw2.2
  · rw [if_neg hp] at hG
    simp only [go_sem,Nat.reduceEqDiff,Nat.reduceAdd,Nat.reduceMul,↓reduceIte,↓dreduceIte,reduceCtorEq,Nat.reduceLeDiff,Nat.reduceLT,Nat.reduceSub,Int.reduceToNat,Int.reduceLE,Int.reduceLT, c_alloc_watch_drop, hw, hm, hc, hi, one_imm, one_ref, e0, hb, List.getElem?_set, e1, e2, e3, e4, lm, lc, lw, List.length_set, hidg, hg, hpg, set_B, set_map, eq_false hp]
    repeat ((with_reducible refine And.intro ?_ ?_); · first | omega | (simp; omega))
    rw [i64_in (n := (cntK pl row (idN pl v) : Int) - 1) (by omega) (by omega), hset]
    have he : cntG pl (row.set v false) = cntG pl row := by omega
    have hq := set_of_get (l := (H.set q.km ⟨q.sm, 4, 1, (row.set v false).map B⟩).set q.kc ⟨q.sc, 3, 1, ((cntL' pl row).set (idN pl v) (cntK pl (row.set v false) (idN pl v))).map I⟩) (i := q.kw) (x := ⟨q.sw, 81, 1, [ints pl, .ref q.ki q.si 0 pl.length, .ref q.km q.sm 0 pl.length, .ref q.kc q.sc 0 (seenK pl).length, I (cntG pl row)]⟩) (by
      rw [List.getElem?_set_ne (of_eq_false e4), List.getElem?_set_ne (of_eq_false e1)]; exact hw)
    have hw2 := wset v hv h hck he _ hq.symm
    exact hC _ hw2.1 hw2.2
end Go.Proofs.Ytncjbipnkdlkoaa
namespace Go.Proofs.Ytncjbipnkdlkoaa
set_option linter.unusedSimpArgs false
set_option linter.unusedVariables false
set_option maxRecDepth 10000
open Go.V
def blkK (b : Bk) (out : List Bool) (pl : List Int) : Bool := (List.range b.ins.length).all fun i => oneAB (b.ins.getD i default) pl ((behindL b out).getD i default)
theorem oneAB_cnt {t : Tac} {pl : List Int} {row : List Bool} (hr : row.length = pl.length) (hs : 0 ≤ setsL t → setsL t < pl.length) :
    oneAB t pl row = true ↔ (t.op = 10 → cntG pl row = 0) ∧ (0 ≤ setsL t → cntK pl (row.set (setsL t).toNat false) (idN pl (setsL t).toNat) = 0) := by
  unfold oneAB
  rw [decide_eq_true_iff]
  unfold cntG cntK
  rw [countP_zero, countP_zero]
  refine ⟨fun h => ⟨fun ho i hi => ?_, fun hd i hi => ?_⟩, fun ⟨h1, h2⟩ v hv hm => ?_⟩
  · cases hg : gB row i
    · rfl
    · have := h i hi hg
      have h3 : ¬ 0 < gP pl i := fun e => this (.inr ⟨ho, e⟩)
      rw [decide_eq_false h3]; rfl
  · rw [List.length_set] at hi
    have hdl := hs hd
    rw [gB_set _ _ _ _ hi]
    by_cases e : (setsL t).toNat = i
    · rw [if_pos e]; rfl
    · rw [if_neg e]
      cases hg : gB row i
      · rfl
      · have h3 := h i hi hg
        have h4 : ¬ idN pl i = idN pl (setsL t).toNat := fun e2 => h3 (.inl ⟨hd, by omega, (idN_eq pl (by omega) (by omega)).1 e2⟩)
        rw [decide_eq_false h4]; rfl
  · rintro (⟨e1, e2, e3⟩ | ⟨e1, e2⟩)
    · have hdl := hs e1
      have := h2 e1 v (by rw [List.length_set]; exact hv)
      rw [gB_set _ _ _ _ hv, if_neg (by omega), hm, decide_eq_true ((idN_eq pl (by omega) (by omega)).2 e3)] at this
      cases this
    · have := h1 e1 v hv
      rw [hm, decide_eq_true e2] at this
      cases this
theorem sprL_skip (l : List Bool) {k : Nat} (hk : k < l.length) (h : gB l k = false) : sprL l k = sprL l (k + 1) := by
  rw [← sprL_set l hk, h]
  refine gB_ext (by simp) fun v hv => ?_
  rw [sprL_len] at hv
  rw [gB_set _ _ _ _ (by rw [sprL_len]; exact hv)]
  split
  · rename_i e; subst e
    unfold sprL; rw [gB, List.getD]; simp [hk]
  · rfl
theorem KeepW.blk {q : WK} {H H' : List VObj} (h : KeepW q H H') {k : Nat} {ob : VObj} (hk : H[k]? = some ob) (h1 : k ≠ q.kw) (h2 : k ≠ q.km) (h3 : k ≠ q.kc) : H'[k]? = some ob := h k ob hk h1 h2 h3
theorem apg0 (T : List VObj) (x : VObj) : (T ++ [x])[T.length]? = some x := by simp
theorem aps0 (T : List VObj) (x y : VObj) : (T ++ [x]).set T.length y = T ++ [y] := by simp
structure WQ where
  k : Nat
  H : List VObj
  nx : Nat
def insOK (b : Bk) (out : List Bool) (pl : List Int) (k : Nat) : Prop := ∀ i < b.ins.length, b.ins.length - k ≤ i → oneAB (b.ins.getD i default) pl ((behindL b out).getD i default) = true
set_option maxHeartbeats 2000000 in
theorem wblock_v {pl : List Int} {q : WK} (b : Bk) (out : List Bool) (hl : pl.length ≤ 4000) (hol : out.length = pl.length) (hn : b.ins.length ≤ 1000000) (hv : b.e = 2 → 0 ≤ b.v ∧ b.v < pl.length) (hrt : ∀ t ∈ b.ins, RegT t pl.length)
    (H : List VObj) (nx : Nat) (h : WH pl H q (List.replicate pl.length false)) (C : AV → List VObj → Nat → Prop) (hC : ∀ H' nx', KeepW q H H' → C (B (blkK b out pl)) H' nx') :
    VCall Try.prog 34 [.ptr q.kw q.sw 0, bkA b, bools out] H nx C := by
  refine VCall.of_body hmix f_alloc_watch_block (by simp) ?_
  obtain ⟨r, hr⟩ : ∃ r, pl.length = r := ⟨_, rfl⟩
  have lw := (List.getElem?_eq_some_iff.1 h.w).1
  have lm := (List.getElem?_eq_some_iff.1 h.m).1
  have lc := (List.getElem?_eq_some_iff.1 h.c).1
  have n1 : H.length ≠ q.kw := by omega
  have n2 : H.length ≠ q.km := by omega
  have n3 : H.length ≠ q.kc := by omega
  simp only [go_sem,Nat.reduceEqDiff,Nat.reduceAdd,Nat.reduceMul,↓reduceIte,↓dreduceIte,reduceCtorEq,Nat.reduceLeDiff,Nat.reduceLT,Nat.reduceSub,Int.reduceToNat,Int.reduceLE,Int.reduceLT, c_alloc_watch_block, one_imm, one_ref, List.length_map, hol]
  refine VW_loop (fun x : WQ => ⟨[(0, .ptr q.kw q.sw 0), (4, .ptr H.length nx 0), (14, bools out), (15, I pl.length), (16, I x.k)], x.H, x.nx⟩)
    (fun x => x.k ≤ pl.length ∧ WH pl x.H q (sprL out x.k) ∧ KeepW q H x.H ∧ x.H[H.length]? = some ⟨nx, 60, 1, bkL b⟩) (fun x => pl.length - x.k) ⟨0, H ++ [⟨nx, 60, 1, bkL b⟩], nx + 1⟩ ?_ ?_ ?_
  · exact Wk.mk (by simp [get_cons]) ⟨[], by simp⟩ (Nat.le_refl _)
  · refine ⟨Nat.zero_le _, ?_, KeepW.app _ _ _, by simp⟩
    rw [sprL_zero, hol]; exact h.app _
  rintro ⟨k, H1, nx1⟩ ⟨p1, p2, p3, p4⟩
  simp only at p1 p2 p3 p4
  have hsl := sprL_len out k
  by_cases hk : k < pl.length
  · have e0 : out.getD k default = gB out k := rfl
    have hgo : ∀ H2, WH pl H2 q (sprL out (k + 1)) → KeepW q H1 H2 → ∃ s' : WQ, (s'.k ≤ pl.length ∧ WH pl s'.H q (sprL out s'.k) ∧ KeepW q H s'.H ∧ s'.H[H.length]? = some ⟨nx, 60, 1, bkL b⟩) ∧ pl.length - s'.k < pl.length - k ∧ s' = ⟨k + 1, H2, nx1⟩ := fun H2 h1 h2 =>
      ⟨⟨k + 1, H2, nx1⟩, ⟨by simp only; omega, h1, p3.trans h2, h2.blk p4 n1 n2 n3⟩, by simp only; omega, rfl⟩
    cases hg : gB out k
    · have hst := sprL_skip out (show k < out.length by omega) hg
      simp only [go_sem,Nat.reduceEqDiff,Nat.reduceAdd,Nat.reduceMul,↓reduceIte,↓dreduceIte,reduceCtorEq,Nat.reduceLeDiff,Nat.reduceLT,Nat.reduceSub,Int.reduceToNat,Int.reduceLE,Int.reduceLT, one_imm, one_ref, List.length_map, e0, hg, eq_true (show (k : Int) < (pl.length : Int) by omega)]
      repeat ((with_reducible refine And.intro ?_ ?_); · omega)
      rw [i64_in (by omega) (by omega)]
      obtain ⟨s', g1, g2, rfl⟩ := hgo H1 (by rw [← hst]; exact p2) (KeepW.refl _ _)
      exact ⟨_, g1, g2, Wk.mk (by simp [get_cons]) ⟨[], by simp⟩ (Nat.le_refl _)⟩
    · have hst := sprL_set out (show k < out.length by omega)
      rw [hg] at hst
      simp only [go_sem,Nat.reduceEqDiff,Nat.reduceAdd,Nat.reduceMul,↓reduceIte,↓dreduceIte,reduceCtorEq,Nat.reduceLeDiff,Nat.reduceLT,Nat.reduceSub,Int.reduceToNat,Int.reduceLE,Int.reduceLT, one_imm, one_ref, List.length_map, e0, hg, eq_true (show (k : Int) < (pl.length : Int) by omega)]
      repeat ((with_reducible refine And.intro ?_ ?_); · omega)
      refine wadd_v (by omega) (by rw [sprL_len]; exact hol) k nx1 hk _ p2 fun H2 h1 h2 => ?_
      rw [hst] at h1
      simp only [go_sem,Nat.reduceEqDiff,Nat.reduceAdd,Nat.reduceMul,↓reduceIte,↓dreduceIte,reduceCtorEq,Nat.reduceLeDiff,Nat.reduceLT,Nat.reduceSub,Int.reduceToNat,Int.reduceLE,Int.reduceLT, one_imm, one_ref, List.length_map]
      rw [i64_in (by omega) (by omega)]
      obtain ⟨s', g1, g2, rfl⟩ := hgo H2 h1 h2
      exact ⟨_, g1, g2, Wk.mk (by simp [get_cons]) ⟨[], by simp⟩ (Nat.le_refl _)⟩
  obtain rfl : k = pl.length := by omega
  have hall : sprL out pl.length = out := by rw [← hol]; exact sprL_all out
  rw [hall] at p2
  simp only [go_sem,Nat.reduceEqDiff,Nat.reduceAdd,Nat.reduceMul,↓reduceIte,↓dreduceIte,reduceCtorEq,Nat.reduceLeDiff,Nat.reduceLT,Nat.reduceSub,Int.reduceToNat,Int.reduceLE,Int.reduceLT, one_imm, one_ref, List.length_map, eq_false (show ¬ (pl.length : Int) < (pl.length : Int) by omega), p4]
  -- the instructions, the last one first
  have hw0 : IntKind.i64.wrap ((b.ins.length : Int) - 1) = (b.ins.length : Int) - 1 := i64_in (by omega) (by omega)
  by_cases he : b.e = 2
  · obtain ⟨hv1, hv2⟩ := hv he
    obtain ⟨v, hvv⟩ : ∃ v : Nat, b.v = (v : Int) := ⟨b.v.toNat, by omega⟩
    simp only [go_sem,Nat.reduceEqDiff,Nat.reduceAdd,Nat.reduceMul,↓reduceIte,↓dreduceIte,reduceCtorEq,Nat.reduceLeDiff,Nat.reduceLT,Nat.reduceSub,Int.reduceToNat,Int.reduceLE,Int.reduceLT, one_imm, one_ref, List.length_map, p4, he, hvv, hw0]
    refine wadd_v (by omega) hol v nx1 (by omega) _ p2 fun H2 g1 g2 => ?_
    have h1 : WH pl H2 q (lastL b out) := by rw [← last_pos he, hvv, Int.toNat_natCast]; exact g1
    have h2 := p3.trans g2
    have h3 := g2.blk p4 n1 n2 n3
    simp only [go_sem,Nat.reduceEqDiff,Nat.reduceAdd,Nat.reduceMul,↓reduceIte,↓dreduceIte,reduceCtorEq,Nat.reduceLeDiff,Nat.reduceLT,Nat.reduceSub,Int.reduceToNat,Int.reduceLE,Int.reduceLT, one_imm, one_ref, List.length_map, h3, hw0]
    refine VW_loop (fun y : WQ => ⟨[(0, .ptr q.kw q.sw 0), (4, .ptr H.length nx 0), (9, I ((b.ins.length : Int) - 1 - y.k))], y.H, y.nx⟩)
      (fun y => y.k ≤ b.ins.length ∧ WH pl y.H q (atL b out y.k) ∧ KeepW q H y.H ∧ y.H[H.length]? = some ⟨nx, 60, 1, bkL b⟩ ∧ insOK b out pl y.k) (fun y => b.ins.length - y.k) ⟨0, _, _⟩
      (Wk.mk (by simp [get_cons, hw0]) ⟨[], (List.append_nil _).symm⟩ (Nat.le_refl _)) ⟨Nat.zero_le _, by rw [atL_zero]; exact h1, h2, h3, (show insOK b out pl 0 from fun i g1 g2 => by omega)⟩ ?_
    rintro ⟨k, H2, nx2⟩ ⟨q0, q1, q2, q3, qok⟩
    simp only at q0 q1 q2 q3 qok
    by_cases hk2 : k < b.ins.length
    · have e1 : ((b.ins.length : Int) - 1 - k).toNat = b.ins.length - k - 1 := by omega
      have hmt := mem_getD (show b.ins.length - k - 1 < b.ins.length by omega)
      have hrg := hrt _ hmt
      have hbg := behindL_get b out (show b.ins.length - k - 1 < b.ins.length by omega)
      rw [show b.ins.length - k - 1 + 1 = b.ins.length - k by omega] at hbg
      have hxl := atL_len b out k
      rw [hol] at hxl
      obtain ⟨x, hxd⟩ : ∃ x, atL b out k = x := ⟨_, rfl⟩
      replace hbg : (behindL b out).getD (b.ins.length - k - 1) default = x := hbg.trans hxd
      rw [hxd] at q1 hxl
      obtain ⟨t, hti⟩ : ∃ t, b.ins.getD (b.ins.length - k - 1) default = t := ⟨_, rfl⟩
      rw [hti] at hrg
      have hsl2 : 0 ≤ setsL t → setsL t < pl.length := fun h => by rcases hrg.sets with e | e <;> omega
      have hcnt := oneAB_cnt (t := t) (pl := pl) (row := x) hxl hsl2
      have hfalse : oneAB t pl x = false → blkK b out pl = false := fun e => by
        unfold blkK
        exact List.all_eq_false.2 ⟨b.ins.length - k - 1, List.mem_range.2 (by omega), by rw [hti, hbg, e]; decide⟩
      have hnext : oneAB t pl x = true → insOK b out pl (k + 1) := fun e i g1 g2 => by
        by_cases e2 : i = b.ins.length - k - 1
        · rw [e2, hti, hbg]; exact e
        · exact qok i g1 (by omega)
      have q4 := q1.app [⟨nx2, 57, 1, tacL t⟩]
      have q5 : KeepW q H (H2 ++ [⟨nx2, 57, 1, tacL t⟩]) := q2.trans (KeepW.app _ _ _)
      have qt : (H2 ++ [⟨nx2, 57, 1, tacL t⟩])[H2.length]? = some ⟨nx2, 57, 1, tacL t⟩ := by simp
      have qw := q4.w
      have hGle := (cnt_le pl x 0).2
      have m0 := (List.getElem?_eq_some_iff.1 q1.w).1
      have m1 : H2.length ≠ q.kw := by omega
      have m2 : H2.length ≠ q.km := by have := (List.getElem?_eq_some_iff.1 q1.m).1; omega
      have m3 : H2.length ≠ q.kc := by have := (List.getElem?_eq_some_iff.1 q1.c).1; omega
      have q3' := app_old q3 [⟨nx2, 57, 1, tacL t⟩]
      by_cases ho : t.op = 10
      · by_cases hG : 0 < cntG pl x
        · simp only [go_sem,Nat.reduceEqDiff,Nat.reduceAdd,Nat.reduceMul,↓reduceIte,↓dreduceIte,reduceCtorEq,Nat.reduceLeDiff,Nat.reduceLT,Nat.reduceSub,Int.reduceToNat,Int.reduceLE,Int.reduceLT, one_imm, one_ref, List.length_map, q3, qt, qw, apg0, aps0, e1, hti, eq_true ho, eq_true (show (0 : Int) ≤ (b.ins.length : Int) - 1 - k by omega), eq_true (show (0 : Int) < (cntG pl x : Int) by omega)]
          repeat ((with_reducible refine And.intro ?_ ?_); · omega)
          have := hfalse (by
            cases e : oneAB t pl x
            · rfl
            · have h9 := (hcnt.1 e).1 ho
              omega)
          rw [this] at hC
          exact hC _ _ q5
        · have h10 : t.op = 10 → cntG pl x = 0 := fun _ => by omega
          simp only [go_sem,Nat.reduceEqDiff,Nat.reduceAdd,Nat.reduceMul,↓reduceIte,↓dreduceIte,reduceCtorEq,Nat.reduceLeDiff,Nat.reduceLT,Nat.reduceSub,Int.reduceToNat,Int.reduceLE,Int.reduceLT, one_imm, one_ref, List.length_map, q3, qt, qw, apg0, aps0, e1, hti, eq_true ho, eq_true (show (0 : Int) ≤ (b.ins.length : Int) - 1 - k by omega), eq_false (show ¬ (0 : Int) < (cntG pl x : Int) by omega)]
          repeat ((with_reducible refine And.intro ?_ ?_); · omega)
          replace q3 := q3'
          refine VCall.of_contract (bSets_c t) (SleL.pure rfl) fun y hy => ?_
          subst hy
          by_cases hd : 0 ≤ setsL t
          · have hdl := hsl2 hd
            obtain ⟨d, hdd⟩ : ∃ d : Nat, setsL t = (d : Int) := ⟨(setsL t).toNat, by omega⟩
            have hid := idN_lt pl (show d < pl.length by omega)
            have hidg := idsL_get pl (show d < pl.length by omega)
            have hcle := cnt_le pl (x.set d false) (idN pl d)
            simp only [go_sem,Nat.reduceEqDiff,Nat.reduceAdd,Nat.reduceMul,↓reduceIte,↓dreduceIte,reduceCtorEq,Nat.reduceLeDiff,Nat.reduceLT,Nat.reduceSub,Int.reduceToNat,Int.reduceLE,Int.reduceLT, one_imm, one_ref, List.length_map, hdd, eq_true (show (0 : Int) ≤ (d : Int) by omega)]
            refine wdrop_v (by omega) hxl d _ (by omega) _ q4 fun H5 w1 w2 => ?_
            have hcg := cntL_get pl (x.set d false) hid
            have hcl := cntL_len pl (x.set d false)
            have q6 := w1.w
            have q7 := w1.c
            have q8 := w1.i
            by_cases hK : 0 < cntK pl (x.set d false) (idN pl d)
            · simp only [go_sem,Nat.reduceEqDiff,Nat.reduceAdd,Nat.reduceMul,↓reduceIte,↓dreduceIte,reduceCtorEq,Nat.reduceLeDiff,Nat.reduceLT,Nat.reduceSub,Int.reduceToNat,Int.reduceLE,Int.reduceLT, one_imm, one_ref, List.length_map, hdd, q6, q7, q8, hidg, hcg, hcl, eq_true (show (0 : Int) < (cntK pl (x.set d false) (idN pl d) : Int) by omega)]
              repeat ((with_reducible refine And.intro ?_ ?_); · first | omega | (simp; omega))
              have := hfalse (by
                cases e : oneAB t pl x
                · rfl
                · have h9 := (hcnt.1 e).2 hd
                  rw [hdd, Int.toNat_natCast] at h9
                  omega)
              rw [this] at hC
              exact hC _ _ (q5.trans w2)
            · simp only [go_sem,Nat.reduceEqDiff,Nat.reduceAdd,Nat.reduceMul,↓reduceIte,↓dreduceIte,reduceCtorEq,Nat.reduceLeDiff,Nat.reduceLT,Nat.reduceSub,Int.reduceToNat,Int.reduceLE,Int.reduceLT, one_imm, one_ref, List.length_map, hdd, q6, q7, q8, hidg, hcg, hcl, eq_false (show ¬ (0 : Int) < (cntK pl (x.set d false) (idN pl d) : Int) by omega), w2.blk qt m1 m2 m3]
              repeat ((with_reducible refine And.intro ?_ ?_); · first | omega | (simp; omega))
              have hok := hnext (hcnt.2 ⟨h10, fun _ => by rw [hdd, Int.toNat_natCast]; omega⟩)
              have hu1 : WH pl H5 q (useL (clearL t x) ((usesL t).take 0)) := by
                have : clearL t x = x.set d false := by unfold clearL; rw [if_pos hd, hdd, Int.toNat_natCast]
                rw [this]; exact w1
              have hu2 := q5.trans w2
              have hu3 := w2.blk q3 n1 n2 n3
              have hul := usesL_len t
              refine VCall.of_contract (bUses_c t).old (SleL.pure rfl) fun y hy => ?_
              subst hy
              simp only [go_sem,Nat.reduceEqDiff,Nat.reduceAdd,Nat.reduceMul,↓reduceIte,↓dreduceIte,reduceCtorEq,Nat.reduceLeDiff,Nat.reduceLT,Nat.reduceSub,Int.reduceToNat,Int.reduceLE,Int.reduceLT, one_imm, one_ref, List.length_map]
              refine VW_loop (fun y : WQ => ⟨[(0, .ptr q.kw q.sw 0), (4, .ptr H.length nx 0), (9, I ((b.ins.length : Int) - 1 - k)), (78, ints (usesL t)), (79, I (usesL t).length), (80, I y.k)], y.H, y.nx⟩)
                (fun y => y.k ≤ (usesL t).length ∧ WH pl y.H q (useL (clearL t x) ((usesL t).take y.k)) ∧ KeepW q H y.H ∧ y.H[H.length]? = some ⟨nx, 60, 1, bkL b⟩) (fun y => (usesL t).length - y.k) ⟨0, _, _⟩
                (Wk.mk (by simp [get_cons]) ⟨[], (List.append_nil _).symm⟩ (Nat.le_refl _)) ⟨Nat.zero_le _, hu1, hu2, hu3⟩ ?_
              rintro ⟨j, H4, nx4⟩ ⟨u1, u2, u3, u4⟩
              simp only at u1 u2 u3 u4
              by_cases hj : j < (usesL t).length
              · obtain ⟨g1, g2⟩ := hrg.1 _ (mem_getD hj)
                have htk := useL_take (clearL t x) (usesL t) hj
                obtain ⟨u, hu⟩ : ∃ u : Nat, (usesL t).getD j default = (u : Int) := ⟨((usesL t).getD j default).toNat, by omega⟩
                rw [hu] at g2 htk
                rw [Int.toNat_natCast] at htk
                simp only [go_sem,Nat.reduceEqDiff,Nat.reduceAdd,Nat.reduceMul,↓reduceIte,↓dreduceIte,reduceCtorEq,Nat.reduceLeDiff,Nat.reduceLT,Nat.reduceSub,Int.reduceToNat,Int.reduceLE,Int.reduceLT, one_imm, one_ref, List.length_map, hu, eq_true (show (j : Int) < ((usesL t).length : Int) by omega)]
                repeat ((with_reducible refine And.intro ?_ ?_); · omega)
                refine wadd_v (by omega) (by rw [useL_len, clearL_len]; exact hxl) u nx4 (by omega) _ u2 fun H5 w1 w2 => ?_
                rw [← htk] at w1
                simp only [go_sem,Nat.reduceEqDiff,Nat.reduceAdd,Nat.reduceMul,↓reduceIte,↓dreduceIte,reduceCtorEq,Nat.reduceLeDiff,Nat.reduceLT,Nat.reduceSub,Int.reduceToNat,Int.reduceLE,Int.reduceLT, one_imm, one_ref, List.length_map]
                rw [i64_in (by omega) (by omega)]
                exact ⟨⟨j + 1, H5, nx4⟩, ⟨by simp only; omega, w1, u3.trans w2, w2.blk u4 n1 n2 n3⟩, by simp only; omega, Wk.mk (by simp [get_cons]) ⟨[], (List.append_nil _).symm⟩ (Nat.le_refl _)⟩
              · simp only [go_sem,Nat.reduceEqDiff,Nat.reduceAdd,Nat.reduceMul,↓reduceIte,↓dreduceIte,reduceCtorEq,Nat.reduceLeDiff,Nat.reduceLT,Nat.reduceSub,Int.reduceToNat,Int.reduceLE,Int.reduceLT, one_imm, one_ref, List.length_map, eq_false (show ¬ (j : Int) < ((usesL t).length : Int) by omega)]
                rw [List.take_of_length_le (by omega)] at u2
                have hst := atL_step b out hk2
                rw [hti, hxd] at hst
                have hbk : useL (clearL t x) (usesL t) = atL b out (k + 1) := hst
                rw [hbk] at u2
                rw [i64_in (by omega) (by omega)]
                exact ⟨⟨k + 1, H4, nx4⟩, ⟨by simp only; omega, u2, u3, u4, hok⟩, by simp only; omega, Wk.mk (by simp [get_cons]; omega) ⟨[], (List.append_nil _).symm⟩ (Nat.le_refl _)⟩
          · simp only [go_sem,Nat.reduceEqDiff,Nat.reduceAdd,Nat.reduceMul,↓reduceIte,↓dreduceIte,reduceCtorEq,Nat.reduceLeDiff,Nat.reduceLT,Nat.reduceSub,Int.reduceToNat,Int.reduceLE,Int.reduceLT, one_imm, one_ref, List.length_map, eq_false hd, qt]
            have hok := hnext (hcnt.2 ⟨h10, fun e => absurd e hd⟩)
            have hu1 : WH pl (H2 ++ [⟨nx2, 57, 1, tacL t⟩]) q (useL (clearL t x) ((usesL t).take 0)) := by
              have : clearL t x = x := by unfold clearL; rw [if_neg hd]
              rw [this]; exact q4
            have hu2 := q5
            have hu3 := q3
            have hul := usesL_len t
            refine VCall.of_contract (bUses_c t).old (SleL.pure rfl) fun y hy => ?_
            subst hy
            simp only [go_sem,Nat.reduceEqDiff,Nat.reduceAdd,Nat.reduceMul,↓reduceIte,↓dreduceIte,reduceCtorEq,Nat.reduceLeDiff,Nat.reduceLT,Nat.reduceSub,Int.reduceToNat,Int.reduceLE,Int.reduceLT, one_imm, one_ref, List.length_map]
            refine VW_loop (fun y : WQ => ⟨[(0, .ptr q.kw q.sw 0), (4, .ptr H.length nx 0), (9, I ((b.ins.length : Int) - 1 - k)), (78, ints (usesL t)), (79, I (usesL t).length), (80, I y.k)], y.H, y.nx⟩)
              (fun y => y.k ≤ (usesL t).length ∧ WH pl y.H q (useL (clearL t x) ((usesL t).take y.k)) ∧ KeepW q H y.H ∧ y.H[H.length]? = some ⟨nx, 60, 1, bkL b⟩) (fun y => (usesL t).length - y.k) ⟨0, _, _⟩
              (Wk.mk (by simp [get_cons]) ⟨[], (List.append_nil _).symm⟩ (Nat.le_refl _)) ⟨Nat.zero_le _, hu1, hu2, hu3⟩ ?_
            rintro ⟨j, H4, nx4⟩ ⟨u1, u2, u3, u4⟩
            simp only at u1 u2 u3 u4
            by_cases hj : j < (usesL t).length
            · obtain ⟨g1, g2⟩ := hrg.1 _ (mem_getD hj)
              have htk := useL_take (clearL t x) (usesL t) hj
              obtain ⟨u, hu⟩ : ∃ u : Nat, (usesL t).getD j default = (u : Int) := ⟨((usesL t).getD j default).toNat, by omega⟩
              rw [hu] at g2 htk
              rw [Int.toNat_natCast] at htk
              simp only [go_sem,Nat.reduceEqDiff,Nat.reduceAdd,Nat.reduceMul,↓reduceIte,↓dreduceIte,reduceCtorEq,Nat.reduceLeDiff,Nat.reduceLT,Nat.reduceSub,Int.reduceToNat,Int.reduceLE,Int.reduceLT, one_imm, one_ref, List.length_map, hu, eq_true (show (j : Int) < ((usesL t).length : Int) by omega)]
              repeat ((with_reducible refine And.intro ?_ ?_); · omega)
              refine wadd_v (by omega) (by rw [useL_len, clearL_len]; exact hxl) u nx4 (by omega) _ u2 fun H5 w1 w2 => ?_
              rw [← htk] at w1
              simp only [go_sem,Nat.reduceEqDiff,Nat.reduceAdd,Nat.reduceMul,↓reduceIte,↓dreduceIte,reduceCtorEq,Nat.reduceLeDiff,Nat.reduceLT,Nat.reduceSub,Int.reduceToNat,Int.reduceLE,Int.reduceLT, one_imm, one_ref, List.length_map]
              rw [i64_in (by omega) (by omega)]
              exact ⟨⟨j + 1, H5, nx4⟩, ⟨by simp only; omega, w1, u3.trans w2, w2.blk u4 n1 n2 n3⟩, by simp only; omega, Wk.mk (by simp [get_cons]) ⟨[], (List.append_nil _).symm⟩ (Nat.le_refl _)⟩
            · simp only [go_sem,Nat.reduceEqDiff,Nat.reduceAdd,Nat.reduceMul,↓reduceIte,↓dreduceIte,reduceCtorEq,Nat.reduceLeDiff,Nat.reduceLT,Nat.reduceSub,Int.reduceToNat,Int.reduceLE,Int.reduceLT, one_imm, one_ref, List.length_map, eq_false (show ¬ (j : Int) < ((usesL t).length : Int) by omega)]
              rw [List.take_of_length_le (by omega)] at u2
              have hst := atL_step b out hk2
              rw [hti, hxd] at hst
              have hbk : useL (clearL t x) (usesL t) = atL b out (k + 1) := hst
              rw [hbk] at u2
              rw [i64_in (by omega) (by omega)]
              exact ⟨⟨k + 1, H4, nx4⟩, ⟨by simp only; omega, u2, u3, u4, hok⟩, by simp only; omega, Wk.mk (by simp [get_cons]; omega) ⟨[], (List.append_nil _).symm⟩ (Nat.le_refl _)⟩
      · have h10 : t.op = 10 → cntG pl x = 0 := fun e => absurd e ho
        simp only [go_sem,Nat.reduceEqDiff,Nat.reduceAdd,Nat.reduceMul,↓reduceIte,↓dreduceIte,reduceCtorEq,Nat.reduceLeDiff,Nat.reduceLT,Nat.reduceSub,Int.reduceToNat,Int.reduceLE,Int.reduceLT, one_imm, one_ref, List.length_map, q3, qt, qw, apg0, aps0, e1, hti, eq_false ho, eq_true (show (0 : Int) ≤ (b.ins.length : Int) - 1 - k by omega)]
        repeat ((with_reducible refine And.intro ?_ ?_); · omega)
        replace q3 := q3'
        refine VCall.of_contract (bSets_c t) (SleL.pure rfl) fun y hy => ?_
        subst hy
        by_cases hd : 0 ≤ setsL t
        · have hdl := hsl2 hd
          obtain ⟨d, hdd⟩ : ∃ d : Nat, setsL t = (d : Int) := ⟨(setsL t).toNat, by omega⟩
          have hid := idN_lt pl (show d < pl.length by omega)
          have hidg := idsL_get pl (show d < pl.length by omega)
          have hcle := cnt_le pl (x.set d false) (idN pl d)
          simp only [go_sem,Nat.reduceEqDiff,Nat.reduceAdd,Nat.reduceMul,↓reduceIte,↓dreduceIte,reduceCtorEq,Nat.reduceLeDiff,Nat.reduceLT,Nat.reduceSub,Int.reduceToNat,Int.reduceLE,Int.reduceLT, one_imm, one_ref, List.length_map, hdd, eq_true (show (0 : Int) ≤ (d : Int) by omega)]
          refine wdrop_v (by omega) hxl d _ (by omega) _ q4 fun H5 w1 w2 => ?_
          have hcg := cntL_get pl (x.set d false) hid
          have hcl := cntL_len pl (x.set d false)
          have q6 := w1.w
          have q7 := w1.c
          have q8 := w1.i
          by_cases hK : 0 < cntK pl (x.set d false) (idN pl d)
          · simp only [go_sem,Nat.reduceEqDiff,Nat.reduceAdd,Nat.reduceMul,↓reduceIte,↓dreduceIte,reduceCtorEq,Nat.reduceLeDiff,Nat.reduceLT,Nat.reduceSub,Int.reduceToNat,Int.reduceLE,Int.reduceLT, one_imm, one_ref, List.length_map, hdd, q6, q7, q8, hidg, hcg, hcl, eq_true (show (0 : Int) < (cntK pl (x.set d false) (idN pl d) : Int) by omega)]
            repeat ((with_reducible refine And.intro ?_ ?_); · first | omega | (simp; omega))
            have := hfalse (by
              cases e : oneAB t pl x
              · rfl
              · have h9 := (hcnt.1 e).2 hd
                rw [hdd, Int.toNat_natCast] at h9
                omega)
            rw [this] at hC
            exact hC _ _ (q5.trans w2)
          · simp only [go_sem,Nat.reduceEqDiff,Nat.reduceAdd,Nat.reduceMul,↓reduceIte,↓dreduceIte,reduceCtorEq,Nat.reduceLeDiff,Nat.reduceLT,Nat.reduceSub,Int.reduceToNat,Int.reduceLE,Int.reduceLT, one_imm, one_ref, List.length_map, hdd, q6, q7, q8, hidg, hcg, hcl, eq_false (show ¬ (0 : Int) < (cntK pl (x.set d false) (idN pl d) : Int) by omega), w2.blk qt m1 m2 m3]
            repeat ((with_reducible refine And.intro ?_ ?_); · first | omega | (simp; omega))
            have hok := hnext (hcnt.2 ⟨h10, fun _ => by rw [hdd, Int.toNat_natCast]; omega⟩)
            have hu1 : WH pl H5 q (useL (clearL t x) ((usesL t).take 0)) := by
              have : clearL t x = x.set d false := by unfold clearL; rw [if_pos hd, hdd, Int.toNat_natCast]
              rw [this]; exact w1
            have hu2 := q5.trans w2
            have hu3 := w2.blk q3 n1 n2 n3
            have hul := usesL_len t
            refine VCall.of_contract (bUses_c t).old (SleL.pure rfl) fun y hy => ?_
            subst hy
            simp only [go_sem,Nat.reduceEqDiff,Nat.reduceAdd,Nat.reduceMul,↓reduceIte,↓dreduceIte,reduceCtorEq,Nat.reduceLeDiff,Nat.reduceLT,Nat.reduceSub,Int.reduceToNat,Int.reduceLE,Int.reduceLT, one_imm, one_ref, List.length_map]
            refine VW_loop (fun y : WQ => ⟨[(0, .ptr q.kw q.sw 0), (4, .ptr H.length nx 0), (9, I ((b.ins.length : Int) - 1 - k)), (78, ints (usesL t)), (79, I (usesL t).length), (80, I y.k)], y.H, y.nx⟩)
              (fun y => y.k ≤ (usesL t).length ∧ WH pl y.H q (useL (clearL t x) ((usesL t).take y.k)) ∧ KeepW q H y.H ∧ y.H[H.length]? = some ⟨nx, 60, 1, bkL b⟩) (fun y => (usesL t).length - y.k) ⟨0, _, _⟩
              (Wk.mk (by simp [get_cons]) ⟨[], (List.append_nil _).symm⟩ (Nat.le_refl _)) ⟨Nat.zero_le _, hu1, hu2, hu3⟩ ?_
            rintro ⟨j, H4, nx4⟩ ⟨u1, u2, u3, u4⟩
            simp only at u1 u2 u3 u4
            by_cases hj : j < (usesL t).length
            · obtain ⟨g1, g2⟩ := hrg.1 _ (mem_getD hj)
              have htk := useL_take (clearL t x) (usesL t) hj
              obtain ⟨u, hu⟩ : ∃ u : Nat, (usesL t).getD j default = (u : Int) := ⟨((usesL t).getD j default).toNat, by omega⟩
              rw [hu] at g2 htk
              rw [Int.toNat_natCast] at htk
              simp only [go_sem,Nat.reduceEqDiff,Nat.reduceAdd,Nat.reduceMul,↓reduceIte,↓dreduceIte,reduceCtorEq,Nat.reduceLeDiff,Nat.reduceLT,Nat.reduceSub,Int.reduceToNat,Int.reduceLE,Int.reduceLT, one_imm, one_ref, List.length_map, hu, eq_true (show (j : Int) < ((usesL t).length : Int) by omega)]
              repeat ((with_reducible refine And.intro ?_ ?_); · omega)
              refine wadd_v (by omega) (by rw [useL_len, clearL_len]; exact hxl) u nx4 (by omega) _ u2 fun H5 w1 w2 => ?_
              rw [← htk] at w1
              simp only [go_sem,Nat.reduceEqDiff,Nat.reduceAdd,Nat.reduceMul,↓reduceIte,↓dreduceIte,reduceCtorEq,Nat.reduceLeDiff,Nat.reduceLT,Nat.reduceSub,Int.reduceToNat,Int.reduceLE,Int.reduceLT, one_imm, one_ref, List.length_map]
              rw [i64_in (by omega) (by omega)]
              exact ⟨⟨j + 1, H5, nx4⟩, ⟨by simp only; omega, w1, u3.trans w2, w2.blk u4 n1 n2 n3⟩, by simp only; omega, Wk.mk (by simp [get_cons]) ⟨[], (List.append_nil _).symm⟩ (Nat.le_refl _)⟩
            · simp only [go_sem,Nat.reduceEqDiff,Nat.reduceAdd,Nat.reduceMul,↓reduceIte,↓dreduceIte,reduceCtorEq,Nat.reduceLeDiff,Nat.reduceLT,Nat.reduceSub,Int.reduceToNat,Int.reduceLE,Int.reduceLT, one_imm, one_ref, List.length_map, eq_false (show ¬ (j : Int) < ((usesL t).length : Int) by omega)]
              rw [List.take_of_length_le (by omega)] at u2
              have hst := atL_step b out hk2
              rw [hti, hxd] at hst
              have hbk : useL (clearL t x) (usesL t) = atL b out (k + 1) := hst
              rw [hbk] at u2
              rw [i64_in (by omega) (by omega)]
              exact ⟨⟨k + 1, H4, nx4⟩, ⟨by simp only; omega, u2, u3, u4, hok⟩, by simp only; omega, Wk.mk (by simp [get_cons]; omega) ⟨[], (List.append_nil _).symm⟩ (Nat.le_refl _)⟩
        · simp only [go_sem,Nat.reduceEqDiff,Nat.reduceAdd,Nat.reduceMul,↓reduceIte,↓dreduceIte,reduceCtorEq,Nat.reduceLeDiff,Nat.reduceLT,Nat.reduceSub,Int.reduceToNat,Int.reduceLE,Int.reduceLT, one_imm, one_ref, List.length_map, eq_false hd, qt]
          have hok := hnext (hcnt.2 ⟨h10, fun e => absurd e hd⟩)
          have hu1 : WH pl (H2 ++ [⟨nx2, 57, 1, tacL t⟩]) q (useL (clearL t x) ((usesL t).take 0)) := by
            have : clearL t x = x := by unfold clearL; rw [if_neg hd]
            rw [this]; exact q4
          have hu2 := q5
          have hu3 := q3
          have hul := usesL_len t
          refine VCall.of_contract (bUses_c t).old (SleL.pure rfl) fun y hy => ?_
          subst hy
          simp only [go_sem,Nat.reduceEqDiff,Nat.reduceAdd,Nat.reduceMul,↓reduceIte,↓dreduceIte,reduceCtorEq,Nat.reduceLeDiff,Nat.reduceLT,Nat.reduceSub,Int.reduceToNat,Int.reduceLE,Int.reduceLT, one_imm, one_ref, List.length_map]
          refine VW_loop (fun y : WQ => ⟨[(0, .ptr q.kw q.sw 0), (4, .ptr H.length nx 0), (9, I ((b.ins.length : Int) - 1 - k)), (78, ints (usesL t)), (79, I (usesL t).length), (80, I y.k)], y.H, y.nx⟩)
            (fun y => y.k ≤ (usesL t).length ∧ WH pl y.H q (useL (clearL t x) ((usesL t).take y.k)) ∧ KeepW q H y.H ∧ y.H[H.length]? = some ⟨nx, 60, 1, bkL b⟩) (fun y => (usesL t).length - y.k) ⟨0, _, _⟩
            (Wk.mk (by simp [get_cons]) ⟨[], (List.append_nil _).symm⟩ (Nat.le_refl _)) ⟨Nat.zero_le _, hu1, hu2, hu3⟩ ?_
          rintro ⟨j, H4, nx4⟩ ⟨u1, u2, u3, u4⟩
          simp only at u1 u2 u3 u4
          by_cases hj : j < (usesL t).length
          · obtain ⟨g1, g2⟩ := hrg.1 _ (mem_getD hj)
            have htk := useL_take (clearL t x) (usesL t) hj
            obtain ⟨u, hu⟩ : ∃ u : Nat, (usesL t).getD j default = (u : Int) := ⟨((usesL t).getD j default).toNat, by omega⟩
            rw [hu] at g2 htk
            rw [Int.toNat_natCast] at htk
            simp only [go_sem,Nat.reduceEqDiff,Nat.reduceAdd,Nat.reduceMul,↓reduceIte,↓dreduceIte,reduceCtorEq,Nat.reduceLeDiff,Nat.reduceLT,Nat.reduceSub,Int.reduceToNat,Int.reduceLE,Int.reduceLT, one_imm, one_ref, List.length_map, hu, eq_true (show (j : Int) < ((usesL t).length : Int) by omega)]
            repeat ((with_reducible refine And.intro ?_ ?_); · omega)
            refine wadd_v (by omega) (by rw [useL_len, clearL_len]; exact hxl) u nx4 (by omega) _ u2 fun H5 w1 w2 => ?_
            rw [← htk] at w1
            simp only [go_sem,Nat.reduceEqDiff,Nat.reduceAdd,Nat.reduceMul,↓reduceIte,↓dreduceIte,reduceCtorEq,Nat.reduceLeDiff,Nat.reduceLT,Nat.reduceSub,Int.reduceToNat,Int.reduceLE,Int.reduceLT, one_imm, one_ref, List.length_map]
            rw [i64_in (by omega) (by omega)]
            exact ⟨⟨j + 1, H5, nx4⟩, ⟨by simp only; omega, w1, u3.trans w2, w2.blk u4 n1 n2 n3⟩, by simp only; omega, Wk.mk (by simp [get_cons]) ⟨[], (List.append_nil _).symm⟩ (Nat.le_refl _)⟩
          · simp only [go_sem,Nat.reduceEqDiff,Nat.reduceAdd,Nat.reduceMul,↓reduceIte,↓dreduceIte,reduceCtorEq,Nat.reduceLeDiff,Nat.reduceLT,Nat.reduceSub,Int.reduceToNat,Int.reduceLE,Int.reduceLT, one_imm, one_ref, List.length_map, eq_false (show ¬ (j : Int) < ((usesL t).length : Int) by omega)]
            rw [List.take_of_length_le (by omega)] at u2
            have hst := atL_step b out hk2
            rw [hti, hxd] at hst
            have hbk : useL (clearL t x) (usesL t) = atL b out (k + 1) := hst
            rw [hbk] at u2
            rw [i64_in (by omega) (by omega)]
            exact ⟨⟨k + 1, H4, nx4⟩, ⟨by simp only; omega, u2, u3, u4, hok⟩, by simp only; omega, Wk.mk (by simp [get_cons]; omega) ⟨[], (List.append_nil _).symm⟩ (Nat.le_refl _)⟩
    · simp only [go_sem,Nat.reduceEqDiff,Nat.reduceAdd,Nat.reduceMul,↓reduceIte,↓dreduceIte,reduceCtorEq,Nat.reduceLeDiff,Nat.reduceLT,Nat.reduceSub,Int.reduceToNat,Int.reduceLE,Int.reduceLT, one_imm, one_ref, List.length_map, eq_false (show ¬ (0 : Int) ≤ (b.ins.length : Int) - 1 - k by omega)]
      have : blkK b out pl = true := by
        unfold blkK
        rw [List.all_eq_true]
        exact fun i hi => qok i (List.mem_range.1 hi) (by omega)
      rw [this] at hC
      exact hC _ _ q2
  · simp only [go_sem,Nat.reduceEqDiff,Nat.reduceAdd,Nat.reduceMul,↓reduceIte,↓dreduceIte,reduceCtorEq,Nat.reduceLeDiff,Nat.reduceLT,Nat.reduceSub,Int.reduceToNat,Int.reduceLE,Int.reduceLT, one_imm, one_ref, List.length_map, p4, eq_false he, hw0]
    have h1 : WH pl H1 q (lastL b out) := by rw [last_neg he]; exact p2
    have h2 := p3
    have h3 := p4
    refine VW_loop (fun y : WQ => ⟨[(0, .ptr q.kw q.sw 0), (4, .ptr H.length nx 0), (9, I ((b.ins.length : Int) - 1 - y.k))], y.H, y.nx⟩)
      (fun y => y.k ≤ b.ins.length ∧ WH pl y.H q (atL b out y.k) ∧ KeepW q H y.H ∧ y.H[H.length]? = some ⟨nx, 60, 1, bkL b⟩ ∧ insOK b out pl y.k) (fun y => b.ins.length - y.k) ⟨0, _, _⟩
      (Wk.mk (by simp [get_cons, hw0]) ⟨[], (List.append_nil _).symm⟩ (Nat.le_refl _)) ⟨Nat.zero_le _, by rw [atL_zero]; exact h1, h2, h3, (show insOK b out pl 0 from fun i g1 g2 => by omega)⟩ ?_
    rintro ⟨k, H2, nx2⟩ ⟨q0, q1, q2, q3, qok⟩
    simp only at q0 q1 q2 q3 qok
    by_cases hk2 : k < b.ins.length
    · have e1 : ((b.ins.length : Int) - 1 - k).toNat = b.ins.length - k - 1 := by omega
      have hmt := mem_getD (show b.ins.length - k - 1 < b.ins.length by omega)
      have hrg := hrt _ hmt
      have hbg := behindL_get b out (show b.ins.length - k - 1 < b.ins.length by omega)
      rw [show b.ins.length - k - 1 + 1 = b.ins.length - k by omega] at hbg
      have hxl := atL_len b out k
      rw [hol] at hxl
      obtain ⟨x, hxd⟩ : ∃ x, atL b out k = x := ⟨_, rfl⟩
      replace hbg : (behindL b out).getD (b.ins.length - k - 1) default = x := hbg.trans hxd
      rw [hxd] at q1 hxl
      obtain ⟨t, hti⟩ : ∃ t, b.ins.getD (b.ins.length - k - 1) default = t := ⟨_, rfl⟩
      rw [hti] at hrg
      have hsl2 : 0 ≤ setsL t → setsL t < pl.length := fun h => by rcases hrg.sets with e | e <;> omega
      have hcnt := oneAB_cnt (t := t) (pl := pl) (row := x) hxl hsl2
      have hfalse : oneAB t pl x = false → blkK b out pl = false := fun e => by
        unfold blkK
        exact List.all_eq_false.2 ⟨b.ins.length - k - 1, List.mem_range.2 (by omega), by rw [hti, hbg, e]; decide⟩
      have hnext : oneAB t pl x = true → insOK b out pl (k + 1) := fun e i g1 g2 => by
        by_cases e2 : i = b.ins.length - k - 1
        · rw [e2, hti, hbg]; exact e
        · exact qok i g1 (by omega)
      have q4 := q1.app [⟨nx2, 57, 1, tacL t⟩]
      have q5 : KeepW q H (H2 ++ [⟨nx2, 57, 1, tacL t⟩]) := q2.trans (KeepW.app _ _ _)
      have qt : (H2 ++ [⟨nx2, 57, 1, tacL t⟩])[H2.length]? = some ⟨nx2, 57, 1, tacL t⟩ := by simp
      have qw := q4.w
      have hGle := (cnt_le pl x 0).2
      have m0 := (List.getElem?_eq_some_iff.1 q1.w).1
      have m1 : H2.length ≠ q.kw := by omega
      have m2 : H2.length ≠ q.km := by have := (List.getElem?_eq_some_iff.1 q1.m).1; omega
      have m3 : H2.length ≠ q.kc := by have := (List.getElem?_eq_some_iff.1 q1.c).1; omega
      have q3' := app_old q3 [⟨nx2, 57, 1, tacL t⟩]
      by_cases ho : t.op = 10
      · by_cases hG : 0 < cntG pl x
        · simp only [go_sem,Nat.reduceEqDiff,Nat.reduceAdd,Nat.reduceMul,↓reduceIte,↓dreduceIte,reduceCtorEq,Nat.reduceLeDiff,Nat.reduceLT,Nat.reduceSub,Int.reduceToNat,Int.reduceLE,Int.reduceLT, one_imm, one_ref, List.length_map, q3, qt, qw, apg0, aps0, e1, hti, eq_true ho, eq_true (show (0 : Int) ≤ (b.ins.length : Int) - 1 - k by omega), eq_true (show (0 : Int) < (cntG pl x : Int) by omega)]
          repeat ((with_reducible refine And.intro ?_ ?_); · omega)
          have := hfalse (by
            cases e : oneAB t pl x
            · rfl
            · have h9 := (hcnt.1 e).1 ho
              omega)
          rw [this] at hC
          exact hC _ _ q5
        · have h10 : t.op = 10 → cntG pl x = 0 := fun _ => by omega
          simp only [go_sem,Nat.reduceEqDiff,Nat.reduceAdd,Nat.reduceMul,↓reduceIte,↓dreduceIte,reduceCtorEq,Nat.reduceLeDiff,Nat.reduceLT,Nat.reduceSub,Int.reduceToNat,Int.reduceLE,Int.reduceLT, one_imm, one_ref, List.length_map, q3, qt, qw, apg0, aps0, e1, hti, eq_true ho, eq_true (show (0 : Int) ≤ (b.ins.length : Int) - 1 - k by omega), eq_false (show ¬ (0 : Int) < (cntG pl x : Int) by omega)]
          repeat ((with_reducible refine And.intro ?_ ?_); · omega)
          replace q3 := q3'
          refine VCall.of_contract (bSets_c t) (SleL.pure rfl) fun y hy => ?_
          subst hy
          by_cases hd : 0 ≤ setsL t
          · have hdl := hsl2 hd
            obtain ⟨d, hdd⟩ : ∃ d : Nat, setsL t = (d : Int) := ⟨(setsL t).toNat, by omega⟩
            have hid := idN_lt pl (show d < pl.length by omega)
            have hidg := idsL_get pl (show d < pl.length by omega)
            have hcle := cnt_le pl (x.set d false) (idN pl d)
            simp only [go_sem,Nat.reduceEqDiff,Nat.reduceAdd,Nat.reduceMul,↓reduceIte,↓dreduceIte,reduceCtorEq,Nat.reduceLeDiff,Nat.reduceLT,Nat.reduceSub,Int.reduceToNat,Int.reduceLE,Int.reduceLT, one_imm, one_ref, List.length_map, hdd, eq_true (show (0 : Int) ≤ (d : Int) by omega)]
            refine wdrop_v (by omega) hxl d _ (by omega) _ q4 fun H5 w1 w2 => ?_
            have hcg := cntL_get pl (x.set d false) hid
            have hcl := cntL_len pl (x.set d false)
            have q6 := w1.w
            have q7 := w1.c
            have q8 := w1.i
            by_cases hK : 0 < cntK pl (x.set d false) (idN pl d)
            · simp only [go_sem,Nat.reduceEqDiff,Nat.reduceAdd,Nat.reduceMul,↓reduceIte,↓dreduceIte,reduceCtorEq,Nat.reduceLeDiff,Nat.reduceLT,Nat.reduceSub,Int.reduceToNat,Int.reduceLE,Int.reduceLT, one_imm, one_ref, List.length_map, hdd, q6, q7, q8, hidg, hcg, hcl, eq_true (show (0 : Int) < (cntK pl (x.set d false) (idN pl d) : Int) by omega)]
              repeat ((with_reducible refine And.intro ?_ ?_); · first | omega | (simp; omega))
              have := hfalse (by
                cases e : oneAB t pl x
                · rfl
                · have h9 := (hcnt.1 e).2 hd
                  rw [hdd, Int.toNat_natCast] at h9
                  omega)
              rw [this] at hC
              exact hC _ _ (q5.trans w2)
            · simp only [go_sem,Nat.reduceEqDiff,Nat.reduceAdd,Nat.reduceMul,↓reduceIte,↓dreduceIte,reduceCtorEq,Nat.reduceLeDiff,Nat.reduceLT,Nat.reduceSub,Int.reduceToNat,Int.reduceLE,Int.reduceLT, one_imm, one_ref, List.length_map, hdd, q6, q7, q8, hidg, hcg, hcl, eq_false (show ¬ (0 : Int) < (cntK pl (x.set d false) (idN pl d) : Int) by omega), w2.blk qt m1 m2 m3]
              repeat ((with_reducible refine And.intro ?_ ?_); · first | omega | (simp; omega))
              have hok := hnext (hcnt.2 ⟨h10, fun _ => by rw [hdd, Int.toNat_natCast]; omega⟩)
              have hu1 : WH pl H5 q (useL (clearL t x) ((usesL t).take 0)) := by
                have : clearL t x = x.set d false := by unfold clearL; rw [if_pos hd, hdd, Int.toNat_natCast]
                rw [this]; exact w1
              have hu2 := q5.trans w2
              have hu3 := w2.blk q3 n1 n2 n3
              have hul := usesL_len t
              refine VCall.of_contract (bUses_c t).old (SleL.pure rfl) fun y hy => ?_
              subst hy
              simp only [go_sem,Nat.reduceEqDiff,Nat.reduceAdd,Nat.reduceMul,↓reduceIte,↓dreduceIte,reduceCtorEq,Nat.reduceLeDiff,Nat.reduceLT,Nat.reduceSub,Int.reduceToNat,Int.reduceLE,Int.reduceLT, one_imm, one_ref, List.length_map]
              refine VW_loop (fun y : WQ => ⟨[(0, .ptr q.kw q.sw 0), (4, .ptr H.length nx 0), (9, I ((b.ins.length : Int) - 1 - k)), (78, ints (usesL t)), (79, I (usesL t).length), (80, I y.k)], y.H, y.nx⟩)
                (fun y => y.k ≤ (usesL t).length ∧ WH pl y.H q (useL (clearL t x) ((usesL t).take y.k)) ∧ KeepW q H y.H ∧ y.H[H.length]? = some ⟨nx, 60, 1, bkL b⟩) (fun y => (usesL t).length - y.k) ⟨0, _, _⟩
                (Wk.mk (by simp [get_cons]) ⟨[], (List.append_nil _).symm⟩ (Nat.le_refl _)) ⟨Nat.zero_le _, hu1, hu2, hu3⟩ ?_
              rintro ⟨j, H4, nx4⟩ ⟨u1, u2, u3, u4⟩
              simp only at u1 u2 u3 u4
              by_cases hj : j < (usesL t).length
              · obtain ⟨g1, g2⟩ := hrg.1 _ (mem_getD hj)
                have htk := useL_take (clearL t x) (usesL t) hj
                obtain ⟨u, hu⟩ : ∃ u : Nat, (usesL t).getD j default = (u : Int) := ⟨((usesL t).getD j default).toNat, by omega⟩
                rw [hu] at g2 htk
                rw [Int.toNat_natCast] at htk
                simp only [go_sem,Nat.reduceEqDiff,Nat.reduceAdd,Nat.reduceMul,↓reduceIte,↓dreduceIte,reduceCtorEq,Nat.reduceLeDiff,Nat.reduceLT,Nat.reduceSub,Int.reduceToNat,Int.reduceLE,Int.reduceLT, one_imm, one_ref, List.length_map, hu, eq_true (show (j : Int) < ((usesL t).length : Int) by omega)]
                repeat ((with_reducible refine And.intro ?_ ?_); · omega)
                refine wadd_v (by omega) (by rw [useL_len, clearL_len]; exact hxl) u nx4 (by omega) _ u2 fun H5 w1 w2 => ?_
                rw [← htk] at w1
                simp only [go_sem,Nat.reduceEqDiff,Nat.reduceAdd,Nat.reduceMul,↓reduceIte,↓dreduceIte,reduceCtorEq,Nat.reduceLeDiff,Nat.reduceLT,Nat.reduceSub,Int.reduceToNat,Int.reduceLE,Int.reduceLT, one_imm, one_ref, List.length_map]
                rw [i64_in (by omega) (by omega)]
                exact ⟨⟨j + 1, H5, nx4⟩, ⟨by simp only; omega, w1, u3.trans w2, w2.blk u4 n1 n2 n3⟩, by simp only; omega, Wk.mk (by simp [get_cons]) ⟨[], (List.append_nil _).symm⟩ (Nat.le_refl _)⟩
              · simp only [go_sem,Nat.reduceEqDiff,Nat.reduceAdd,Nat.reduceMul,↓reduceIte,↓dreduceIte,reduceCtorEq,Nat.reduceLeDiff,Nat.reduceLT,Nat.reduceSub,Int.reduceToNat,Int.reduceLE,Int.reduceLT, one_imm, one_ref, List.length_map, eq_false (show ¬ (j : Int) < ((usesL t).length : Int) by omega)]
                rw [List.take_of_length_le (by omega)] at u2
                have hst := atL_step b out hk2
                rw [hti, hxd] at hst
                have hbk : useL (clearL t x) (usesL t) = atL b out (k + 1) := hst
                rw [hbk] at u2
                rw [i64_in (by omega) (by omega)]
                exact ⟨⟨k + 1, H4, nx4⟩, ⟨by simp only; omega, u2, u3, u4, hok⟩, by simp only; omega, Wk.mk (by simp [get_cons]; omega) ⟨[], (List.append_nil _).symm⟩ (Nat.le_refl _)⟩
          · simp only [go_sem,Nat.reduceEqDiff,Nat.reduceAdd,Nat.reduceMul,↓reduceIte,↓dreduceIte,reduceCtorEq,Nat.reduceLeDiff,Nat.reduceLT,Nat.reduceSub,Int.reduceToNat,Int.reduceLE,Int.reduceLT, one_imm, one_ref, List.length_map, eq_false hd, qt]
            have hok := hnext (hcnt.2 ⟨h10, fun e => absurd e hd⟩)
            have hu1 : WH pl (H2 ++ [⟨nx2, 57, 1, tacL t⟩]) q (useL (clearL t x) ((usesL t).take 0)) := by
              have : clearL t x = x := by unfold clearL; rw [if_neg hd]
              rw [this]; exact q4
            have hu2 := q5
            have hu3 := q3
            have hul := usesL_len t
            refine VCall.of_contract (bUses_c t).old (SleL.pure rfl) fun y hy => ?_
            subst hy
            simp only [go_sem,Nat.reduceEqDiff,Nat.reduceAdd,Nat.reduceMul,↓reduceIte,↓dreduceIte,reduceCtorEq,Nat.reduceLeDiff,Nat.reduceLT,Nat.reduceSub,Int.reduceToNat,Int.reduceLE,Int.reduceLT, one_imm, one_ref, List.length_map]
            refine VW_loop (fun y : WQ => ⟨[(0, .ptr q.kw q.sw 0), (4, .ptr H.length nx 0), (9, I ((b.ins.length : Int) - 1 - k)), (78, ints (usesL t)), (79, I (usesL t).length), (80, I y.k)], y.H, y.nx⟩)
              (fun y => y.k ≤ (usesL t).length ∧ WH pl y.H q (useL (clearL t x) ((usesL t).take y.k)) ∧ KeepW q H y.H ∧ y.H[H.length]? = some ⟨nx, 60, 1, bkL b⟩) (fun y => (usesL t).length - y.k) ⟨0, _, _⟩
              (Wk.mk (by simp [get_cons]) ⟨[], (List.append_nil _).symm⟩ (Nat.le_refl _)) ⟨Nat.zero_le _, hu1, hu2, hu3⟩ ?_
            rintro ⟨j, H4, nx4⟩ ⟨u1, u2, u3, u4⟩
            simp only at u1 u2 u3 u4
            by_cases hj : j < (usesL t).length
            · obtain ⟨g1, g2⟩ := hrg.1 _ (mem_getD hj)
              have htk := useL_take (clearL t x) (usesL t) hj
              obtain ⟨u, hu⟩ : ∃ u : Nat, (usesL t).getD j default = (u : Int) := ⟨((usesL t).getD j default).toNat, by omega⟩
              rw [hu] at g2 htk
              rw [Int.toNat_natCast] at htk
              simp only [go_sem,Nat.reduceEqDiff,Nat.reduceAdd,Nat.reduceMul,↓reduceIte,↓dreduceIte,reduceCtorEq,Nat.reduceLeDiff,Nat.reduceLT,Nat.reduceSub,Int.reduceToNat,Int.reduceLE,Int.reduceLT, one_imm, one_ref, List.length_map, hu, eq_true (show (j : Int) < ((usesL t).length : Int) by omega)]
              repeat ((with_reducible refine And.intro ?_ ?_); · omega)
              refine wadd_v (by omega) (by rw [useL_len, clearL_len]; exact hxl) u nx4 (by omega) _ u2 fun H5 w1 w2 => ?_
              rw [← htk] at w1
              simp only [go_sem,Nat.reduceEqDiff,Nat.reduceAdd,Nat.reduceMul,↓reduceIte,↓dreduceIte,reduceCtorEq,Nat.reduceLeDiff,Nat.reduceLT,Nat.reduceSub,Int.reduceToNat,Int.reduceLE,Int.reduceLT, one_imm, one_ref, List.length_map]
              rw [i64_in (by omega) (by omega)]
              exact ⟨⟨j + 1, H5, nx4⟩, ⟨by simp only; omega, w1, u3.trans w2, w2.blk u4 n1 n2 n3⟩, by simp only; omega, Wk.mk (by simp [get_cons]) ⟨[], (List.append_nil _).symm⟩ (Nat.le_refl _)⟩
            · simp only [go_sem,Nat.reduceEqDiff,Nat.reduceAdd,Nat.reduceMul,↓reduceIte,↓dreduceIte,reduceCtorEq,Nat.reduceLeDiff,Nat.reduceLT,Nat.reduceSub,Int.reduceToNat,Int.reduceLE,Int.reduceLT, one_imm, one_ref, List.length_map, eq_false (show ¬ (j : Int) < ((usesL t).length : Int) by omega)]
              rw [List.take_of_length_le (by omega)] at u2
              have hst := atL_step b out hk2
              rw [hti, hxd] at hst
              have hbk : useL (clearL t x) (usesL t) = atL b out (k + 1) := hst
              rw [hbk] at u2
              rw [i64_in (by omega) (by omega)]
              exact ⟨⟨k + 1, H4, nx4⟩, ⟨by simp only; omega, u2, u3, u4, hok⟩, by simp only; omega, Wk.mk (by simp [get_cons]; omega) ⟨[], (List.append_nil _).symm⟩ (Nat.le_refl _)⟩
      · have h10 : t.op = 10 → cntG pl x = 0 := fun e => absurd e ho
        simp only [go_sem,Nat.reduceEqDiff,Nat.reduceAdd,Nat.reduceMul,↓reduceIte,↓dreduceIte,reduceCtorEq,Nat.reduceLeDiff,Nat.reduceLT,Nat.reduceSub,Int.reduceToNat,Int.reduceLE,Int.reduceLT, one_imm, one_ref, List.length_map, q3, qt, qw, apg0, aps0, e1, hti, eq_false ho, eq_true (show (0 : Int) ≤ (b.ins.length : Int) - 1 - k by omega)]
        repeat ((with_reducible refine And.intro ?_ ?_); · omega)
        replace q3 := q3'
        refine VCall.of_contract (bSets_c t) (SleL.pure rfl) fun y hy => ?_
        subst hy
        by_cases hd : 0 ≤ setsL t
        · have hdl := hsl2 hd
          obtain ⟨d, hdd⟩ : ∃ d : Nat, setsL t = (d : Int) := ⟨(setsL t).toNat, by omega⟩
          have hid := idN_lt pl (show d < pl.length by omega)
          have hidg := idsL_get pl (show d < pl.length by omega)
          have hcle := cnt_le pl (x.set d false) (idN pl d)
          simp only [go_sem,Nat.reduceEqDiff,Nat.reduceAdd,Nat.reduceMul,↓reduceIte,↓dreduceIte,reduceCtorEq,Nat.reduceLeDiff,Nat.reduceLT,Nat.reduceSub,Int.reduceToNat,Int.reduceLE,Int.reduceLT, one_imm, one_ref, List.length_map, hdd, eq_true (show (0 : Int) ≤ (d : Int) by omega)]
          refine wdrop_v (by omega) hxl d _ (by omega) _ q4 fun H5 w1 w2 => ?_
          have hcg := cntL_get pl (x.set d false) hid
          have hcl := cntL_len pl (x.set d false)
          have q6 := w1.w
          have q7 := w1.c
          have q8 := w1.i
          by_cases hK : 0 < cntK pl (x.set d false) (idN pl d)
          · simp only [go_sem,Nat.reduceEqDiff,Nat.reduceAdd,Nat.reduceMul,↓reduceIte,↓dreduceIte,reduceCtorEq,Nat.reduceLeDiff,Nat.reduceLT,Nat.reduceSub,Int.reduceToNat,Int.reduceLE,Int.reduceLT, one_imm, one_ref, List.length_map, hdd, q6, q7, q8, hidg, hcg, hcl, eq_true (show (0 : Int) < (cntK pl (x.set d false) (idN pl d) : Int) by omega)]
            repeat ((with_reducible refine And.intro ?_ ?_); · first | omega | (simp; omega))
            have := hfalse (by
              cases e : oneAB t pl x
              · rfl
              · have h9 := (hcnt.1 e).2 hd
                rw [hdd, Int.toNat_natCast] at h9
                omega)
            rw [this] at hC
            exact hC _ _ (q5.trans w2)
          · simp only [go_sem,Nat.reduceEqDiff,Nat.reduceAdd,Nat.reduceMul,↓reduceIte,↓dreduceIte,reduceCtorEq,Nat.reduceLeDiff,Nat.reduceLT,Nat.reduceSub,Int.reduceToNat,Int.reduceLE,Int.reduceLT, one_imm, one_ref, List.length_map, hdd, q6, q7, q8, hidg, hcg, hcl, eq_false (show ¬ (0 : Int) < (cntK pl (x.set d false) (idN pl d) : Int) by omega), w2.blk qt m1 m2 m3]
            repeat ((with_reducible refine And.intro ?_ ?_); · first | omega | (simp; omega))
            have hok := hnext (hcnt.2 ⟨h10, fun _ => by rw [hdd, Int.toNat_natCast]; omega⟩)
            have hu1 : WH pl H5 q (useL (clearL t x) ((usesL t).take 0)) := by
              have : clearL t x = x.set d false := by unfold clearL; rw [if_pos hd, hdd, Int.toNat_natCast]
              rw [this]; exact w1
            have hu2 := q5.trans w2
            have hu3 := w2.blk q3 n1 n2 n3
            have hul := usesL_len t
            refine VCall.of_contract (bUses_c t).old (SleL.pure rfl) fun y hy => ?_
            subst hy
            simp only [go_sem,Nat.reduceEqDiff,Nat.reduceAdd,Nat.reduceMul,↓reduceIte,↓dreduceIte,reduceCtorEq,Nat.reduceLeDiff,Nat.reduceLT,Nat.reduceSub,Int.reduceToNat,Int.reduceLE,Int.reduceLT, one_imm, one_ref, List.length_map]
            refine VW_loop (fun y : WQ => ⟨[(0, .ptr q.kw q.sw 0), (4, .ptr H.length nx 0), (9, I ((b.ins.length : Int) - 1 - k)), (78, ints (usesL t)), (79, I (usesL t).length), (80, I y.k)], y.H, y.nx⟩)
              (fun y => y.k ≤ (usesL t).length ∧ WH pl y.H q (useL (clearL t x) ((usesL t).take y.k)) ∧ KeepW q H y.H ∧ y.H[H.length]? = some ⟨nx, 60, 1, bkL b⟩) (fun y => (usesL t).length - y.k) ⟨0, _, _⟩
              (Wk.mk (by simp [get_cons]) ⟨[], (List.append_nil _).symm⟩ (Nat.le_refl _)) ⟨Nat.zero_le _, hu1, hu2, hu3⟩ ?_
            rintro ⟨j, H4, nx4⟩ ⟨u1, u2, u3, u4⟩
            simp only at u1 u2 u3 u4
            by_cases hj : j < (usesL t).length
            · obtain ⟨g1, g2⟩ := hrg.1 _ (mem_getD hj)
              have htk := useL_take (clearL t x) (usesL t) hj
              obtain ⟨u, hu⟩ : ∃ u : Nat, (usesL t).getD j default = (u : Int) := ⟨((usesL t).getD j default).toNat, by omega⟩
              rw [hu] at g2 htk
              rw [Int.toNat_natCast] at htk
              simp only [go_sem,Nat.reduceEqDiff,Nat.reduceAdd,Nat.reduceMul,↓reduceIte,↓dreduceIte,reduceCtorEq,Nat.reduceLeDiff,Nat.reduceLT,Nat.reduceSub,Int.reduceToNat,Int.reduceLE,Int.reduceLT, one_imm, one_ref, List.length_map, hu, eq_true (show (j : Int) < ((usesL t).length : Int) by omega)]
              repeat ((with_reducible refine And.intro ?_ ?_); · omega)
              refine wadd_v (by omega) (by rw [useL_len, clearL_len]; exact hxl) u nx4 (by omega) _ u2 fun H5 w1 w2 => ?_
              rw [← htk] at w1
              simp only [go_sem,Nat.reduceEqDiff,Nat.reduceAdd,Nat.reduceMul,↓reduceIte,↓dreduceIte,reduceCtorEq,Nat.reduceLeDiff,Nat.reduceLT,Nat.reduceSub,Int.reduceToNat,Int.reduceLE,Int.reduceLT, one_imm, one_ref, List.length_map]
              rw [i64_in (by omega) (by omega)]
              exact ⟨⟨j + 1, H5, nx4⟩, ⟨by simp only; omega, w1, u3.trans w2, w2.blk u4 n1 n2 n3⟩, by simp only; omega, Wk.mk (by simp [get_cons]) ⟨[], (List.append_nil _).symm⟩ (Nat.le_refl _)⟩
            · simp only [go_sem,Nat.reduceEqDiff,Nat.reduceAdd,Nat.reduceMul,↓reduceIte,↓dreduceIte,reduceCtorEq,Nat.reduceLeDiff,Nat.reduceLT,Nat.reduceSub,Int.reduceToNat,Int.reduceLE,Int.reduceLT, one_imm, one_ref, List.length_map, eq_false (show ¬ (j : Int) < ((usesL t).length : Int) by omega)]
              rw [List.take_of_length_le (by omega)] at u2
              have hst := atL_step b out hk2
              rw [hti, hxd] at hst
              have hbk : useL (clearL t x) (usesL t) = atL b out (k + 1) := hst
              rw [hbk] at u2
              rw [i64_in (by omega) (by omega)]
              exact ⟨⟨k + 1, H4, nx4⟩, ⟨by simp only; omega, u2, u3, u4, hok⟩, by simp only; omega, Wk.mk (by simp [get_cons]; omega) ⟨[], (List.append_nil _).symm⟩ (Nat.le_refl _)⟩
        · simp only [go_sem,Nat.reduceEqDiff,Nat.reduceAdd,Nat.reduceMul,↓reduceIte,↓dreduceIte,reduceCtorEq,Nat.reduceLeDiff,Nat.reduceLT,Nat.reduceSub,Int.reduceToNat,Int.reduceLE,Int.reduceLT, one_imm, one_ref, List.length_map, eq_false hd, qt]
          have hok := hnext (hcnt.2 ⟨h10, fun e => absurd e hd⟩)
          have hu1 : WH pl (H2 ++ [⟨nx2, 57, 1, tacL t⟩]) q (useL (clearL t x) ((usesL t).take 0)) := by
            have : clearL t x = x := by unfold clearL; rw [if_neg hd]
            rw [this]; exact q4
          have hu2 := q5
          have hu3 := q3
          have hul := usesL_len t
          refine VCall.of_contract (bUses_c t).old (SleL.pure rfl) fun y hy => ?_
          subst hy
          simp only [go_sem,Nat.reduceEqDiff,Nat.reduceAdd,Nat.reduceMul,↓reduceIte,↓dreduceIte,reduceCtorEq,Nat.reduceLeDiff,Nat.reduceLT,Nat.reduceSub,Int.reduceToNat,Int.reduceLE,Int.reduceLT, one_imm, one_ref, List.length_map]
          refine VW_loop (fun y : WQ => ⟨[(0, .ptr q.kw q.sw 0), (4, .ptr H.length nx 0), (9, I ((b.ins.length : Int) - 1 - k)), (78, ints (usesL t)), (79, I (usesL t).length), (80, I y.k)], y.H, y.nx⟩)
            (fun y => y.k ≤ (usesL t).length ∧ WH pl y.H q (useL (clearL t x) ((usesL t).take y.k)) ∧ KeepW q H y.H ∧ y.H[H.length]? = some ⟨nx, 60, 1, bkL b⟩) (fun y => (usesL t).length - y.k) ⟨0, _, _⟩
            (Wk.mk (by simp [get_cons]) ⟨[], (List.append_nil _).symm⟩ (Nat.le_refl _)) ⟨Nat.zero_le _, hu1, hu2, hu3⟩ ?_
          rintro ⟨j, H4, nx4⟩ ⟨u1, u2, u3, u4⟩
          simp only at u1 u2 u3 u4
          by_cases hj : j < (usesL t).length
          · obtain ⟨g1, g2⟩ := hrg.1 _ (mem_getD hj)
            have htk := useL_take (clearL t x) (usesL t) hj
            obtain ⟨u, hu⟩ : ∃ u : Nat, (usesL t).getD j default = (u : Int) := ⟨((usesL t).getD j default).toNat, by omega⟩
            rw [hu] at g2 htk
            rw [Int.toNat_natCast] at htk
            simp only [go_sem,Nat.reduceEqDiff,Nat.reduceAdd,Nat.reduceMul,↓reduceIte,↓dreduceIte,reduceCtorEq,Nat.reduceLeDiff,Nat.reduceLT,Nat.reduceSub,Int.reduceToNat,Int.reduceLE,Int.reduceLT, one_imm, one_ref, List.length_map, hu, eq_true (show (j : Int) < ((usesL t).length : Int) by omega)]
            repeat ((with_reducible refine And.intro ?_ ?_); · omega)
            refine wadd_v (by omega) (by rw [useL_len, clearL_len]; exact hxl) u nx4 (by omega) _ u2 fun H5 w1 w2 => ?_
            rw [← htk] at w1
            simp only [go_sem,Nat.reduceEqDiff,Nat.reduceAdd,Nat.reduceMul,↓reduceIte,↓dreduceIte,reduceCtorEq,Nat.reduceLeDiff,Nat.reduceLT,Nat.reduceSub,Int.reduceToNat,Int.reduceLE,Int.reduceLT, one_imm, one_ref, List.length_map]
            rw [i64_in (by omega) (by omega)]
            exact ⟨⟨j + 1, H5, nx4⟩, ⟨by simp only; omega, w1, u3.trans w2, w2.blk u4 n1 n2 n3⟩, by simp only; omega, Wk.mk (by simp [get_cons]) ⟨[], (List.append_nil _).symm⟩ (Nat.le_refl _)⟩
          · simp only [go_sem,Nat.reduceEqDiff,Nat.reduceAdd,Nat.reduceMul,↓reduceIte,↓dreduceIte,reduceCtorEq,Nat.reduceLeDiff,Nat.reduceLT,Nat.reduceSub,Int.reduceToNat,Int.reduceLE,Int.reduceLT, one_imm, one_ref, List.length_map, eq_false (show ¬ (j : Int) < ((usesL t).length : Int) by omega)]
            rw [List.take_of_length_le (by omega)] at u2
            have hst := atL_step b out hk2
            rw [hti, hxd] at hst
            have hbk : useL (clearL t x) (usesL t) = atL b out (k + 1) := hst
            rw [hbk] at u2
            rw [i64_in (by omega) (by omega)]
            exact ⟨⟨k + 1, H4, nx4⟩, ⟨by simp only; omega, u2, u3, u4, hok⟩, by simp only; omega, Wk.mk (by simp [get_cons]; omega) ⟨[], (List.append_nil _).symm⟩ (Nat.le_refl _)⟩
    · simp only [go_sem,Nat.reduceEqDiff,Nat.reduceAdd,Nat.reduceMul,↓reduceIte,↓dreduceIte,reduceCtorEq,Nat.reduceLeDiff,Nat.reduceLT,Nat.reduceSub,Int.reduceToNat,Int.reduceLE,Int.reduceLT, one_imm, one_ref, List.length_map, eq_false (show ¬ (0 : Int) ≤ (b.ins.length : Int) - 1 - k by omega)]
      have : blkK b out pl = true := by
        unfold blkK
        rw [List.all_eq_true]
        exact fun i hi => qok i (List.mem_range.1 hi) (by omega)
      rw [this] at hC
      exact hC _ _ q2
end Go.Proofs.Ytncjbipnkdlkoaa
namespace Go.Proofs.Ytncjbipnkdlkoaa
set_option linter.unusedSimpArgs false
set_option linter.unusedVariables false
set_option maxRecDepth 10000
open Go.V
def KeptA (H H' : List VObj) : Prop := ∀ (i : Nat) (ob : VObj), H[i]? = some ob → H'[i]? = some ob
theorem KeptA.lt {H H' : List VObj} (h : KeptA H H') : H.length ≤ H'.length := by
  rcases Nat.eq_zero_or_pos H.length with h0 | h0
  · omega
  · have : H[H.length - 1]? = some (H[H.length - 1]'(by omega)) := List.getElem?_eq_getElem (by omega)
    have := (List.getElem?_eq_some_iff.1 (h _ _ this)).1
    omega
theorem KeptA.app {H H' : List VObj} (h : KeptA H H') (R : List VObj) : KeptA H (H' ++ R) := fun i ob ho => app_old (h i ob ho) R
theorem KeptA.set {H H' : List VObj} (h : KeptA H H') {k : Nat} (hk : H.length ≤ k) (x : VObj) : KeptA H (H'.set k x) := fun i ob ho => by
  have := (List.getElem?_eq_some_iff.1 ho).1
  rw [List.getElem?_set_ne (by omega)]; exact h i ob ho
abbrev tblL (r : Nat) (g : Nat → Nat × Nat) : List AV := (List.range r).map fun b => .ref (g b).1 (g b).2 0 (rl r)
structure CS (f : BF) (L : LD) (H H1 : List VObj) (st : Nat) (g : Nat → Nat × Nat) (m : List (List Bool)) (kW sW : Nat) (iw : List Bool) : Prop where
  kp : KeptA H H1
  tb : H1[H.length]? = some ⟨st, 68, 1, tblL f.r g⟩
  rw : ∀ b < f.r, H1[(g b).1]? = some ⟨(g b).2, 97, 1, rowC64 (m.getD b [])⟩
  di : ∀ b < f.r, ∀ c < f.r, (g b).1 = (g c).1 → b = c
  w : H1[kW]? = some ⟨sW, 97, 1, rowC64 iw⟩
  wn : ∀ b < f.r, (g b).1 ≠ kW
  gk : ∀ b < f.r, H.length ≤ (g b).1
  wk : H.length ≤ kW
  ml : m.length = f.r
  ln : ∀ b < f.r, (m.getD b []).length = f.r
  il : iw.length = f.r
theorem CS.app {f : BF} {L : LD} {H H1 : List VObj} {st : Nat} {g : Nat → Nat × Nat} {m : List (List Bool)} {kW sW : Nat} {iw : List Bool} (h : CS f L H H1 st g m kW sW iw) (R : List VObj) : CS f L H (H1 ++ R) st g m kW sW iw :=
  ⟨h.kp.app R, app_old h.tb R, fun b hb => app_old (h.rw b hb) R, h.di, app_old h.w R, h.wn, h.gk, h.wk, h.ml, h.ln, h.il⟩
theorem CS.other {f : BF} {L : LD} {H H1 : List VObj} {st : Nat} {g : Nat → Nat × Nat} {m : List (List Bool)} {kW sW : Nat} {iw : List Bool} (h : CS f L H H1 st g m kW sW iw) {k : Nat} (hk : H.length ≤ k) (h2 : k ≠ H.length) (hg : ∀ b < f.r, (g b).1 ≠ k) (hw : kW ≠ k) (x : VObj) : CS f L H (H1.set k x) st g m kW sW iw :=
  ⟨h.kp.set hk x, by rw [List.getElem?_set_ne h2]; exact h.tb, fun b hb => by rw [List.getElem?_set_ne (fun e => hg b hb e.symm)]; exact h.rw b hb, h.di, by rw [List.getElem?_set_ne (fun e => hw e.symm)]; exact h.w, h.wn, h.gk, h.wk, h.ml, h.ln, h.il⟩
theorem CS.setW {f : BF} {L : LD} {H H1 : List VObj} {st : Nat} {g : Nat → Nat × Nat} {m : List (List Bool)} {kW sW : Nat} {iw : List Bool} (h : CS f L H H1 st g m kW sW iw) (l : List Bool) (hl : l.length = f.r) : CS f L H (H1.set kW ⟨sW, 97, 1, rowC64 l⟩) st g m kW sW l := by
  have e1 : (H.length = kW) = False := ty_ne h.tb h.w (by simp)
  exact ⟨h.kp.set h.wk _, by rw [List.getElem?_set_ne (fun e => of_eq_false e1 e.symm)]; exact h.tb, fun b hb => by rw [List.getElem?_set_ne (fun e => h.wn b hb e.symm)]; exact h.rw b hb, h.di, set_get h.w, h.wn, h.gk, h.wk, h.ml, h.ln, hl⟩
theorem CS.setR {f : BF} {L : LD} {H H1 : List VObj} {st : Nat} {g : Nat → Nat × Nat} {m : List (List Bool)} {kW sW : Nat} {iw : List Bool} (h : CS f L H H1 st g m kW sW iw) {d : Nat} (hd : d < f.r) (l : List Bool) (hl : l.length = f.r) : CS f L H (H1.set (g d).1 ⟨(g d).2, 97, 1, rowC64 l⟩) st g (m.set d l) kW sW iw := by
  have e1 : (H.length = (g d).1) = False := ty_ne h.tb (h.rw d hd) (by simp)
  have hdm : d < m.length := by rw [h.ml]; exact hd
  have hgs : ∀ b, (m.set d l).getD b [] = if d = b then l else m.getD b [] := fun b => by
    simp only [List.getD]
    rw [List.getElem?_set]
    by_cases e : d = b
    · subst e; rw [if_pos rfl, if_pos hdm, if_pos rfl]; rfl
    · rw [if_neg e, if_neg e]
  refine ⟨h.kp.set (h.gk d hd) _, by rw [List.getElem?_set_ne (fun e => of_eq_false e1 e.symm)]; exact h.tb, fun b hb => ?_, h.di, by rw [List.getElem?_set_ne (h.wn d hd)]; exact h.w, h.wn, h.gk, h.wk, by rw [List.length_set]; exact h.ml, fun b hb => ?_, h.il⟩
  · rw [hgs]
    by_cases e : d = b
    · subst e; rw [if_pos rfl]; exact set_get (h.rw d hd)
    · rw [if_neg e, List.getElem?_set_ne (fun e2 => e (h.di d hd b hb e2))]; exact h.rw b hb
  · rw [hgs]
    split
    · exact hl
    · exact h.ln b hb
structure CV (f : BF) (L : LD) (m : List (List Bool)) (iw : List Bool) (P : Nat → Nat → Prop) : Prop where
  ap : ∀ u < f.r, ∀ v < f.r, L.I 0 u = true → L.I 0 v = true → gB (m.getD v []) u = true
  st : ∀ b < f.n, ∀ i < (f.bk b).ins.length, P b i → SetsT ((f.bk b).ins.getD i default) → ∀ v < f.r, thru1 ((f.bk b).ins.drop (i + 1)) v (last1 (f.bk b) v (L.O b v)) = true → gB (m.getD ((f.bk b).ins.getD i default).d.toNat []) v = true
  ca : ∀ b < f.n, ∀ i < (f.bk b).ins.length, P b i → ((f.bk b).ins.getD i default).op = 10 → ∀ v < f.r, thru1 ((f.bk b).ins.drop (i + 1)) v (last1 (f.bk b) v (L.O b v)) = true → gB iw v = true
theorem CV.step {f : BF} {L : LD} (hf : Fine f) (hs : SizedP f L) {m : List (List Bool)} {iw : List Bool} {P P' : Nat → Nat → Prop} (h : CV f L m iw P) (hml : m.length = f.r) (hln : ∀ b < f.r, (m.getD b []).length = f.r) (hil : iw.length = f.r) {b0 i0 : Nat} (hb : b0 < f.n) (hi : i0 < (f.bk b0).ins.length)
    (x : List Bool) (hx : x = (behindL (f.bk b0) (L.out.getD b0 default)).getD i0 default) (hP : ∀ b i, P' b i → P b i ∨ (b = b0 ∧ i = i0)) (t : Tac) (ht : (f.bk b0).ins.getD i0 default = t) :
    CV f L (if SetsT t then m.set t.d.toNat (orL (m.getD t.d.toNat []) x) else m) (if t.op = 10 then orL iw x else iw) P' := by
  have hlo : (L.out.getD b0 default).length = f.r := hs.ol hb
  have hrt := hf.ins _ (BF.mem hb) _ (mem_getD hi)
  rw [ht] at hrt
  have hr0 := hf.r0
  have hm : ∀ d < f.r, ∀ v < f.r, gB (m.getD d []) v = true → gB ((if SetsT t then m.set t.d.toNat (orL (m.getD t.d.toNat []) x) else m).getD d []) v = true := fun d hd v hv e => by
    split
    · have hdm : t.d.toNat < m.length ∨ ¬ t.d.toNat < m.length := Nat.lt_or_ge _ _ |>.imp id (by omega)
      rw [List.getD, List.getElem?_set]
      by_cases e2 : t.d.toNat = d
      · rw [if_pos e2, if_pos (by rw [hml]; omega)]
        show gB (orL _ _) v = true
        rw [gB_or _ _ (by rw [e2, hln d hd]; exact hv), e2, e]; rfl
      · rw [if_neg e2]; exact e
    · exact e
  have hgd : SetsT t → t.d.toNat < f.r := fun h => by have := hrt.2 h; unfold BF.r; omega
  refine ⟨fun u hu v hv a c => hm v hv u hu (h.ap u hu v hv a c), fun b hb2 i hi2 hp hsT v hv hth => ?_, fun b hb2 i hi2 hp hop v hv hth => ?_⟩
  · rcases hP b i hp with hp | ⟨rfl, rfl⟩
    · have hrt2 := (hf.ins _ (BF.mem hb2) _ (mem_getD hi2)).2 hsT
      exact hm _ (by unfold BF.r; omega) v hv (h.st b hb2 i hi2 hp hsT v hv hth)
    · rw [ht] at hsT ⊢
      obtain ⟨g1, g2⟩ := gB_behind hf hb hlo hi hv
      rw [← hx] at g1 g2
      have g3 : gB x v = true := by rw [g2]; exact hth
      rw [if_pos hsT]
      rw [List.getD, List.getElem?_set, if_pos rfl, if_pos (by rw [hml]; exact hgd hsT)]
      show gB (orL _ _) v = true
      rw [gB_or _ _ (by rw [hln _ (hgd hsT)]; exact hv), g3]; simp
  · rcases hP b i hp with hp | ⟨rfl, rfl⟩
    · have := h.ca b hb2 i hi2 hp hop v hv hth
      split
      · rw [gB_or _ _ (by rw [hil]; exact hv), this]; rfl
      · exact this
    · rw [ht] at hop
      obtain ⟨g1, g2⟩ := gB_behind hf hb hlo hi hv
      rw [← hx] at g1 g2
      have g3 : gB x v = true := by rw [g2]; exact hth
      rw [if_pos hop, gB_or _ _ (by rw [hil]; exact hv), g3]; simp
end Go.Proofs.Ytncjbipnkdlkoaa
namespace Go.Proofs.Ytncjbipnkdlkoaa
set_option linter.unusedSimpArgs false
set_option linter.unusedVariables false
set_option maxRecDepth 10000
open Go.V
theorem ponxA (T : List VObj) (x : VObj) : (T ++ [x]).length = T.length + 1 := by simp
def tblI (r i : Nat) (g : Nat → Nat × Nat) : List AV := (List.range r).map fun b => if b < i then .ref (g b).1 (g b).2 0 (rl r) else nilv
theorem tblI_zero (r : Nat) (g : Nat → Nat × Nat) : tblI r 0 g = List.replicate r nilv := List.ext_getElem (by simp [tblI]) fun i h1 h2 => by simp [tblI]
theorem tblI_all (r : Nat) (g : Nat → Nat × Nat) : tblI r r g = tblL r g := List.ext_getElem (by simp [tblI]) fun i h1 h2 => by
  have : i < r := by simpa [tblI] using h1
  simp [tblI, this]
theorem tblI_len (r i : Nat) (g : Nat → Nat × Nat) : (tblI r i g).length = r := by simp [tblI]
def gUp (g : Nat → Nat × Nat) (i k s : Nat) (b : Nat) : Nat × Nat := if b = i then (k, s) else g b
theorem tblI_set (r i k s : Nat) (g : Nat → Nat × Nat) : (tblI r i g).set i (.ref k s 0 (rl r)) = tblI r (i + 1) (gUp g i k s) := List.ext_getElem (by simp [tblI]) fun b h1 h2 => by
  rw [List.getElem_set]
  simp only [tblI, List.getElem_map, List.getElem_range, gUp]
  by_cases h : i = b
  · subst h; simp
  · rw [if_neg h]
    have h' : ¬ b = i := fun e => h e.symm
    by_cases h3 : b < i
    · rw [if_pos h3, if_pos (by omega), if_neg h']
    · rw [if_neg h3, if_neg (by omega)]
theorem cellT_tbl {n r b : Nat} {g : Nat → Nat × Nat} {C : AV → Prop} : cellT ((List.range n).map fun b => AV.ref (g b).1 (g b).2 0 r) b false 1 C .mk = (b < n ∧ C (.ref (g b).1 (g b).2 0 r)) := by
  rw [cellT_map (fun _ => rfl)]
  apply propext
  rw [List.length_range]
  refine ⟨fun ⟨h1, h2⟩ => ⟨h1, ?_⟩, fun ⟨h1, h2⟩ => ⟨h1, ?_⟩⟩
  · rw [range_get h1] at h2; exact h2
  · rw [range_get h1]; exact h2
structure CQ where
  i : Nat
  H : List VObj
  g : Nat → Nat × Nat
  m : List (List Bool)
  iw : List Bool
  nx : Nat
set_option maxHeartbeats 4000000 in
theorem clashes_v (f : BF) (L : LD) (hf : Fine f) (hcl : ClosedP f L) (hr : f.r ≤ 64) (H : List VObj) (nx : Nat) (C : AV → List VObj → Nat → Prop)
    (hC : ∀ H' nx' Hb st g m kW sW iw, KeptA H H' → CS f L Hb H' st g m kW sW iw → CV f L m iw (fun _ _ => True) → C (.tup [.ref Hb.length st 0 f.r, .ref kW sW 0 (rl f.r)]) H' nx') :
    VCall Try.prog 25 [bfA f, liveA L] H nx C := by
  refine VCall.of_body hmix f_alloc_clashes (by simp) ?_
  have hs := hcl.sz
  have hnn : f.bks.length = f.n := rfl
  have hn5 := hf.b1
  rw [hnn] at hn5
  have hr0 := hf.r0
  have hregs : f.regs = (f.r : Int) := by unfold BF.r; omega
  have hpos : 0 < f.n := List.length_pos_iff.2 hf.b0
  have hli : L.inn.length = f.n := hs.i
  have hlo' : L.out.length = f.n := hs.o
  have hi0 : (L.inn.getD 0 default).length = f.r := hs.il hpos
  have hz : (List.replicate f.r [AV.val (.slice none 0 0)]).flatten = tblI f.r 0 (fun _ => (0, 0)) := by rw [tblI_zero, flat_rep]
  have hz2 : (List.replicate f.regs.toNat [AV.val (.slice none 0 0)]).flatten = tblI f.r 0 (fun _ => (0, 0)) := hz
  have hrt0 : f.regs.toNat = f.r := rfl
  have hfb : (H ++ [(⟨nx, 24, 1, bfL f⟩ : VObj)] ++ [(⟨nx + 1, 29, 1, [rowsA L.inn, rowsA L.out]⟩ : VObj)])[H.length]? = some (⟨nx, 24, 1, bfL f⟩ : VObj) := by simp
  have hlb : (H ++ [(⟨nx, 24, 1, bfL f⟩ : VObj)] ++ [(⟨nx + 1, 29, 1, [rowsA L.inn, rowsA L.out]⟩ : VObj)])[H.length + 1]? = some (⟨nx + 1, 29, 1, [rowsA L.inn, rowsA L.out]⟩ : VObj) := by
    rw [List.getElem?_append_right (by simp)]; simp
  have hHl : (H ++ [(⟨nx, 24, 1, bfL f⟩ : VObj)] ++ [(⟨nx + 1, 29, 1, [rowsA L.inn, rowsA L.out]⟩ : VObj)]).length = H.length + 2 := by simp
  have hkp0 : KeptA H (H ++ [(⟨nx, 24, 1, bfL f⟩ : VObj)] ++ [(⟨nx + 1, 29, 1, [rowsA L.inn, rowsA L.out]⟩ : VObj)]) := fun i ob ho => app_old (app_old ho _) _
  have hfb1 : (H ++ [(⟨nx, 24, 1, bfL f⟩ : VObj)])[H.length]? = some (⟨nx, 24, 1, bfL f⟩ : VObj) := by simp
  have hln1 : (H ++ [(⟨nx, 24, 1, bfL f⟩ : VObj)]).length = H.length + 1 := by simp
  simp only [go_sem,Nat.reduceEqDiff,Nat.reduceAdd,Nat.reduceMul,↓reduceIte,↓dreduceIte,reduceCtorEq,Nat.reduceLeDiff,Nat.reduceLT,Nat.reduceSub,Int.reduceToNat,Int.reduceLE,Int.reduceLT, c_alloc_clashes, one_imm, one_ref, List.length_map, List.length_range, hln1]
  obtain ⟨Hb, hHb⟩ : ∃ Hb, H ++ [(⟨nx, 24, 1, bfL f⟩ : VObj)] ++ [(⟨nx + 1, 29, 1, [rowsA L.inn, rowsA L.out]⟩ : VObj)] = Hb := ⟨_, rfl⟩
  rw [hHb] at hfb hlb hHl hkp0
  have hHb' : H ++ [(⟨nx, 24, 1, [I f.regs, bksA f.bks]⟩ : VObj)] ++ [(⟨nx + 1, 29, 1, [rowsA L.inn, rowsA L.out]⟩ : VObj)] = Hb := hHb
  simp only [hHb', hfb]
  simp only [go_sem,Nat.reduceEqDiff,Nat.reduceAdd,Nat.reduceMul,↓reduceIte,↓dreduceIte,reduceCtorEq,Nat.reduceLeDiff,Nat.reduceLT,Nat.reduceSub,Int.reduceToNat,Int.reduceLE,Int.reduceLT, one_imm, one_ref, List.length_map, List.length_range, hHb', hfb, hlb, hz2, ponxA, apg0]
  repeat ((with_reducible refine And.intro ?_ ?_); · first | omega | (simp; omega))
  -- the rows
  refine VW_loop (fun x : CQ => ⟨[(2, .ptr H.length nx 0), (3, .ptr (H.length + 1) (nx + 1) 0), (6, .ref Hb.length (nx + 1 + 1) 0 f.r), (23, I f.r), (24, I x.i)], x.H, x.nx⟩)
    (fun x => x.i ≤ f.r ∧ KeptA Hb x.H ∧ x.H[Hb.length]? = some ⟨nx + 1 + 1, 68, 1, tblI f.r x.i x.g⟩ ∧ (∀ b < x.i, x.H[(x.g b).1]? = some ⟨(x.g b).2, 97, 1, rowC64 (List.replicate f.r false)⟩ ∧ Hb.length ≤ (x.g b).1) ∧
      (∀ b < x.i, ∀ c < x.i, (x.g b).1 = (x.g c).1 → b = c)) (fun x => f.r - x.i) ⟨0, Hb ++ [(⟨nx + 1 + 1, 68, 1, tblI f.r 0 (fun _ => (0, 0))⟩ : VObj)], fun _ => (0, 0), [], [], nx + 1 + 1 + 1⟩ ?_ ?_ ?_
  · exact Wk.mk (by simp [get_cons, hHl, hrt0, hregs]) ⟨[], by simp⟩ (Nat.le_refl _)
  · exact ⟨Nat.zero_le _, fun i ob ho => app_old ho _, by simp, fun b hb => absurd hb (Nat.not_lt_zero b), fun b hb => absurd hb (Nat.not_lt_zero b)⟩
  rintro ⟨i, H1, g, m0, iw0, nx1⟩ ⟨p1, p2, p3, p4, p5⟩
  simp only at p1 p2 p3 p4 p5
  have hfb2 := p2 _ _ hfb
  have hlb2 := p2 _ _ hlb
  by_cases hi : i < f.r
  · have htl := tblI_len f.r i g
    have hne : H1.length ≠ Hb.length := by have := (List.getElem?_eq_some_iff.1 p3).1; omega
    simp only [go_sem,Nat.reduceEqDiff,Nat.reduceAdd,Nat.reduceMul,↓reduceIte,↓dreduceIte,reduceCtorEq,Nat.reduceLeDiff,Nat.reduceLT,Nat.reduceSub,Int.reduceToNat,Int.reduceLE,Int.reduceLT, one_imm, one_ref, List.length_map, List.length_range, hfb2, hregs, eq_true (show (i : Int) < (f.r : Int) by omega)]
    refine newBits_v f.r hr H1 nx1 _ ?_
    have p3' := app_old p3 [(⟨nx1, 97, 1, rowC64 (List.replicate f.r false)⟩ : VObj)]
    have hl3 := (List.getElem?_eq_some_iff.1 p3').1
    simp only [go_sem,Nat.reduceEqDiff,Nat.reduceAdd,Nat.reduceMul,↓reduceIte,↓dreduceIte,reduceCtorEq,Nat.reduceLeDiff,Nat.reduceLT,Nat.reduceSub,Int.reduceToNat,Int.reduceLE,Int.reduceLT, one_imm, one_ref, List.length_map, List.length_range, p3', tblI_set, htl]
    repeat ((with_reducible refine And.intro ?_ ?_); · first | omega | (simp; omega))
    rw [i64_in (by omega) (by omega)]
    have hrow : ((H1 ++ [(⟨nx1, 97, 1, rowC64 (List.replicate f.r false)⟩ : VObj)]).set Hb.length ⟨nx + 1 + 1, 68, 1, tblI f.r (i + 1) (gUp g i H1.length nx1)⟩)[H1.length]? = some ⟨nx1, 97, 1, rowC64 (List.replicate f.r false)⟩ := by
      rw [List.getElem?_set_ne (fun e => hne e.symm)]; simp
    refine ⟨⟨i + 1, (H1 ++ [(⟨nx1, 97, 1, rowC64 (List.replicate f.r false)⟩ : VObj)]).set Hb.length ⟨nx + 1 + 1, 68, 1, tblI f.r (i + 1) (gUp g i H1.length nx1)⟩, gUp g i H1.length nx1, [], [], nx1 + 1⟩, ⟨by simp only; omega, (p2.app _).set (Nat.le_refl _) _, set_get p3', fun b hb => ?_, fun b hb c hc e => ?_⟩, by simp only; omega, Wk.mk (by simp [get_cons]) ⟨[], by simp⟩ (Nat.le_refl _)⟩
    · simp only [gUp] at hb ⊢
      by_cases e : b = i
      · rw [if_pos e]; exact ⟨hrow, by have := p2.lt; omega⟩
      · rw [if_neg e]
        obtain ⟨q1, q2⟩ := p4 b (by omega)
        refine ⟨?_, q2⟩
        have hq : (g b).1 ≠ Hb.length := fun e2 => by rw [e2, p3] at q1; simp at q1
        rw [List.getElem?_set_ne (fun e => hq e.symm)]; exact app_old q1 _
    · simp only [gUp] at hb hc e
      have hlt : ∀ b < i, (g b).1 < H1.length := fun b hb => (List.getElem?_eq_some_iff.1 (p4 b hb).1).1
      by_cases e1 : b = i
      · by_cases e2 : c = i
        · omega
        · rw [if_pos e1, if_neg e2] at e
          have := hlt c (by omega)
          simp only at e; omega
      · by_cases e2 : c = i
        · rw [if_neg e1, if_pos e2] at e
          have := hlt b (by omega)
          simp only at e; omega
        · rw [if_neg e1, if_neg e2] at e
          exact p5 b (by omega) c (by omega) e
  obtain rfl : i = f.r := by omega
  rw [tblI_all] at p3
  obtain ⟨row, hrow⟩ : ∃ row, L.inn.getD 0 default = row := ⟨_, rfl⟩
  rw [hrow] at hi0
  simp only [go_sem,Nat.reduceEqDiff,Nat.reduceAdd,Nat.reduceMul,↓reduceIte,↓dreduceIte,reduceCtorEq,Nat.reduceLeDiff,Nat.reduceLT,Nat.reduceSub,Int.reduceToNat,Int.reduceLE,Int.reduceLT, one_imm, one_ref, List.length_map, List.length_range, hfb2, hregs, eq_false (show ¬ (f.r : Int) < (f.r : Int) by omega)]
  refine newBits_v f.r hr H1 nx1 _ ?_
  have hlb3 := app_old hlb2 [(⟨nx1, 97, 1, rowC64 (List.replicate f.r false)⟩ : VObj)]
  simp only [go_sem,Nat.reduceEqDiff,Nat.reduceAdd,Nat.reduceMul,↓reduceIte,↓dreduceIte,reduceCtorEq,Nat.reduceLeDiff,Nat.reduceLT,Nat.reduceSub,Int.reduceToNat,Int.reduceLE,Int.reduceLT, one_imm, one_ref, List.length_map, List.length_range, hlb3, hrow]
  repeat ((with_reducible refine And.intro ?_ ?_); · first | omega | (simp; omega))
  refine fromRow_v row (by omega) _ _ _ fun nx2 => ?_
  have hc0 : CS f L Hb (H1 ++ [(⟨nx1, 97, 1, rowC64 (List.replicate f.r false)⟩ : VObj)]) (nx + 1 + 1) g (List.replicate f.r (List.replicate f.r false)) H1.length nx1 (List.replicate f.r false) := by
    refine ⟨p2.app _, app_old p3 _, fun b hb => ?_, p5, by simp, fun b hb => ?_, fun b hb => (p4 b hb).2, p2.lt, by simp, fun b hb => ?_, by simp⟩
    · rw [show (List.replicate f.r (List.replicate f.r false)).getD b [] = List.replicate f.r false by simp [List.getD, hb]]
      exact app_old (p4 b hb).1 _
    · have := (List.getElem?_eq_some_iff.1 (p4 b hb).1).1; omega
    · simp [List.getD, hb]
  have hlen1 : (H1 ++ [(⟨nx1, 97, 1, rowC64 (List.replicate f.r false)⟩ : VObj)]).length = H1.length + 1 := by simp
  have hc1 := hc0.app [(⟨nx1 + 1, 97, 1, rowC64 row⟩ : VObj)]
  have hF1 : (H1 ++ [(⟨nx1, 97, 1, rowC64 (List.replicate f.r false)⟩ : VObj)] ++ [(⟨nx1 + 1, 97, 1, rowC64 row⟩ : VObj)])[H1.length + 1]? = some ⟨nx1 + 1, 97, 1, rowC64 row⟩ := by
    rw [List.getElem?_append_right (by simp)]; simp
  have hFg : ∀ b < f.r, (g b).1 ≠ H1.length + 1 := fun b hb => by have := (List.getElem?_eq_some_iff.1 (p4 b hb).1).1; omega
  generalize H1 ++ [(⟨nx1, 97, 1, rowC64 (List.replicate f.r false)⟩ : VObj)] ++ [(⟨nx1 + 1, 97, 1, rowC64 row⟩ : VObj)] = H2 at hc1 hF1 ⊢
  have htb1 := hc1.tb
  simp only [go_sem,Nat.reduceEqDiff,Nat.reduceAdd,Nat.reduceMul,↓reduceIte,↓dreduceIte,reduceCtorEq,Nat.reduceLeDiff,Nat.reduceLT,Nat.reduceSub,Int.reduceToNat,Int.reduceLE,Int.reduceLT, one_imm, one_ref, List.length_map, List.length_range, hlen1, htb1]
  -- what matters at the beginning
  refine VW_loop (fun x : CQ => ⟨[(2, .ptr H.length nx 0), (3, .ptr (H.length + 1) (nx + 1) 0), (6, .ref Hb.length (nx + 1 + 1) 0 f.r), (8, .ref H1.length nx1 0 (rl f.r)), (9, .ref (H1.length + 1) (nx1 + 1) 0 (rl f.r)), (43, I f.r), (44, I x.i)], x.H, x.nx⟩)
    (fun x => x.i ≤ f.r ∧ CS f L Hb x.H (nx + 1 + 1) g x.m H1.length nx1 (List.replicate f.r false) ∧ x.H[H1.length + 1]? = some ⟨nx1 + 1, 97, 1, rowC64 row⟩ ∧ (∀ b < x.i, gB row b = true → ∀ u < f.r, gB row u = true → gB (x.m.getD b []) u = true)) (fun x => f.r - x.i)
    ⟨0, H2, g, List.replicate f.r (List.replicate f.r false), [], nx2⟩ ?_ ?_ ?_
  · exact Wk.mk (by simp [get_cons, hi0]) ⟨[], by simp⟩ (Nat.le_refl _)
  · exact ⟨Nat.zero_le _, hc1, hF1, fun b hb => absurd hb (Nat.not_lt_zero b)⟩
  rintro ⟨v, H3, g', m, iw', nx3⟩ ⟨q1, q2, q3, q4⟩
  simp only at q1 q2 q3 q4
  by_cases hv : v < f.r
  · have hvr : v < row.length := by omega
    simp only [go_sem,Nat.reduceEqDiff,Nat.reduceAdd,Nat.reduceMul,↓reduceIte,↓dreduceIte,reduceCtorEq,Nat.reduceLeDiff,Nat.reduceLT,Nat.reduceSub,Int.reduceToNat,Int.reduceLE,Int.reduceLT, one_imm, one_ref, List.length_map, List.length_range, eq_true (show (v : Int) < (f.r : Int) by omega)]
    refine has_v row v H3 nx3 (H1.length + 1) (nx1 + 1) (rl f.r) (by rw [hi0]) (by omega) hvr q3 _ ?_
    have htb := q2.tb
    cases hg : gB row v
    · simp only [go_sem,Nat.reduceEqDiff,Nat.reduceAdd,Nat.reduceMul,↓reduceIte,↓dreduceIte,reduceCtorEq,Nat.reduceLeDiff,Nat.reduceLT,Nat.reduceSub,Int.reduceToNat,Int.reduceLE,Int.reduceLT, one_imm, one_ref, List.length_map, List.length_range]
      rw [i64_in (by omega) (by omega)]
      refine ⟨⟨v + 1, H3, g, m, [], nx3⟩, ⟨by simp only; omega, q2, q3, fun b hb h1 u hu h2 => ?_⟩, by simp only; omega, Wk.mk (by simp [get_cons]) ⟨[], by simp⟩ (Nat.le_refl _)⟩
      simp only at hb
      by_cases e : b = v
      · subst e; rw [hg] at h1; cases h1
      · exact q4 b (by omega) h1 u hu h2
    · simp only [go_sem,Nat.reduceEqDiff,Nat.reduceAdd,Nat.reduceMul,↓reduceIte,↓dreduceIte,reduceCtorEq,Nat.reduceLeDiff,Nat.reduceLT,Nat.reduceSub,Int.reduceToNat,Int.reduceLE,Int.reduceLT, one_imm, one_ref, List.length_map, List.length_range, htb, cellT_tbl]
      repeat ((with_reducible refine And.intro ?_ ?_); · first | omega | (simp; omega))
      have hlv := q2.ln v hv
      have hml := q2.ml
      refine addAll_v (m.getD v []) row H3 nx3 (g v).1 (g v).2 (H1.length + 1) (nx1 + 1) (rl f.r) (by rw [hlv]) (by omega) (by omega) (q2.rw v hv) q3 (hFg v hv) _ ?_
      have hol : (orL (m.getD v []) row).length = f.r := by rw [orL_len]; exact hlv
      have hc2 := q2.setR hv (orL (m.getD v []) row) hol
      have hF2 : (H3.set (g v).1 ⟨(g v).2, 97, 1, rowC64 (orL (m.getD v []) row)⟩)[H1.length + 1]? = some ⟨nx1 + 1, 97, 1, rowC64 row⟩ := by rw [List.getElem?_set_ne (hFg v hv)]; exact q3
      simp only [go_sem,Nat.reduceEqDiff,Nat.reduceAdd,Nat.reduceMul,↓reduceIte,↓dreduceIte,reduceCtorEq,Nat.reduceLeDiff,Nat.reduceLT,Nat.reduceSub,Int.reduceToNat,Int.reduceLE,Int.reduceLT, one_imm, one_ref, List.length_map, List.length_range]
      rw [i64_in (by omega) (by omega)]
      refine ⟨⟨v + 1, _, g, m.set v (orL (m.getD v []) row), [], nx3⟩, ⟨by simp only; omega, hc2, hF2, fun b hb h1 u hu h2 => ?_⟩, by simp only; omega, Wk.mk (by simp [get_cons]) ⟨[], (List.append_nil _).symm⟩ (Nat.le_refl _)⟩
      simp only at hb
      rw [List.getD, List.getElem?_set]
      by_cases e : v = b
      · rw [if_pos e, if_pos (by rw [hml]; exact hv)]
        show gB (orL _ _) u = true
        rw [gB_or _ _ (by rw [hlv]; exact hu), h2]; simp
      · rw [if_neg e]; exact q4 b (by omega) h1 u hu h2
  obtain rfl : v = f.r := by omega
  have hap : ∀ u < f.r, ∀ v < f.r, L.I 0 u = true → L.I 0 v = true → gB (m.getD v []) u = true := fun u hu v hv h1 h2 => by
    have e : ∀ w, L.I 0 w = gB row w := fun w => by rw [← hrow]; rfl
    rw [e] at h1 h2
    exact q4 v hv h2 u hu h1
  have hcv : CV f L m (List.replicate f.r false) (fun b _ => b < 0) := ⟨hap, fun b _ i _ hp => absurd hp (Nat.not_lt_zero b), fun b _ i _ hp => absurd hp (Nat.not_lt_zero b)⟩
  have hfb3 := q2.kp _ _ hfb
  simp only [go_sem,Nat.reduceEqDiff,Nat.reduceAdd,Nat.reduceMul,↓reduceIte,↓dreduceIte,reduceCtorEq,Nat.reduceLeDiff,Nat.reduceLT,Nat.reduceSub,Int.reduceToNat,Int.reduceLE,Int.reduceLT, one_imm, one_ref, List.length_map, List.length_range, hfb3, hnn, eq_false (show ¬ (f.r : Int) < (f.r : Int) by omega)]
  -- the blocks
  refine VW_loop (fun x : CQ => ⟨[(2, .ptr H.length nx 0), (3, .ptr (H.length + 1) (nx + 1) 0), (6, .ref Hb.length (nx + 1 + 1) 0 f.r), (8, .ref H1.length nx1 0 (rl f.r)), (58, bksA f.bks), (59, I f.n), (60, I x.i)], x.H, x.nx⟩)
    (fun x => x.i ≤ f.n ∧ CS f L Hb x.H (nx + 1 + 1) g x.m H1.length nx1 x.iw ∧ CV f L x.m x.iw (fun b _ => b < x.i)) (fun x => f.n - x.i)
    ⟨0, H3, g, m, List.replicate f.r false, nx3⟩ ?_ ?_ ?_
  · exact Wk.mk (by simp [get_cons]) ⟨[], by simp⟩ (Nat.le_refl _)
  · exact ⟨Nat.zero_le _, q2, hcv⟩
  clear hap hcv q2 q3 q4 hfb3
  rintro ⟨b, H4, g'', m, iw, nx4⟩ ⟨u1, u2, u3⟩
  simp only at u1 u2 u3
  by_cases hb : b < f.n
  case neg =>
    obtain rfl : b = f.n := by omega
    simp only [go_sem,Nat.reduceEqDiff,Nat.reduceAdd,Nat.reduceMul,↓reduceIte,↓dreduceIte,reduceCtorEq,Nat.reduceLeDiff,Nat.reduceLT,Nat.reduceSub,Int.reduceToNat,Int.reduceLE,Int.reduceLT, one_imm, one_ref, List.length_map, List.length_range, eq_false (show ¬ (f.n : Int) < (f.n : Int) by omega)]
    exact hC _ _ Hb _ g m _ _ iw (fun i ob ho => u2.kp i ob (hkp0 i ob ho)) u2 ⟨u3.ap, fun b hb i hi _ => u3.st b hb i hi hb, fun b hb i hi _ => u3.ca b hb i hi hb⟩
  have hbk : f.bks.getD b default = f.bk b := rfl
  have hlo : (L.out.getD b default).length = f.r := hs.ol hb
  have hrg := hf.regs hb hlo
  have hbl := hf.len _ (BF.mem hb)
  have hlb4 := app_old (u2.kp _ _ hlb) [(⟨nx4, 60, 1, bkL (f.bk b)⟩ : VObj)]
  simp only [go_sem,Nat.reduceEqDiff,Nat.reduceAdd,Nat.reduceMul,↓reduceIte,↓dreduceIte,reduceCtorEq,Nat.reduceLeDiff,Nat.reduceLT,Nat.reduceSub,Int.reduceToNat,Int.reduceLE,Int.reduceLT, one_imm, one_ref, List.length_map, List.length_range, hbk, apg0, aps0, hlb4, eq_true (show (b : Int) < (f.n : Int) by omega)]
  repeat ((with_reducible refine And.intro ?_ ?_); · first | omega | (simp; omega))
  obtain ⟨out, hout⟩ : ∃ out, L.out.getD b default = out := ⟨_, rfl⟩
  rw [hout] at hlo hrg ⊢
  obtain ⟨bk, hbkd⟩ : ∃ bk, f.bk b = bk := ⟨_, rfl⟩
  rw [hbkd] at hrg hbl hlb4 ⊢
  refine fromRow_v out (by omega) _ _ _ fun nx5 => ?_
  have hc5 := (u2.app [(⟨nx4, 60, 1, bkL bk⟩ : VObj)]).app [(⟨nx4 + 1, 97, 1, rowC64 out⟩ : VObj)]
  have hB5 : (H4 ++ [(⟨nx4, 60, 1, bkL bk⟩ : VObj)] ++ [(⟨nx4 + 1, 97, 1, rowC64 out⟩ : VObj)])[H4.length + 1]? = some ⟨nx4 + 1, 97, 1, rowC64 out⟩ := by
    rw [List.getElem?_append_right (by simp)]; simp
  have hK5 : (H4 ++ [(⟨nx4, 60, 1, bkL bk⟩ : VObj)] ++ [(⟨nx4 + 1, 97, 1, rowC64 out⟩ : VObj)])[H4.length]? = some ⟨nx4, 60, 1, bkL bk⟩ := by
    rw [List.getElem?_append_left (by simp)]; simp
  have hlen4 : (H4 ++ [(⟨nx4, 60, 1, bkL bk⟩ : VObj)]).length = H4.length + 1 := by simp
  have hBg : ∀ c < f.r, (g c).1 ≠ H4.length + 1 := fun c hc => by have := (List.getElem?_eq_some_iff.1 (u2.rw c hc)).1; omega
  have hBW : H1.length ≠ H4.length + 1 := by have := (List.getElem?_eq_some_iff.1 u2.w).1; omega
  have hBt : H4.length + 1 ≠ Hb.length := by have := (List.getElem?_eq_some_iff.1 u2.tb).1; omega
  have hBk : Hb.length ≤ H4.length + 1 := by have := u2.kp.lt; omega
  generalize H4 ++ [(⟨nx4, 60, 1, bkL bk⟩ : VObj)] ++ [(⟨nx4 + 1, 97, 1, rowC64 out⟩ : VObj)] = H5 at hc5 hB5 hK5 ⊢
  have hn1 : (H4.length + 1 = H4.length) = False := eq_false (by omega)
  have hw0 : IntKind.i64.wrap ((bk.ins.length : Int) - 1) = (bk.ins.length : Int) - 1 := i64_in (by omega) (by omega)
  by_cases he : bk.e = 2
  · obtain ⟨hv1, hv2⟩ := hrg.2 he
    simp only [go_sem,Nat.reduceEqDiff,Nat.reduceAdd,Nat.reduceMul,↓reduceIte,↓dreduceIte,reduceCtorEq,Nat.reduceLeDiff,Nat.reduceLT,Nat.reduceSub,Int.reduceToNat,Int.reduceLE,Int.reduceLT, one_imm, one_ref, List.length_map, List.length_range, hK5, hlen4, he, hw0]
    refine badd_v out bk.v H5 nx5 (H4.length + 1) (nx4 + 1) _ rfl (by omega) (by omega) hB5 _ fun r => ?_
    rw [last_pos he]
    have h1 := hc5.other hBk hBt hBg hBW (⟨nx4 + 1, 97, 1, rowC64 (lastL bk out)⟩ : VObj)
    have h2 := (List.getElem?_set_ne (of_eq_false hn1) (a := (⟨nx4 + 1, 97, 1, rowC64 (lastL bk out)⟩ : VObj))).trans hK5
    have h3 := set_get (x := (⟨nx4 + 1, 97, 1, rowC64 (lastL bk out)⟩ : VObj)) hB5
    simp only [go_sem,Nat.reduceEqDiff,Nat.reduceAdd,Nat.reduceMul,↓reduceIte,↓dreduceIte,reduceCtorEq,Nat.reduceLeDiff,Nat.reduceLT,Nat.reduceSub,Int.reduceToNat,Int.reduceLE,Int.reduceLT, one_imm, one_ref, List.length_map, List.length_range, h2, hw0]
    refine VW_loop (fun y : CQ => ⟨[(2, .ptr H.length nx 0), (3, .ptr (H.length + 1) (nx + 1) 0), (6, .ref Hb.length (nx + 1 + 1) 0 f.r), (8, .ref H1.length nx1 0 (rl f.r)), (58, bksA f.bks), (59, I f.n), (60, I b), (12, .ptr H4.length nx4 0), (13, .ref (H4.length + 1) (nx4 + 1) 0 (rl f.r)), (14, I ((bk.ins.length : Int) - 1 - y.i))], y.H, y.nx⟩)
      (fun y => y.i ≤ bk.ins.length ∧ CS f L Hb y.H (nx + 1 + 1) g y.m H1.length nx1 y.iw ∧ CV f L y.m y.iw (fun c i => c < b ∨ (c = b ∧ bk.ins.length ≤ i + y.i)) ∧ y.H[H4.length]? = some ⟨nx4, 60, 1, bkL bk⟩ ∧ y.H[H4.length + 1]? = some ⟨nx4 + 1, 97, 1, rowC64 (atL bk out y.i)⟩) (fun y => bk.ins.length - y.i) ⟨0, _, g, m, iw, _⟩
      (Wk.mk (by simp [get_cons, hw0, hlo]) ⟨[], (List.append_nil _).symm⟩ (Nat.le_refl _)) ⟨Nat.zero_le _, h1, ⟨u3.ap, fun c hc i hi hp => u3.st c hc i hi (hp.resolve_right fun e => by obtain ⟨rfl, e2⟩ := e; rw [hbkd] at hi; simp only at e2; omega), fun c hc i hi hp => u3.ca c hc i hi (hp.resolve_right fun e => by obtain ⟨rfl, e2⟩ := e; rw [hbkd] at hi; simp only at e2; omega)⟩, h2, by rw [atL_zero]; exact h3⟩ ?_
    rintro ⟨k, H6, g6, m, iw, nx6⟩ ⟨r1, r2, r3, r4, r5⟩
    simp only at r1 r2 r3 r4 r5
    by_cases hk2 : k < bk.ins.length
    case neg =>
      obtain rfl : k = bk.ins.length := by omega
      simp only [go_sem,Nat.reduceEqDiff,Nat.reduceAdd,Nat.reduceMul,↓reduceIte,↓dreduceIte,reduceCtorEq,Nat.reduceLeDiff,Nat.reduceLT,Nat.reduceSub,Int.reduceToNat,Int.reduceLE,Int.reduceLT, one_imm, one_ref, List.length_map, List.length_range, eq_false (show ¬ (0 : Int) ≤ (bk.ins.length : Int) - 1 - bk.ins.length by omega)]
      rw [i64_in (by omega) (by omega)]
      exact ⟨⟨b + 1, H6, g, m, iw, nx6⟩, ⟨by simp only; omega, r2, ⟨r3.ap, fun c hc i hi hp => r3.st c hc i hi (by simp only at hp; by_cases e : c = b; exact .inr ⟨e, by omega⟩; exact .inl (by omega)), fun c hc i hi hp => r3.ca c hc i hi (by simp only at hp; by_cases e : c = b; exact .inr ⟨e, by omega⟩; exact .inl (by omega))⟩⟩, by simp only; omega, Wk.mk (by simp [get_cons]) ⟨[], (List.append_nil _).symm⟩ (Nat.le_refl _)⟩
    have e1 : ((bk.ins.length : Int) - 1 - k).toNat = bk.ins.length - k - 1 := by omega
    have hmt := mem_getD (show bk.ins.length - k - 1 < bk.ins.length by omega)
    have hrt := hrg.1 _ hmt
    have hbg := behindL_get bk out (show bk.ins.length - k - 1 < bk.ins.length by omega)
    rw [show bk.ins.length - k - 1 + 1 = bk.ins.length - k by omega] at hbg
    have hxl := atL_len bk out k
    rw [hlo] at hxl
    obtain ⟨x, hxd⟩ : ∃ x, atL bk out k = x := ⟨_, rfl⟩
    replace hbg : (behindL bk out).getD (bk.ins.length - k - 1) default = x := hbg.trans hxd
    rw [hxd] at r5 hxl
    obtain ⟨t, hti⟩ : ∃ t, bk.ins.getD (bk.ins.length - k - 1) default = t := ⟨_, rfl⟩
    rw [hti, hlo] at hrt
    have hstep0 := CV.step hf hs r3 r2.ml r2.ln r2.il hb (i0 := bk.ins.length - k - 1) (by rw [hbkd]; omega) x (by rw [hbkd, hout]; exact hbg.symm) (P' := fun c i => c < b ∨ (c = b ∧ bk.ins.length ≤ i + (k + 1))) (fun c i hp => by
      rcases hp with hp | ⟨hp1, hp2⟩
      · exact .inl (.inl hp)
      · by_cases e : i = bk.ins.length - k - 1
        · exact .inr ⟨hp1, e⟩
        · exact .inl (.inr ⟨hp1, by omega⟩)) t (by rw [hbkd]; exact hti)
    have c6 := r2.app [(⟨nx6, 57, 1, tacL t⟩ : VObj)]
    have k6 := app_old r4 [(⟨nx6, 57, 1, tacL t⟩ : VObj)]
    have b6 := app_old r5 [(⟨nx6, 57, 1, tacL t⟩ : VObj)]
    have t6 : (H6 ++ [(⟨nx6, 57, 1, tacL t⟩ : VObj)])[H6.length]? = some ⟨nx6, 57, 1, tacL t⟩ := by simp
    have htg : ∀ c < f.r, (g c).1 ≠ H6.length := fun c hc => by have := (List.getElem?_eq_some_iff.1 (r2.rw c hc)).1; omega
    have htW : H1.length ≠ H6.length := by have := (List.getElem?_eq_some_iff.1 r2.w).1; omega
    have htB : H4.length + 1 ≠ H6.length := by have := (List.getElem?_eq_some_iff.1 r5).1; omega
    by_cases ho : t.op = 10
    · rw [if_pos ho] at hstep0
      simp only [go_sem,Nat.reduceEqDiff,Nat.reduceAdd,Nat.reduceMul,↓reduceIte,↓dreduceIte,reduceCtorEq,Nat.reduceLeDiff,Nat.reduceLT,Nat.reduceSub,Int.reduceToNat,Int.reduceLE,Int.reduceLT, one_imm, one_ref, List.length_map, List.length_range, r4, t6, apg0, aps0, e1, hti, eq_true ho, eq_true (show (0 : Int) ≤ (bk.ins.length : Int) - 1 - k by omega)]
      repeat ((with_reducible refine And.intro ?_ ?_); · first | omega | (simp; omega))
      have hil := r2.il
      refine addAll_v iw x _ _ H1.length nx1 (H4.length + 1) (nx4 + 1) (rl f.r) (by rw [hil]) (by omega) (by omega) c6.w b6 hBW _ ?_
      have hol6 : (orL iw x).length = f.r := by rw [orL_len]; exact hil
      have c7 := c6.setW (orL iw x) hol6
      have hkW : H1.length ≠ H4.length := fun e => by have := c6.w; rw [e, k6] at this; simp at this
      have k7 := (List.getElem?_set_ne hkW (a := (⟨nx1, 97, 1, rowC64 (orL iw x)⟩ : VObj))).trans k6
      have b7 := (List.getElem?_set_ne hBW (a := (⟨nx1, 97, 1, rowC64 (orL iw x)⟩ : VObj))).trans b6
      have q7 := (List.getElem?_set_ne htW (a := (⟨nx1, 97, 1, rowC64 (orL iw x)⟩ : VObj))).trans t6
      simp only [go_sem,Nat.reduceEqDiff,Nat.reduceAdd,Nat.reduceMul,↓reduceIte,↓dreduceIte,reduceCtorEq,Nat.reduceLeDiff,Nat.reduceLT,Nat.reduceSub,Int.reduceToNat,Int.reduceLE,Int.reduceLT, one_imm, one_ref, List.length_map, List.length_range, q7]
      refine VCall.of_contract (bSets_c t) (SleL.pure rfl) fun y hy => ?_
      subst hy
      have htb7 := c7.tb
      by_cases hd : 0 ≤ setsL t
      · have hsT : SetsT t := by
          unfold setsL at hd
          by_cases h : SetsT t
          · exact h
          · rw [if_neg h] at hd; omega
        have hsd : setsL t = t.d := if_pos hsT
        have hdl := hrt.2 hsT
        obtain ⟨d, hdd⟩ : ∃ d : Nat, t.d = (d : Int) := ⟨t.d.toNat, by omega⟩
        have hdr : d < f.r := by omega
        have hmd := c7.ln d hdr
        simp only [go_sem,Nat.reduceEqDiff,Nat.reduceAdd,Nat.reduceMul,↓reduceIte,↓dreduceIte,reduceCtorEq,Nat.reduceLeDiff,Nat.reduceLT,Nat.reduceSub,Int.reduceToNat,Int.reduceLE,Int.reduceLT, one_imm, one_ref, List.length_map, List.length_range, hsd, hdd, htb7, cellT_tbl, eq_true (show (0 : Int) ≤ (d : Int) by omega)]
        repeat ((with_reducible refine And.intro ?_ ?_); · first | omega | (simp; omega))
        refine addAll_v (m.getD d []) x _ _ (g d).1 (g d).2 (H4.length + 1) (nx4 + 1) (rl f.r) (by rw [hmd]) (by omega) (by omega) (c7.rw d hdr) b7 (hBg d hdr) _ ?_
        have hol : (orL (m.getD d []) x).length = f.r := by rw [orL_len]; exact hmd
        have hc7 := c7.setR hdr (orL (m.getD d []) x) hol
        have hkg : (g d).1 ≠ H4.length := fun e => by have := c7.rw d hdr; rw [e, k7] at this; simp at this
        have hK7 := (List.getElem?_set_ne hkg (a := (⟨(g d).2, 97, 1, rowC64 (orL (m.getD d []) x)⟩ : VObj))).trans k7
        have hB7 := (List.getElem?_set_ne (hBg d hdr) (a := (⟨(g d).2, 97, 1, rowC64 (orL (m.getD d []) x)⟩ : VObj))).trans b7
        simp only [go_sem,Nat.reduceEqDiff,Nat.reduceAdd,Nat.reduceMul,↓reduceIte,↓dreduceIte,reduceCtorEq,Nat.reduceLeDiff,Nat.reduceLT,Nat.reduceSub,Int.reduceToNat,Int.reduceLE,Int.reduceLT, one_imm, one_ref, List.length_map, List.length_range, hsd, hdd]
        refine bdrop_v x d _ _ (H4.length + 1) (nx4 + 1) (rl f.r) (by rw [hxl]) (by omega) (by omega) hB7 _ fun r => ?_
        have hcl' : clearL t x = x.set d false := by unfold clearL; rw [if_pos hd, hsd, hdd, Int.toNat_natCast]
        rw [Int.toNat_natCast, ← hcl']
        have hu1 := hc7.other hBk hBt hBg hBW (⟨nx4 + 1, 97, 1, rowC64 (clearL t x)⟩ : VObj)
        have hu2 := (List.getElem?_set_ne (of_eq_false hn1) (a := (⟨nx4 + 1, 97, 1, rowC64 (clearL t x)⟩ : VObj))).trans hK7
        have hu3 := set_get (x := (⟨nx4 + 1, 97, 1, rowC64 (clearL t x)⟩ : VObj)) hB7
        rw [if_pos hsT, hdd, Int.toNat_natCast] at hstep0
        have hstep := hstep0
        have q8 := (List.getElem?_set_ne htB (a := (⟨nx4 + 1, 97, 1, rowC64 (clearL t x)⟩ : VObj))).trans ((List.getElem?_set_ne (htg d hdr) (a := (⟨(g d).2, 97, 1, rowC64 (orL (m.getD d []) x)⟩ : VObj))).trans q7)
        simp only [go_sem,Nat.reduceEqDiff,Nat.reduceAdd,Nat.reduceMul,↓reduceIte,↓dreduceIte,reduceCtorEq,Nat.reduceLeDiff,Nat.reduceLT,Nat.reduceSub,Int.reduceToNat,Int.reduceLE,Int.reduceLT, one_imm, one_ref, List.length_map, List.length_range, q8]
        have hul := usesL_len t
        refine VCall.of_contract (bUses_c t).old (SleL.pure rfl) fun y hy => ?_
        subst hy
        simp only [go_sem,Nat.reduceEqDiff,Nat.reduceAdd,Nat.reduceMul,↓reduceIte,↓dreduceIte,reduceCtorEq,Nat.reduceLeDiff,Nat.reduceLT,Nat.reduceSub,Int.reduceToNat,Int.reduceLE,Int.reduceLT, one_imm, one_ref, List.length_map, List.length_range]
        refine VW_loop (fun y : CQ => ⟨[(2, .ptr H.length nx 0), (3, .ptr (H.length + 1) (nx + 1) 0), (6, .ref Hb.length (nx + 1 + 1) 0 f.r), (8, .ref H1.length nx1 0 (rl f.r)), (58, bksA f.bks), (59, I f.n), (60, I b), (12, .ptr H4.length nx4 0), (13, .ref (H4.length + 1) (nx4 + 1) 0 (rl f.r)), (14, I ((bk.ins.length : Int) - 1 - k)), (111, ints (usesL t)), (112, I (usesL t).length), (113, I y.i)], y.H, y.nx⟩)
          (fun y => y.i ≤ (usesL t).length ∧ CS f L Hb y.H (nx + 1 + 1) g (m.set d (orL (m.getD d []) x)) H1.length nx1 (orL iw x) ∧ y.H[H4.length]? = some ⟨nx4, 60, 1, bkL bk⟩ ∧ y.H[H4.length + 1]? = some ⟨nx4 + 1, 97, 1, rowC64 (useL (clearL t x) ((usesL t).take y.i))⟩) (fun y => (usesL t).length - y.i) ⟨0, _, g, [], [], _⟩
          (Wk.mk (by simp [get_cons]) ⟨[], (List.append_nil _).symm⟩ (Nat.le_refl _)) ⟨Nat.zero_le _, hu1, hu2, hu3⟩ ?_
        rintro ⟨j, H8, g8, m8, iw8, nx8⟩ ⟨a1, a2, a3, a4⟩
        simp only at a1 a2 a3 a4
        by_cases hj : j < (usesL t).length
        · obtain ⟨g1, g2⟩ := hrt.1 _ (mem_getD hj)
          have htk := useL_take (clearL t x) (usesL t) hj
          have hyl : (useL (clearL t x) ((usesL t).take j)).length = f.r := by rw [useL_len, clearL_len]; exact hxl
          simp only [go_sem,Nat.reduceEqDiff,Nat.reduceAdd,Nat.reduceMul,↓reduceIte,↓dreduceIte,reduceCtorEq,Nat.reduceLeDiff,Nat.reduceLT,Nat.reduceSub,Int.reduceToNat,Int.reduceLE,Int.reduceLT, one_imm, one_ref, List.length_map, List.length_range, eq_true (show (j : Int) < ((usesL t).length : Int) by omega)]
          repeat ((with_reducible refine And.intro ?_ ?_); · first | omega | (simp; omega))
          refine badd_v (useL (clearL t x) ((usesL t).take j)) ((usesL t).getD j default) H8 nx8 (H4.length + 1) (nx4 + 1) (rl f.r) (by rw [hyl]) (by omega) (by omega) a4 _ fun r => ?_
          rw [← htk]
          simp only [go_sem,Nat.reduceEqDiff,Nat.reduceAdd,Nat.reduceMul,↓reduceIte,↓dreduceIte,reduceCtorEq,Nat.reduceLeDiff,Nat.reduceLT,Nat.reduceSub,Int.reduceToNat,Int.reduceLE,Int.reduceLT, one_imm, one_ref, List.length_map, List.length_range]
          rw [i64_in (by omega) (by omega)]
          exact ⟨⟨j + 1, _, g, [], [], nx8⟩, ⟨by simp only; omega, a2.other hBk hBt hBg hBW _, by rw [List.getElem?_set_ne (of_eq_false hn1)]; exact a3, set_get a4⟩, by simp only; omega, Wk.mk (by simp [get_cons]) ⟨[], (List.append_nil _).symm⟩ (Nat.le_refl _)⟩
        · simp only [go_sem,Nat.reduceEqDiff,Nat.reduceAdd,Nat.reduceMul,↓reduceIte,↓dreduceIte,reduceCtorEq,Nat.reduceLeDiff,Nat.reduceLT,Nat.reduceSub,Int.reduceToNat,Int.reduceLE,Int.reduceLT, one_imm, one_ref, List.length_map, List.length_range, eq_false (show ¬ (j : Int) < ((usesL t).length : Int) by omega)]
          rw [List.take_of_length_le (by omega)] at a4
          have hst := atL_step bk out hk2
          rw [hti, hxd] at hst
          have hbk : useL (clearL t x) (usesL t) = atL bk out (k + 1) := hst
          rw [hbk] at a4
          rw [i64_in (by omega) (by omega)]
          exact ⟨⟨k + 1, H8, g, (m.set d (orL (m.getD d []) x)), (orL iw x), nx8⟩, ⟨by simp only; omega, a2, hstep, a3, a4⟩, by simp only; omega, Wk.mk (by simp [get_cons]; omega) ⟨[], (List.append_nil _).symm⟩ (Nat.le_refl _)⟩
      · have hsT : ¬ SetsT t := fun h => by
          apply hd
          have := hrt.2 h
          unfold setsL; rw [if_pos h]; omega
        have hcl' : clearL t x = x := by unfold clearL; rw [if_neg hd]
        rw [if_neg hsT] at hstep0
        have hstep := hstep0
        have hu1 := c7
        have hu2 := k7
        have hu3 := (b7).trans (show some (⟨nx4 + 1, 97, 1, rowC64 x⟩ : VObj) = some ⟨nx4 + 1, 97, 1, rowC64 (useL (clearL t x) ((usesL t).take 0))⟩ by rw [hcl']; rfl)
        simp only [go_sem,Nat.reduceEqDiff,Nat.reduceAdd,Nat.reduceMul,↓reduceIte,↓dreduceIte,reduceCtorEq,Nat.reduceLeDiff,Nat.reduceLT,Nat.reduceSub,Int.reduceToNat,Int.reduceLE,Int.reduceLT, one_imm, one_ref, List.length_map, List.length_range, eq_false hd, q7]
        have hul := usesL_len t
        refine VCall.of_contract (bUses_c t).old (SleL.pure rfl) fun y hy => ?_
        subst hy
        simp only [go_sem,Nat.reduceEqDiff,Nat.reduceAdd,Nat.reduceMul,↓reduceIte,↓dreduceIte,reduceCtorEq,Nat.reduceLeDiff,Nat.reduceLT,Nat.reduceSub,Int.reduceToNat,Int.reduceLE,Int.reduceLT, one_imm, one_ref, List.length_map, List.length_range]
        refine VW_loop (fun y : CQ => ⟨[(2, .ptr H.length nx 0), (3, .ptr (H.length + 1) (nx + 1) 0), (6, .ref Hb.length (nx + 1 + 1) 0 f.r), (8, .ref H1.length nx1 0 (rl f.r)), (58, bksA f.bks), (59, I f.n), (60, I b), (12, .ptr H4.length nx4 0), (13, .ref (H4.length + 1) (nx4 + 1) 0 (rl f.r)), (14, I ((bk.ins.length : Int) - 1 - k)), (111, ints (usesL t)), (112, I (usesL t).length), (113, I y.i)], y.H, y.nx⟩)
          (fun y => y.i ≤ (usesL t).length ∧ CS f L Hb y.H (nx + 1 + 1) g m H1.length nx1 (orL iw x) ∧ y.H[H4.length]? = some ⟨nx4, 60, 1, bkL bk⟩ ∧ y.H[H4.length + 1]? = some ⟨nx4 + 1, 97, 1, rowC64 (useL (clearL t x) ((usesL t).take y.i))⟩) (fun y => (usesL t).length - y.i) ⟨0, _, g, [], [], _⟩
          (Wk.mk (by simp [get_cons]) ⟨[], (List.append_nil _).symm⟩ (Nat.le_refl _)) ⟨Nat.zero_le _, hu1, hu2, hu3⟩ ?_
        rintro ⟨j, H8, g8, m8, iw8, nx8⟩ ⟨a1, a2, a3, a4⟩
        simp only at a1 a2 a3 a4
        by_cases hj : j < (usesL t).length
        · obtain ⟨g1, g2⟩ := hrt.1 _ (mem_getD hj)
          have htk := useL_take (clearL t x) (usesL t) hj
          have hyl : (useL (clearL t x) ((usesL t).take j)).length = f.r := by rw [useL_len, clearL_len]; exact hxl
          simp only [go_sem,Nat.reduceEqDiff,Nat.reduceAdd,Nat.reduceMul,↓reduceIte,↓dreduceIte,reduceCtorEq,Nat.reduceLeDiff,Nat.reduceLT,Nat.reduceSub,Int.reduceToNat,Int.reduceLE,Int.reduceLT, one_imm, one_ref, List.length_map, List.length_range, eq_true (show (j : Int) < ((usesL t).length : Int) by omega)]
          repeat ((with_reducible refine And.intro ?_ ?_); · first | omega | (simp; omega))
          refine badd_v (useL (clearL t x) ((usesL t).take j)) ((usesL t).getD j default) H8 nx8 (H4.length + 1) (nx4 + 1) (rl f.r) (by rw [hyl]) (by omega) (by omega) a4 _ fun r => ?_
          rw [← htk]
          simp only [go_sem,Nat.reduceEqDiff,Nat.reduceAdd,Nat.reduceMul,↓reduceIte,↓dreduceIte,reduceCtorEq,Nat.reduceLeDiff,Nat.reduceLT,Nat.reduceSub,Int.reduceToNat,Int.reduceLE,Int.reduceLT, one_imm, one_ref, List.length_map, List.length_range]
          rw [i64_in (by omega) (by omega)]
          exact ⟨⟨j + 1, _, g, [], [], nx8⟩, ⟨by simp only; omega, a2.other hBk hBt hBg hBW _, by rw [List.getElem?_set_ne (of_eq_false hn1)]; exact a3, set_get a4⟩, by simp only; omega, Wk.mk (by simp [get_cons]) ⟨[], (List.append_nil _).symm⟩ (Nat.le_refl _)⟩
        · simp only [go_sem,Nat.reduceEqDiff,Nat.reduceAdd,Nat.reduceMul,↓reduceIte,↓dreduceIte,reduceCtorEq,Nat.reduceLeDiff,Nat.reduceLT,Nat.reduceSub,Int.reduceToNat,Int.reduceLE,Int.reduceLT, one_imm, one_ref, List.length_map, List.length_range, eq_false (show ¬ (j : Int) < ((usesL t).length : Int) by omega)]
          rw [List.take_of_length_le (by omega)] at a4
          have hst := atL_step bk out hk2
          rw [hti, hxd] at hst
          have hbk : useL (clearL t x) (usesL t) = atL bk out (k + 1) := hst
          rw [hbk] at a4
          rw [i64_in (by omega) (by omega)]
          exact ⟨⟨k + 1, H8, g, m, (orL iw x), nx8⟩, ⟨by simp only; omega, a2, hstep, a3, a4⟩, by simp only; omega, Wk.mk (by simp [get_cons]; omega) ⟨[], (List.append_nil _).symm⟩ (Nat.le_refl _)⟩
    · rw [if_neg ho] at hstep0
      simp only [go_sem,Nat.reduceEqDiff,Nat.reduceAdd,Nat.reduceMul,↓reduceIte,↓dreduceIte,reduceCtorEq,Nat.reduceLeDiff,Nat.reduceLT,Nat.reduceSub,Int.reduceToNat,Int.reduceLE,Int.reduceLT, one_imm, one_ref, List.length_map, List.length_range, r4, t6, apg0, aps0, e1, hti, eq_false ho, eq_true (show (0 : Int) ≤ (bk.ins.length : Int) - 1 - k by omega)]
      repeat ((with_reducible refine And.intro ?_ ?_); · first | omega | (simp; omega))
      have q7 := t6
      refine VCall.of_contract (bSets_c t) (SleL.pure rfl) fun y hy => ?_
      subst hy
      have htb7 := c6.tb
      by_cases hd : 0 ≤ setsL t
      · have hsT : SetsT t := by
          unfold setsL at hd
          by_cases h : SetsT t
          · exact h
          · rw [if_neg h] at hd; omega
        have hsd : setsL t = t.d := if_pos hsT
        have hdl := hrt.2 hsT
        obtain ⟨d, hdd⟩ : ∃ d : Nat, t.d = (d : Int) := ⟨t.d.toNat, by omega⟩
        have hdr : d < f.r := by omega
        have hmd := c6.ln d hdr
        simp only [go_sem,Nat.reduceEqDiff,Nat.reduceAdd,Nat.reduceMul,↓reduceIte,↓dreduceIte,reduceCtorEq,Nat.reduceLeDiff,Nat.reduceLT,Nat.reduceSub,Int.reduceToNat,Int.reduceLE,Int.reduceLT, one_imm, one_ref, List.length_map, List.length_range, hsd, hdd, htb7, cellT_tbl, eq_true (show (0 : Int) ≤ (d : Int) by omega)]
        repeat ((with_reducible refine And.intro ?_ ?_); · first | omega | (simp; omega))
        refine addAll_v (m.getD d []) x _ _ (g d).1 (g d).2 (H4.length + 1) (nx4 + 1) (rl f.r) (by rw [hmd]) (by omega) (by omega) (c6.rw d hdr) b6 (hBg d hdr) _ ?_
        have hol : (orL (m.getD d []) x).length = f.r := by rw [orL_len]; exact hmd
        have hc7 := c6.setR hdr (orL (m.getD d []) x) hol
        have hkg : (g d).1 ≠ H4.length := fun e => by have := c6.rw d hdr; rw [e, k6] at this; simp at this
        have hK7 := (List.getElem?_set_ne hkg (a := (⟨(g d).2, 97, 1, rowC64 (orL (m.getD d []) x)⟩ : VObj))).trans k6
        have hB7 := (List.getElem?_set_ne (hBg d hdr) (a := (⟨(g d).2, 97, 1, rowC64 (orL (m.getD d []) x)⟩ : VObj))).trans b6
        simp only [go_sem,Nat.reduceEqDiff,Nat.reduceAdd,Nat.reduceMul,↓reduceIte,↓dreduceIte,reduceCtorEq,Nat.reduceLeDiff,Nat.reduceLT,Nat.reduceSub,Int.reduceToNat,Int.reduceLE,Int.reduceLT, one_imm, one_ref, List.length_map, List.length_range, hsd, hdd]
        refine bdrop_v x d _ _ (H4.length + 1) (nx4 + 1) (rl f.r) (by rw [hxl]) (by omega) (by omega) hB7 _ fun r => ?_
        have hcl' : clearL t x = x.set d false := by unfold clearL; rw [if_pos hd, hsd, hdd, Int.toNat_natCast]
        rw [Int.toNat_natCast, ← hcl']
        have hu1 := hc7.other hBk hBt hBg hBW (⟨nx4 + 1, 97, 1, rowC64 (clearL t x)⟩ : VObj)
        have hu2 := (List.getElem?_set_ne (of_eq_false hn1) (a := (⟨nx4 + 1, 97, 1, rowC64 (clearL t x)⟩ : VObj))).trans hK7
        have hu3 := set_get (x := (⟨nx4 + 1, 97, 1, rowC64 (clearL t x)⟩ : VObj)) hB7
        rw [if_pos hsT, hdd, Int.toNat_natCast] at hstep0
        have hstep := hstep0
        have q8 := (List.getElem?_set_ne htB (a := (⟨nx4 + 1, 97, 1, rowC64 (clearL t x)⟩ : VObj))).trans ((List.getElem?_set_ne (htg d hdr) (a := (⟨(g d).2, 97, 1, rowC64 (orL (m.getD d []) x)⟩ : VObj))).trans q7)
        simp only [go_sem,Nat.reduceEqDiff,Nat.reduceAdd,Nat.reduceMul,↓reduceIte,↓dreduceIte,reduceCtorEq,Nat.reduceLeDiff,Nat.reduceLT,Nat.reduceSub,Int.reduceToNat,Int.reduceLE,Int.reduceLT, one_imm, one_ref, List.length_map, List.length_range, q8]
        have hul := usesL_len t
        refine VCall.of_contract (bUses_c t).old (SleL.pure rfl) fun y hy => ?_
        subst hy
        simp only [go_sem,Nat.reduceEqDiff,Nat.reduceAdd,Nat.reduceMul,↓reduceIte,↓dreduceIte,reduceCtorEq,Nat.reduceLeDiff,Nat.reduceLT,Nat.reduceSub,Int.reduceToNat,Int.reduceLE,Int.reduceLT, one_imm, one_ref, List.length_map, List.length_range]
        refine VW_loop (fun y : CQ => ⟨[(2, .ptr H.length nx 0), (3, .ptr (H.length + 1) (nx + 1) 0), (6, .ref Hb.length (nx + 1 + 1) 0 f.r), (8, .ref H1.length nx1 0 (rl f.r)), (58, bksA f.bks), (59, I f.n), (60, I b), (12, .ptr H4.length nx4 0), (13, .ref (H4.length + 1) (nx4 + 1) 0 (rl f.r)), (14, I ((bk.ins.length : Int) - 1 - k)), (111, ints (usesL t)), (112, I (usesL t).length), (113, I y.i)], y.H, y.nx⟩)
          (fun y => y.i ≤ (usesL t).length ∧ CS f L Hb y.H (nx + 1 + 1) g (m.set d (orL (m.getD d []) x)) H1.length nx1 iw ∧ y.H[H4.length]? = some ⟨nx4, 60, 1, bkL bk⟩ ∧ y.H[H4.length + 1]? = some ⟨nx4 + 1, 97, 1, rowC64 (useL (clearL t x) ((usesL t).take y.i))⟩) (fun y => (usesL t).length - y.i) ⟨0, _, g, [], [], _⟩
          (Wk.mk (by simp [get_cons]) ⟨[], (List.append_nil _).symm⟩ (Nat.le_refl _)) ⟨Nat.zero_le _, hu1, hu2, hu3⟩ ?_
        rintro ⟨j, H8, g8, m8, iw8, nx8⟩ ⟨a1, a2, a3, a4⟩
        simp only at a1 a2 a3 a4
        by_cases hj : j < (usesL t).length
        · obtain ⟨g1, g2⟩ := hrt.1 _ (mem_getD hj)
          have htk := useL_take (clearL t x) (usesL t) hj
          have hyl : (useL (clearL t x) ((usesL t).take j)).length = f.r := by rw [useL_len, clearL_len]; exact hxl
          simp only [go_sem,Nat.reduceEqDiff,Nat.reduceAdd,Nat.reduceMul,↓reduceIte,↓dreduceIte,reduceCtorEq,Nat.reduceLeDiff,Nat.reduceLT,Nat.reduceSub,Int.reduceToNat,Int.reduceLE,Int.reduceLT, one_imm, one_ref, List.length_map, List.length_range, eq_true (show (j : Int) < ((usesL t).length : Int) by omega)]
          repeat ((with_reducible refine And.intro ?_ ?_); · first | omega | (simp; omega))
          refine badd_v (useL (clearL t x) ((usesL t).take j)) ((usesL t).getD j default) H8 nx8 (H4.length + 1) (nx4 + 1) (rl f.r) (by rw [hyl]) (by omega) (by omega) a4 _ fun r => ?_
          rw [← htk]
          simp only [go_sem,Nat.reduceEqDiff,Nat.reduceAdd,Nat.reduceMul,↓reduceIte,↓dreduceIte,reduceCtorEq,Nat.reduceLeDiff,Nat.reduceLT,Nat.reduceSub,Int.reduceToNat,Int.reduceLE,Int.reduceLT, one_imm, one_ref, List.length_map, List.length_range]
          rw [i64_in (by omega) (by omega)]
          exact ⟨⟨j + 1, _, g, [], [], nx8⟩, ⟨by simp only; omega, a2.other hBk hBt hBg hBW _, by rw [List.getElem?_set_ne (of_eq_false hn1)]; exact a3, set_get a4⟩, by simp only; omega, Wk.mk (by simp [get_cons]) ⟨[], (List.append_nil _).symm⟩ (Nat.le_refl _)⟩
        · simp only [go_sem,Nat.reduceEqDiff,Nat.reduceAdd,Nat.reduceMul,↓reduceIte,↓dreduceIte,reduceCtorEq,Nat.reduceLeDiff,Nat.reduceLT,Nat.reduceSub,Int.reduceToNat,Int.reduceLE,Int.reduceLT, one_imm, one_ref, List.length_map, List.length_range, eq_false (show ¬ (j : Int) < ((usesL t).length : Int) by omega)]
          rw [List.take_of_length_le (by omega)] at a4
          have hst := atL_step bk out hk2
          rw [hti, hxd] at hst
          have hbk : useL (clearL t x) (usesL t) = atL bk out (k + 1) := hst
          rw [hbk] at a4
          rw [i64_in (by omega) (by omega)]
          exact ⟨⟨k + 1, H8, g, (m.set d (orL (m.getD d []) x)), iw, nx8⟩, ⟨by simp only; omega, a2, hstep, a3, a4⟩, by simp only; omega, Wk.mk (by simp [get_cons]; omega) ⟨[], (List.append_nil _).symm⟩ (Nat.le_refl _)⟩
      · have hsT : ¬ SetsT t := fun h => by
          apply hd
          have := hrt.2 h
          unfold setsL; rw [if_pos h]; omega
        have hcl' : clearL t x = x := by unfold clearL; rw [if_neg hd]
        rw [if_neg hsT] at hstep0
        have hstep := hstep0
        have hu1 := c6
        have hu2 := k6
        have hu3 := (b6).trans (show some (⟨nx4 + 1, 97, 1, rowC64 x⟩ : VObj) = some ⟨nx4 + 1, 97, 1, rowC64 (useL (clearL t x) ((usesL t).take 0))⟩ by rw [hcl']; rfl)
        simp only [go_sem,Nat.reduceEqDiff,Nat.reduceAdd,Nat.reduceMul,↓reduceIte,↓dreduceIte,reduceCtorEq,Nat.reduceLeDiff,Nat.reduceLT,Nat.reduceSub,Int.reduceToNat,Int.reduceLE,Int.reduceLT, one_imm, one_ref, List.length_map, List.length_range, eq_false hd, q7]
        have hul := usesL_len t
        refine VCall.of_contract (bUses_c t).old (SleL.pure rfl) fun y hy => ?_
        subst hy
        simp only [go_sem,Nat.reduceEqDiff,Nat.reduceAdd,Nat.reduceMul,↓reduceIte,↓dreduceIte,reduceCtorEq,Nat.reduceLeDiff,Nat.reduceLT,Nat.reduceSub,Int.reduceToNat,Int.reduceLE,Int.reduceLT, one_imm, one_ref, List.length_map, List.length_range]
        refine VW_loop (fun y : CQ => ⟨[(2, .ptr H.length nx 0), (3, .ptr (H.length + 1) (nx + 1) 0), (6, .ref Hb.length (nx + 1 + 1) 0 f.r), (8, .ref H1.length nx1 0 (rl f.r)), (58, bksA f.bks), (59, I f.n), (60, I b), (12, .ptr H4.length nx4 0), (13, .ref (H4.length + 1) (nx4 + 1) 0 (rl f.r)), (14, I ((bk.ins.length : Int) - 1 - k)), (111, ints (usesL t)), (112, I (usesL t).length), (113, I y.i)], y.H, y.nx⟩)
          (fun y => y.i ≤ (usesL t).length ∧ CS f L Hb y.H (nx + 1 + 1) g m H1.length nx1 iw ∧ y.H[H4.length]? = some ⟨nx4, 60, 1, bkL bk⟩ ∧ y.H[H4.length + 1]? = some ⟨nx4 + 1, 97, 1, rowC64 (useL (clearL t x) ((usesL t).take y.i))⟩) (fun y => (usesL t).length - y.i) ⟨0, _, g, [], [], _⟩
          (Wk.mk (by simp [get_cons]) ⟨[], (List.append_nil _).symm⟩ (Nat.le_refl _)) ⟨Nat.zero_le _, hu1, hu2, hu3⟩ ?_
        rintro ⟨j, H8, g8, m8, iw8, nx8⟩ ⟨a1, a2, a3, a4⟩
        simp only at a1 a2 a3 a4
        by_cases hj : j < (usesL t).length
        · obtain ⟨g1, g2⟩ := hrt.1 _ (mem_getD hj)
          have htk := useL_take (clearL t x) (usesL t) hj
          have hyl : (useL (clearL t x) ((usesL t).take j)).length = f.r := by rw [useL_len, clearL_len]; exact hxl
          simp only [go_sem,Nat.reduceEqDiff,Nat.reduceAdd,Nat.reduceMul,↓reduceIte,↓dreduceIte,reduceCtorEq,Nat.reduceLeDiff,Nat.reduceLT,Nat.reduceSub,Int.reduceToNat,Int.reduceLE,Int.reduceLT, one_imm, one_ref, List.length_map, List.length_range, eq_true (show (j : Int) < ((usesL t).length : Int) by omega)]
          repeat ((with_reducible refine And.intro ?_ ?_); · first | omega | (simp; omega))
          refine badd_v (useL (clearL t x) ((usesL t).take j)) ((usesL t).getD j default) H8 nx8 (H4.length + 1) (nx4 + 1) (rl f.r) (by rw [hyl]) (by omega) (by omega) a4 _ fun r => ?_
          rw [← htk]
          simp only [go_sem,Nat.reduceEqDiff,Nat.reduceAdd,Nat.reduceMul,↓reduceIte,↓dreduceIte,reduceCtorEq,Nat.reduceLeDiff,Nat.reduceLT,Nat.reduceSub,Int.reduceToNat,Int.reduceLE,Int.reduceLT, one_imm, one_ref, List.length_map, List.length_range]
          rw [i64_in (by omega) (by omega)]
          exact ⟨⟨j + 1, _, g, [], [], nx8⟩, ⟨by simp only; omega, a2.other hBk hBt hBg hBW _, by rw [List.getElem?_set_ne (of_eq_false hn1)]; exact a3, set_get a4⟩, by simp only; omega, Wk.mk (by simp [get_cons]) ⟨[], (List.append_nil _).symm⟩ (Nat.le_refl _)⟩
        · simp only [go_sem,Nat.reduceEqDiff,Nat.reduceAdd,Nat.reduceMul,↓reduceIte,↓dreduceIte,reduceCtorEq,Nat.reduceLeDiff,Nat.reduceLT,Nat.reduceSub,Int.reduceToNat,Int.reduceLE,Int.reduceLT, one_imm, one_ref, List.length_map, List.length_range, eq_false (show ¬ (j : Int) < ((usesL t).length : Int) by omega)]
          rw [List.take_of_length_le (by omega)] at a4
          have hst := atL_step bk out hk2
          rw [hti, hxd] at hst
          have hbk : useL (clearL t x) (usesL t) = atL bk out (k + 1) := hst
          rw [hbk] at a4
          rw [i64_in (by omega) (by omega)]
          exact ⟨⟨k + 1, H8, g, m, iw, nx8⟩, ⟨by simp only; omega, a2, hstep, a3, a4⟩, by simp only; omega, Wk.mk (by simp [get_cons]; omega) ⟨[], (List.append_nil _).symm⟩ (Nat.le_refl _)⟩
  · simp only [go_sem,Nat.reduceEqDiff,Nat.reduceAdd,Nat.reduceMul,↓reduceIte,↓dreduceIte,reduceCtorEq,Nat.reduceLeDiff,Nat.reduceLT,Nat.reduceSub,Int.reduceToNat,Int.reduceLE,Int.reduceLT, one_imm, one_ref, List.length_map, List.length_range, hK5, hlen4, eq_false he, hw0]
    have h1 := hc5
    have h2 := hK5
    have h3 : H5[H4.length + 1]? = some (⟨nx4 + 1, 97, 1, rowC64 (lastL bk out)⟩ : VObj) := by rw [last_neg he]; exact hB5
    refine VW_loop (fun y : CQ => ⟨[(2, .ptr H.length nx 0), (3, .ptr (H.length + 1) (nx + 1) 0), (6, .ref Hb.length (nx + 1 + 1) 0 f.r), (8, .ref H1.length nx1 0 (rl f.r)), (58, bksA f.bks), (59, I f.n), (60, I b), (12, .ptr H4.length nx4 0), (13, .ref (H4.length + 1) (nx4 + 1) 0 (rl f.r)), (14, I ((bk.ins.length : Int) - 1 - y.i))], y.H, y.nx⟩)
      (fun y => y.i ≤ bk.ins.length ∧ CS f L Hb y.H (nx + 1 + 1) g y.m H1.length nx1 y.iw ∧ CV f L y.m y.iw (fun c i => c < b ∨ (c = b ∧ bk.ins.length ≤ i + y.i)) ∧ y.H[H4.length]? = some ⟨nx4, 60, 1, bkL bk⟩ ∧ y.H[H4.length + 1]? = some ⟨nx4 + 1, 97, 1, rowC64 (atL bk out y.i)⟩) (fun y => bk.ins.length - y.i) ⟨0, _, g, m, iw, _⟩
      (Wk.mk (by simp [get_cons, hw0, hlo]) ⟨[], (List.append_nil _).symm⟩ (Nat.le_refl _)) ⟨Nat.zero_le _, h1, ⟨u3.ap, fun c hc i hi hp => u3.st c hc i hi (hp.resolve_right fun e => by obtain ⟨rfl, e2⟩ := e; rw [hbkd] at hi; simp only at e2; omega), fun c hc i hi hp => u3.ca c hc i hi (hp.resolve_right fun e => by obtain ⟨rfl, e2⟩ := e; rw [hbkd] at hi; simp only at e2; omega)⟩, h2, by rw [atL_zero]; exact h3⟩ ?_
    rintro ⟨k, H6, g6, m, iw, nx6⟩ ⟨r1, r2, r3, r4, r5⟩
    simp only at r1 r2 r3 r4 r5
    by_cases hk2 : k < bk.ins.length
    case neg =>
      obtain rfl : k = bk.ins.length := by omega
      simp only [go_sem,Nat.reduceEqDiff,Nat.reduceAdd,Nat.reduceMul,↓reduceIte,↓dreduceIte,reduceCtorEq,Nat.reduceLeDiff,Nat.reduceLT,Nat.reduceSub,Int.reduceToNat,Int.reduceLE,Int.reduceLT, one_imm, one_ref, List.length_map, List.length_range, eq_false (show ¬ (0 : Int) ≤ (bk.ins.length : Int) - 1 - bk.ins.length by omega)]
      rw [i64_in (by omega) (by omega)]
      exact ⟨⟨b + 1, H6, g, m, iw, nx6⟩, ⟨by simp only; omega, r2, ⟨r3.ap, fun c hc i hi hp => r3.st c hc i hi (by simp only at hp; by_cases e : c = b; exact .inr ⟨e, by omega⟩; exact .inl (by omega)), fun c hc i hi hp => r3.ca c hc i hi (by simp only at hp; by_cases e : c = b; exact .inr ⟨e, by omega⟩; exact .inl (by omega))⟩⟩, by simp only; omega, Wk.mk (by simp [get_cons]) ⟨[], (List.append_nil _).symm⟩ (Nat.le_refl _)⟩
    have e1 : ((bk.ins.length : Int) - 1 - k).toNat = bk.ins.length - k - 1 := by omega
    have hmt := mem_getD (show bk.ins.length - k - 1 < bk.ins.length by omega)
    have hrt := hrg.1 _ hmt
    have hbg := behindL_get bk out (show bk.ins.length - k - 1 < bk.ins.length by omega)
    rw [show bk.ins.length - k - 1 + 1 = bk.ins.length - k by omega] at hbg
    have hxl := atL_len bk out k
    rw [hlo] at hxl
    obtain ⟨x, hxd⟩ : ∃ x, atL bk out k = x := ⟨_, rfl⟩
    replace hbg : (behindL bk out).getD (bk.ins.length - k - 1) default = x := hbg.trans hxd
    rw [hxd] at r5 hxl
    obtain ⟨t, hti⟩ : ∃ t, bk.ins.getD (bk.ins.length - k - 1) default = t := ⟨_, rfl⟩
    rw [hti, hlo] at hrt
    have hstep0 := CV.step hf hs r3 r2.ml r2.ln r2.il hb (i0 := bk.ins.length - k - 1) (by rw [hbkd]; omega) x (by rw [hbkd, hout]; exact hbg.symm) (P' := fun c i => c < b ∨ (c = b ∧ bk.ins.length ≤ i + (k + 1))) (fun c i hp => by
      rcases hp with hp | ⟨hp1, hp2⟩
      · exact .inl (.inl hp)
      · by_cases e : i = bk.ins.length - k - 1
        · exact .inr ⟨hp1, e⟩
        · exact .inl (.inr ⟨hp1, by omega⟩)) t (by rw [hbkd]; exact hti)
    have c6 := r2.app [(⟨nx6, 57, 1, tacL t⟩ : VObj)]
    have k6 := app_old r4 [(⟨nx6, 57, 1, tacL t⟩ : VObj)]
    have b6 := app_old r5 [(⟨nx6, 57, 1, tacL t⟩ : VObj)]
    have t6 : (H6 ++ [(⟨nx6, 57, 1, tacL t⟩ : VObj)])[H6.length]? = some ⟨nx6, 57, 1, tacL t⟩ := by simp
    have htg : ∀ c < f.r, (g c).1 ≠ H6.length := fun c hc => by have := (List.getElem?_eq_some_iff.1 (r2.rw c hc)).1; omega
    have htW : H1.length ≠ H6.length := by have := (List.getElem?_eq_some_iff.1 r2.w).1; omega
    have htB : H4.length + 1 ≠ H6.length := by have := (List.getElem?_eq_some_iff.1 r5).1; omega
    by_cases ho : t.op = 10
    · rw [if_pos ho] at hstep0
      simp only [go_sem,Nat.reduceEqDiff,Nat.reduceAdd,Nat.reduceMul,↓reduceIte,↓dreduceIte,reduceCtorEq,Nat.reduceLeDiff,Nat.reduceLT,Nat.reduceSub,Int.reduceToNat,Int.reduceLE,Int.reduceLT, one_imm, one_ref, List.length_map, List.length_range, r4, t6, apg0, aps0, e1, hti, eq_true ho, eq_true (show (0 : Int) ≤ (bk.ins.length : Int) - 1 - k by omega)]
      repeat ((with_reducible refine And.intro ?_ ?_); · first | omega | (simp; omega))
      have hil := r2.il
      refine addAll_v iw x _ _ H1.length nx1 (H4.length + 1) (nx4 + 1) (rl f.r) (by rw [hil]) (by omega) (by omega) c6.w b6 hBW _ ?_
      have hol6 : (orL iw x).length = f.r := by rw [orL_len]; exact hil
      have c7 := c6.setW (orL iw x) hol6
      have hkW : H1.length ≠ H4.length := fun e => by have := c6.w; rw [e, k6] at this; simp at this
      have k7 := (List.getElem?_set_ne hkW (a := (⟨nx1, 97, 1, rowC64 (orL iw x)⟩ : VObj))).trans k6
      have b7 := (List.getElem?_set_ne hBW (a := (⟨nx1, 97, 1, rowC64 (orL iw x)⟩ : VObj))).trans b6
      have q7 := (List.getElem?_set_ne htW (a := (⟨nx1, 97, 1, rowC64 (orL iw x)⟩ : VObj))).trans t6
      simp only [go_sem,Nat.reduceEqDiff,Nat.reduceAdd,Nat.reduceMul,↓reduceIte,↓dreduceIte,reduceCtorEq,Nat.reduceLeDiff,Nat.reduceLT,Nat.reduceSub,Int.reduceToNat,Int.reduceLE,Int.reduceLT, one_imm, one_ref, List.length_map, List.length_range, q7]
      refine VCall.of_contract (bSets_c t) (SleL.pure rfl) fun y hy => ?_
      subst hy
      have htb7 := c7.tb
      by_cases hd : 0 ≤ setsL t
      · have hsT : SetsT t := by
          unfold setsL at hd
          by_cases h : SetsT t
          · exact h
          · rw [if_neg h] at hd; omega
        have hsd : setsL t = t.d := if_pos hsT
        have hdl := hrt.2 hsT
        obtain ⟨d, hdd⟩ : ∃ d : Nat, t.d = (d : Int) := ⟨t.d.toNat, by omega⟩
        have hdr : d < f.r := by omega
        have hmd := c7.ln d hdr
        simp only [go_sem,Nat.reduceEqDiff,Nat.reduceAdd,Nat.reduceMul,↓reduceIte,↓dreduceIte,reduceCtorEq,Nat.reduceLeDiff,Nat.reduceLT,Nat.reduceSub,Int.reduceToNat,Int.reduceLE,Int.reduceLT, one_imm, one_ref, List.length_map, List.length_range, hsd, hdd, htb7, cellT_tbl, eq_true (show (0 : Int) ≤ (d : Int) by omega)]
        repeat ((with_reducible refine And.intro ?_ ?_); · first | omega | (simp; omega))
        refine addAll_v (m.getD d []) x _ _ (g d).1 (g d).2 (H4.length + 1) (nx4 + 1) (rl f.r) (by rw [hmd]) (by omega) (by omega) (c7.rw d hdr) b7 (hBg d hdr) _ ?_
        have hol : (orL (m.getD d []) x).length = f.r := by rw [orL_len]; exact hmd
        have hc7 := c7.setR hdr (orL (m.getD d []) x) hol
        have hkg : (g d).1 ≠ H4.length := fun e => by have := c7.rw d hdr; rw [e, k7] at this; simp at this
        have hK7 := (List.getElem?_set_ne hkg (a := (⟨(g d).2, 97, 1, rowC64 (orL (m.getD d []) x)⟩ : VObj))).trans k7
        have hB7 := (List.getElem?_set_ne (hBg d hdr) (a := (⟨(g d).2, 97, 1, rowC64 (orL (m.getD d []) x)⟩ : VObj))).trans b7
        simp only [go_sem,Nat.reduceEqDiff,Nat.reduceAdd,Nat.reduceMul,↓reduceIte,↓dreduceIte,reduceCtorEq,Nat.reduceLeDiff,Nat.reduceLT,Nat.reduceSub,Int.reduceToNat,Int.reduceLE,Int.reduceLT, one_imm, one_ref, List.length_map, List.length_range, hsd, hdd]
        refine bdrop_v x d _ _ (H4.length + 1) (nx4 + 1) (rl f.r) (by rw [hxl]) (by omega) (by omega) hB7 _ fun r => ?_
        have hcl' : clearL t x = x.set d false := by unfold clearL; rw [if_pos hd, hsd, hdd, Int.toNat_natCast]
        rw [Int.toNat_natCast, ← hcl']
        have hu1 := hc7.other hBk hBt hBg hBW (⟨nx4 + 1, 97, 1, rowC64 (clearL t x)⟩ : VObj)
        have hu2 := (List.getElem?_set_ne (of_eq_false hn1) (a := (⟨nx4 + 1, 97, 1, rowC64 (clearL t x)⟩ : VObj))).trans hK7
        have hu3 := set_get (x := (⟨nx4 + 1, 97, 1, rowC64 (clearL t x)⟩ : VObj)) hB7
        rw [if_pos hsT, hdd, Int.toNat_natCast] at hstep0
        have hstep := hstep0
        have q8 := (List.getElem?_set_ne htB (a := (⟨nx4 + 1, 97, 1, rowC64 (clearL t x)⟩ : VObj))).trans ((List.getElem?_set_ne (htg d hdr) (a := (⟨(g d).2, 97, 1, rowC64 (orL (m.getD d []) x)⟩ : VObj))).trans q7)
        simp only [go_sem,Nat.reduceEqDiff,Nat.reduceAdd,Nat.reduceMul,↓reduceIte,↓dreduceIte,reduceCtorEq,Nat.reduceLeDiff,Nat.reduceLT,Nat.reduceSub,Int.reduceToNat,Int.reduceLE,Int.reduceLT, one_imm, one_ref, List.length_map, List.length_range, q8]
        have hul := usesL_len t
        refine VCall.of_contract (bUses_c t).old (SleL.pure rfl) fun y hy => ?_
        subst hy
        simp only [go_sem,Nat.reduceEqDiff,Nat.reduceAdd,Nat.reduceMul,↓reduceIte,↓dreduceIte,reduceCtorEq,Nat.reduceLeDiff,Nat.reduceLT,Nat.reduceSub,Int.reduceToNat,Int.reduceLE,Int.reduceLT, one_imm, one_ref, List.length_map, List.length_range]
        refine VW_loop (fun y : CQ => ⟨[(2, .ptr H.length nx 0), (3, .ptr (H.length + 1) (nx + 1) 0), (6, .ref Hb.length (nx + 1 + 1) 0 f.r), (8, .ref H1.length nx1 0 (rl f.r)), (58, bksA f.bks), (59, I f.n), (60, I b), (12, .ptr H4.length nx4 0), (13, .ref (H4.length + 1) (nx4 + 1) 0 (rl f.r)), (14, I ((bk.ins.length : Int) - 1 - k)), (111, ints (usesL t)), (112, I (usesL t).length), (113, I y.i)], y.H, y.nx⟩)
          (fun y => y.i ≤ (usesL t).length ∧ CS f L Hb y.H (nx + 1 + 1) g (m.set d (orL (m.getD d []) x)) H1.length nx1 (orL iw x) ∧ y.H[H4.length]? = some ⟨nx4, 60, 1, bkL bk⟩ ∧ y.H[H4.length + 1]? = some ⟨nx4 + 1, 97, 1, rowC64 (useL (clearL t x) ((usesL t).take y.i))⟩) (fun y => (usesL t).length - y.i) ⟨0, _, g, [], [], _⟩
          (Wk.mk (by simp [get_cons]) ⟨[], (List.append_nil _).symm⟩ (Nat.le_refl _)) ⟨Nat.zero_le _, hu1, hu2, hu3⟩ ?_
        rintro ⟨j, H8, g8, m8, iw8, nx8⟩ ⟨a1, a2, a3, a4⟩
        simp only at a1 a2 a3 a4
        by_cases hj : j < (usesL t).length
        · obtain ⟨g1, g2⟩ := hrt.1 _ (mem_getD hj)
          have htk := useL_take (clearL t x) (usesL t) hj
          have hyl : (useL (clearL t x) ((usesL t).take j)).length = f.r := by rw [useL_len, clearL_len]; exact hxl
          simp only [go_sem,Nat.reduceEqDiff,Nat.reduceAdd,Nat.reduceMul,↓reduceIte,↓dreduceIte,reduceCtorEq,Nat.reduceLeDiff,Nat.reduceLT,Nat.reduceSub,Int.reduceToNat,Int.reduceLE,Int.reduceLT, one_imm, one_ref, List.length_map, List.length_range, eq_true (show (j : Int) < ((usesL t).length : Int) by omega)]
          repeat ((with_reducible refine And.intro ?_ ?_); · first | omega | (simp; omega))
          refine badd_v (useL (clearL t x) ((usesL t).take j)) ((usesL t).getD j default) H8 nx8 (H4.length + 1) (nx4 + 1) (rl f.r) (by rw [hyl]) (by omega) (by omega) a4 _ fun r => ?_
          rw [← htk]
          simp only [go_sem,Nat.reduceEqDiff,Nat.reduceAdd,Nat.reduceMul,↓reduceIte,↓dreduceIte,reduceCtorEq,Nat.reduceLeDiff,Nat.reduceLT,Nat.reduceSub,Int.reduceToNat,Int.reduceLE,Int.reduceLT, one_imm, one_ref, List.length_map, List.length_range]
          rw [i64_in (by omega) (by omega)]
          exact ⟨⟨j + 1, _, g, [], [], nx8⟩, ⟨by simp only; omega, a2.other hBk hBt hBg hBW _, by rw [List.getElem?_set_ne (of_eq_false hn1)]; exact a3, set_get a4⟩, by simp only; omega, Wk.mk (by simp [get_cons]) ⟨[], (List.append_nil _).symm⟩ (Nat.le_refl _)⟩
        · simp only [go_sem,Nat.reduceEqDiff,Nat.reduceAdd,Nat.reduceMul,↓reduceIte,↓dreduceIte,reduceCtorEq,Nat.reduceLeDiff,Nat.reduceLT,Nat.reduceSub,Int.reduceToNat,Int.reduceLE,Int.reduceLT, one_imm, one_ref, List.length_map, List.length_range, eq_false (show ¬ (j : Int) < ((usesL t).length : Int) by omega)]
          rw [List.take_of_length_le (by omega)] at a4
          have hst := atL_step bk out hk2
          rw [hti, hxd] at hst
          have hbk : useL (clearL t x) (usesL t) = atL bk out (k + 1) := hst
          rw [hbk] at a4
          rw [i64_in (by omega) (by omega)]
          exact ⟨⟨k + 1, H8, g, (m.set d (orL (m.getD d []) x)), (orL iw x), nx8⟩, ⟨by simp only; omega, a2, hstep, a3, a4⟩, by simp only; omega, Wk.mk (by simp [get_cons]; omega) ⟨[], (List.append_nil _).symm⟩ (Nat.le_refl _)⟩
      · have hsT : ¬ SetsT t := fun h => by
          apply hd
          have := hrt.2 h
          unfold setsL; rw [if_pos h]; omega
        have hcl' : clearL t x = x := by unfold clearL; rw [if_neg hd]
        rw [if_neg hsT] at hstep0
        have hstep := hstep0
        have hu1 := c7
        have hu2 := k7
        have hu3 := (b7).trans (show some (⟨nx4 + 1, 97, 1, rowC64 x⟩ : VObj) = some ⟨nx4 + 1, 97, 1, rowC64 (useL (clearL t x) ((usesL t).take 0))⟩ by rw [hcl']; rfl)
        simp only [go_sem,Nat.reduceEqDiff,Nat.reduceAdd,Nat.reduceMul,↓reduceIte,↓dreduceIte,reduceCtorEq,Nat.reduceLeDiff,Nat.reduceLT,Nat.reduceSub,Int.reduceToNat,Int.reduceLE,Int.reduceLT, one_imm, one_ref, List.length_map, List.length_range, eq_false hd, q7]
        have hul := usesL_len t
        refine VCall.of_contract (bUses_c t).old (SleL.pure rfl) fun y hy => ?_
        subst hy
        simp only [go_sem,Nat.reduceEqDiff,Nat.reduceAdd,Nat.reduceMul,↓reduceIte,↓dreduceIte,reduceCtorEq,Nat.reduceLeDiff,Nat.reduceLT,Nat.reduceSub,Int.reduceToNat,Int.reduceLE,Int.reduceLT, one_imm, one_ref, List.length_map, List.length_range]
        refine VW_loop (fun y : CQ => ⟨[(2, .ptr H.length nx 0), (3, .ptr (H.length + 1) (nx + 1) 0), (6, .ref Hb.length (nx + 1 + 1) 0 f.r), (8, .ref H1.length nx1 0 (rl f.r)), (58, bksA f.bks), (59, I f.n), (60, I b), (12, .ptr H4.length nx4 0), (13, .ref (H4.length + 1) (nx4 + 1) 0 (rl f.r)), (14, I ((bk.ins.length : Int) - 1 - k)), (111, ints (usesL t)), (112, I (usesL t).length), (113, I y.i)], y.H, y.nx⟩)
          (fun y => y.i ≤ (usesL t).length ∧ CS f L Hb y.H (nx + 1 + 1) g m H1.length nx1 (orL iw x) ∧ y.H[H4.length]? = some ⟨nx4, 60, 1, bkL bk⟩ ∧ y.H[H4.length + 1]? = some ⟨nx4 + 1, 97, 1, rowC64 (useL (clearL t x) ((usesL t).take y.i))⟩) (fun y => (usesL t).length - y.i) ⟨0, _, g, [], [], _⟩
          (Wk.mk (by simp [get_cons]) ⟨[], (List.append_nil _).symm⟩ (Nat.le_refl _)) ⟨Nat.zero_le _, hu1, hu2, hu3⟩ ?_
        rintro ⟨j, H8, g8, m8, iw8, nx8⟩ ⟨a1, a2, a3, a4⟩
        simp only at a1 a2 a3 a4
        by_cases hj : j < (usesL t).length
        · obtain ⟨g1, g2⟩ := hrt.1 _ (mem_getD hj)
          have htk := useL_take (clearL t x) (usesL t) hj
          have hyl : (useL (clearL t x) ((usesL t).take j)).length = f.r := by rw [useL_len, clearL_len]; exact hxl
          simp only [go_sem,Nat.reduceEqDiff,Nat.reduceAdd,Nat.reduceMul,↓reduceIte,↓dreduceIte,reduceCtorEq,Nat.reduceLeDiff,Nat.reduceLT,Nat.reduceSub,Int.reduceToNat,Int.reduceLE,Int.reduceLT, one_imm, one_ref, List.length_map, List.length_range, eq_true (show (j : Int) < ((usesL t).length : Int) by omega)]
          repeat ((with_reducible refine And.intro ?_ ?_); · first | omega | (simp; omega))
          refine badd_v (useL (clearL t x) ((usesL t).take j)) ((usesL t).getD j default) H8 nx8 (H4.length + 1) (nx4 + 1) (rl f.r) (by rw [hyl]) (by omega) (by omega) a4 _ fun r => ?_
          rw [← htk]
          simp only [go_sem,Nat.reduceEqDiff,Nat.reduceAdd,Nat.reduceMul,↓reduceIte,↓dreduceIte,reduceCtorEq,Nat.reduceLeDiff,Nat.reduceLT,Nat.reduceSub,Int.reduceToNat,Int.reduceLE,Int.reduceLT, one_imm, one_ref, List.length_map, List.length_range]
          rw [i64_in (by omega) (by omega)]
          exact ⟨⟨j + 1, _, g, [], [], nx8⟩, ⟨by simp only; omega, a2.other hBk hBt hBg hBW _, by rw [List.getElem?_set_ne (of_eq_false hn1)]; exact a3, set_get a4⟩, by simp only; omega, Wk.mk (by simp [get_cons]) ⟨[], (List.append_nil _).symm⟩ (Nat.le_refl _)⟩
        · simp only [go_sem,Nat.reduceEqDiff,Nat.reduceAdd,Nat.reduceMul,↓reduceIte,↓dreduceIte,reduceCtorEq,Nat.reduceLeDiff,Nat.reduceLT,Nat.reduceSub,Int.reduceToNat,Int.reduceLE,Int.reduceLT, one_imm, one_ref, List.length_map, List.length_range, eq_false (show ¬ (j : Int) < ((usesL t).length : Int) by omega)]
          rw [List.take_of_length_le (by omega)] at a4
          have hst := atL_step bk out hk2
          rw [hti, hxd] at hst
          have hbk : useL (clearL t x) (usesL t) = atL bk out (k + 1) := hst
          rw [hbk] at a4
          rw [i64_in (by omega) (by omega)]
          exact ⟨⟨k + 1, H8, g, m, (orL iw x), nx8⟩, ⟨by simp only; omega, a2, hstep, a3, a4⟩, by simp only; omega, Wk.mk (by simp [get_cons]; omega) ⟨[], (List.append_nil _).symm⟩ (Nat.le_refl _)⟩
    · rw [if_neg ho] at hstep0
      simp only [go_sem,Nat.reduceEqDiff,Nat.reduceAdd,Nat.reduceMul,↓reduceIte,↓dreduceIte,reduceCtorEq,Nat.reduceLeDiff,Nat.reduceLT,Nat.reduceSub,Int.reduceToNat,Int.reduceLE,Int.reduceLT, one_imm, one_ref, List.length_map, List.length_range, r4, t6, apg0, aps0, e1, hti, eq_false ho, eq_true (show (0 : Int) ≤ (bk.ins.length : Int) - 1 - k by omega)]
      repeat ((with_reducible refine And.intro ?_ ?_); · first | omega | (simp; omega))
      have q7 := t6
      refine VCall.of_contract (bSets_c t) (SleL.pure rfl) fun y hy => ?_
      subst hy
      have htb7 := c6.tb
      by_cases hd : 0 ≤ setsL t
      · have hsT : SetsT t := by
          unfold setsL at hd
          by_cases h : SetsT t
          · exact h
          · rw [if_neg h] at hd; omega
        have hsd : setsL t = t.d := if_pos hsT
        have hdl := hrt.2 hsT
        obtain ⟨d, hdd⟩ : ∃ d : Nat, t.d = (d : Int) := ⟨t.d.toNat, by omega⟩
        have hdr : d < f.r := by omega
        have hmd := c6.ln d hdr
        simp only [go_sem,Nat.reduceEqDiff,Nat.reduceAdd,Nat.reduceMul,↓reduceIte,↓dreduceIte,reduceCtorEq,Nat.reduceLeDiff,Nat.reduceLT,Nat.reduceSub,Int.reduceToNat,Int.reduceLE,Int.reduceLT, one_imm, one_ref, List.length_map, List.length_range, hsd, hdd, htb7, cellT_tbl, eq_true (show (0 : Int) ≤ (d : Int) by omega)]
        repeat ((with_reducible refine And.intro ?_ ?_); · first | omega | (simp; omega))
        refine addAll_v (m.getD d []) x _ _ (g d).1 (g d).2 (H4.length + 1) (nx4 + 1) (rl f.r) (by rw [hmd]) (by omega) (by omega) (c6.rw d hdr) b6 (hBg d hdr) _ ?_
        have hol : (orL (m.getD d []) x).length = f.r := by rw [orL_len]; exact hmd
        have hc7 := c6.setR hdr (orL (m.getD d []) x) hol
        have hkg : (g d).1 ≠ H4.length := fun e => by have := c6.rw d hdr; rw [e, k6] at this; simp at this
        have hK7 := (List.getElem?_set_ne hkg (a := (⟨(g d).2, 97, 1, rowC64 (orL (m.getD d []) x)⟩ : VObj))).trans k6
        have hB7 := (List.getElem?_set_ne (hBg d hdr) (a := (⟨(g d).2, 97, 1, rowC64 (orL (m.getD d []) x)⟩ : VObj))).trans b6
        simp only [go_sem,Nat.reduceEqDiff,Nat.reduceAdd,Nat.reduceMul,↓reduceIte,↓dreduceIte,reduceCtorEq,Nat.reduceLeDiff,Nat.reduceLT,Nat.reduceSub,Int.reduceToNat,Int.reduceLE,Int.reduceLT, one_imm, one_ref, List.length_map, List.length_range, hsd, hdd]
        refine bdrop_v x d _ _ (H4.length + 1) (nx4 + 1) (rl f.r) (by rw [hxl]) (by omega) (by omega) hB7 _ fun r => ?_
        have hcl' : clearL t x = x.set d false := by unfold clearL; rw [if_pos hd, hsd, hdd, Int.toNat_natCast]
        rw [Int.toNat_natCast, ← hcl']
        have hu1 := hc7.other hBk hBt hBg hBW (⟨nx4 + 1, 97, 1, rowC64 (clearL t x)⟩ : VObj)
        have hu2 := (List.getElem?_set_ne (of_eq_false hn1) (a := (⟨nx4 + 1, 97, 1, rowC64 (clearL t x)⟩ : VObj))).trans hK7
        have hu3 := set_get (x := (⟨nx4 + 1, 97, 1, rowC64 (clearL t x)⟩ : VObj)) hB7
        rw [if_pos hsT, hdd, Int.toNat_natCast] at hstep0
        have hstep := hstep0
        have q8 := (List.getElem?_set_ne htB (a := (⟨nx4 + 1, 97, 1, rowC64 (clearL t x)⟩ : VObj))).trans ((List.getElem?_set_ne (htg d hdr) (a := (⟨(g d).2, 97, 1, rowC64 (orL (m.getD d []) x)⟩ : VObj))).trans q7)
        simp only [go_sem,Nat.reduceEqDiff,Nat.reduceAdd,Nat.reduceMul,↓reduceIte,↓dreduceIte,reduceCtorEq,Nat.reduceLeDiff,Nat.reduceLT,Nat.reduceSub,Int.reduceToNat,Int.reduceLE,Int.reduceLT, one_imm, one_ref, List.length_map, List.length_range, q8]
        have hul := usesL_len t
        refine VCall.of_contract (bUses_c t).old (SleL.pure rfl) fun y hy => ?_
        subst hy
        simp only [go_sem,Nat.reduceEqDiff,Nat.reduceAdd,Nat.reduceMul,↓reduceIte,↓dreduceIte,reduceCtorEq,Nat.reduceLeDiff,Nat.reduceLT,Nat.reduceSub,Int.reduceToNat,Int.reduceLE,Int.reduceLT, one_imm, one_ref, List.length_map, List.length_range]
        refine VW_loop (fun y : CQ => ⟨[(2, .ptr H.length nx 0), (3, .ptr (H.length + 1) (nx + 1) 0), (6, .ref Hb.length (nx + 1 + 1) 0 f.r), (8, .ref H1.length nx1 0 (rl f.r)), (58, bksA f.bks), (59, I f.n), (60, I b), (12, .ptr H4.length nx4 0), (13, .ref (H4.length + 1) (nx4 + 1) 0 (rl f.r)), (14, I ((bk.ins.length : Int) - 1 - k)), (111, ints (usesL t)), (112, I (usesL t).length), (113, I y.i)], y.H, y.nx⟩)
          (fun y => y.i ≤ (usesL t).length ∧ CS f L Hb y.H (nx + 1 + 1) g (m.set d (orL (m.getD d []) x)) H1.length nx1 iw ∧ y.H[H4.length]? = some ⟨nx4, 60, 1, bkL bk⟩ ∧ y.H[H4.length + 1]? = some ⟨nx4 + 1, 97, 1, rowC64 (useL (clearL t x) ((usesL t).take y.i))⟩) (fun y => (usesL t).length - y.i) ⟨0, _, g, [], [], _⟩
          (Wk.mk (by simp [get_cons]) ⟨[], (List.append_nil _).symm⟩ (Nat.le_refl _)) ⟨Nat.zero_le _, hu1, hu2, hu3⟩ ?_
        rintro ⟨j, H8, g8, m8, iw8, nx8⟩ ⟨a1, a2, a3, a4⟩
        simp only at a1 a2 a3 a4
        by_cases hj : j < (usesL t).length
        · obtain ⟨g1, g2⟩ := hrt.1 _ (mem_getD hj)
          have htk := useL_take (clearL t x) (usesL t) hj
          have hyl : (useL (clearL t x) ((usesL t).take j)).length = f.r := by rw [useL_len, clearL_len]; exact hxl
          simp only [go_sem,Nat.reduceEqDiff,Nat.reduceAdd,Nat.reduceMul,↓reduceIte,↓dreduceIte,reduceCtorEq,Nat.reduceLeDiff,Nat.reduceLT,Nat.reduceSub,Int.reduceToNat,Int.reduceLE,Int.reduceLT, one_imm, one_ref, List.length_map, List.length_range, eq_true (show (j : Int) < ((usesL t).length : Int) by omega)]
          repeat ((with_reducible refine And.intro ?_ ?_); · first | omega | (simp; omega))
          refine badd_v (useL (clearL t x) ((usesL t).take j)) ((usesL t).getD j default) H8 nx8 (H4.length + 1) (nx4 + 1) (rl f.r) (by rw [hyl]) (by omega) (by omega) a4 _ fun r => ?_
          rw [← htk]
          simp only [go_sem,Nat.reduceEqDiff,Nat.reduceAdd,Nat.reduceMul,↓reduceIte,↓dreduceIte,reduceCtorEq,Nat.reduceLeDiff,Nat.reduceLT,Nat.reduceSub,Int.reduceToNat,Int.reduceLE,Int.reduceLT, one_imm, one_ref, List.length_map, List.length_range]
          rw [i64_in (by omega) (by omega)]
          exact ⟨⟨j + 1, _, g, [], [], nx8⟩, ⟨by simp only; omega, a2.other hBk hBt hBg hBW _, by rw [List.getElem?_set_ne (of_eq_false hn1)]; exact a3, set_get a4⟩, by simp only; omega, Wk.mk (by simp [get_cons]) ⟨[], (List.append_nil _).symm⟩ (Nat.le_refl _)⟩
        · simp only [go_sem,Nat.reduceEqDiff,Nat.reduceAdd,Nat.reduceMul,↓reduceIte,↓dreduceIte,reduceCtorEq,Nat.reduceLeDiff,Nat.reduceLT,Nat.reduceSub,Int.reduceToNat,Int.reduceLE,Int.reduceLT, one_imm, one_ref, List.length_map, List.length_range, eq_false (show ¬ (j : Int) < ((usesL t).length : Int) by omega)]
          rw [List.take_of_length_le (by omega)] at a4
          have hst := atL_step bk out hk2
          rw [hti, hxd] at hst
          have hbk : useL (clearL t x) (usesL t) = atL bk out (k + 1) := hst
          rw [hbk] at a4
          rw [i64_in (by omega) (by omega)]
          exact ⟨⟨k + 1, H8, g, (m.set d (orL (m.getD d []) x)), iw, nx8⟩, ⟨by simp only; omega, a2, hstep, a3, a4⟩, by simp only; omega, Wk.mk (by simp [get_cons]; omega) ⟨[], (List.append_nil _).symm⟩ (Nat.le_refl _)⟩
      · have hsT : ¬ SetsT t := fun h => by
          apply hd
          have := hrt.2 h
          unfold setsL; rw [if_pos h]; omega
        have hcl' : clearL t x = x := by unfold clearL; rw [if_neg hd]
        rw [if_neg hsT] at hstep0
        have hstep := hstep0
        have hu1 := c6
        have hu2 := k6
        have hu3 := (b6).trans (show some (⟨nx4 + 1, 97, 1, rowC64 x⟩ : VObj) = some ⟨nx4 + 1, 97, 1, rowC64 (useL (clearL t x) ((usesL t).take 0))⟩ by rw [hcl']; rfl)
        simp only [go_sem,Nat.reduceEqDiff,Nat.reduceAdd,Nat.reduceMul,↓reduceIte,↓dreduceIte,reduceCtorEq,Nat.reduceLeDiff,Nat.reduceLT,Nat.reduceSub,Int.reduceToNat,Int.reduceLE,Int.reduceLT, one_imm, one_ref, List.length_map, List.length_range, eq_false hd, q7]
        have hul := usesL_len t
        refine VCall.of_contract (bUses_c t).old (SleL.pure rfl) fun y hy => ?_
        subst hy
        simp only [go_sem,Nat.reduceEqDiff,Nat.reduceAdd,Nat.reduceMul,↓reduceIte,↓dreduceIte,reduceCtorEq,Nat.reduceLeDiff,Nat.reduceLT,Nat.reduceSub,Int.reduceToNat,Int.reduceLE,Int.reduceLT, one_imm, one_ref, List.length_map, List.length_range]
        refine VW_loop (fun y : CQ => ⟨[(2, .ptr H.length nx 0), (3, .ptr (H.length + 1) (nx + 1) 0), (6, .ref Hb.length (nx + 1 + 1) 0 f.r), (8, .ref H1.length nx1 0 (rl f.r)), (58, bksA f.bks), (59, I f.n), (60, I b), (12, .ptr H4.length nx4 0), (13, .ref (H4.length + 1) (nx4 + 1) 0 (rl f.r)), (14, I ((bk.ins.length : Int) - 1 - k)), (111, ints (usesL t)), (112, I (usesL t).length), (113, I y.i)], y.H, y.nx⟩)
          (fun y => y.i ≤ (usesL t).length ∧ CS f L Hb y.H (nx + 1 + 1) g m H1.length nx1 iw ∧ y.H[H4.length]? = some ⟨nx4, 60, 1, bkL bk⟩ ∧ y.H[H4.length + 1]? = some ⟨nx4 + 1, 97, 1, rowC64 (useL (clearL t x) ((usesL t).take y.i))⟩) (fun y => (usesL t).length - y.i) ⟨0, _, g, [], [], _⟩
          (Wk.mk (by simp [get_cons]) ⟨[], (List.append_nil _).symm⟩ (Nat.le_refl _)) ⟨Nat.zero_le _, hu1, hu2, hu3⟩ ?_
        rintro ⟨j, H8, g8, m8, iw8, nx8⟩ ⟨a1, a2, a3, a4⟩
        simp only at a1 a2 a3 a4
        by_cases hj : j < (usesL t).length
        · obtain ⟨g1, g2⟩ := hrt.1 _ (mem_getD hj)
          have htk := useL_take (clearL t x) (usesL t) hj
          have hyl : (useL (clearL t x) ((usesL t).take j)).length = f.r := by rw [useL_len, clearL_len]; exact hxl
          simp only [go_sem,Nat.reduceEqDiff,Nat.reduceAdd,Nat.reduceMul,↓reduceIte,↓dreduceIte,reduceCtorEq,Nat.reduceLeDiff,Nat.reduceLT,Nat.reduceSub,Int.reduceToNat,Int.reduceLE,Int.reduceLT, one_imm, one_ref, List.length_map, List.length_range, eq_true (show (j : Int) < ((usesL t).length : Int) by omega)]
          repeat ((with_reducible refine And.intro ?_ ?_); · first | omega | (simp; omega))
          refine badd_v (useL (clearL t x) ((usesL t).take j)) ((usesL t).getD j default) H8 nx8 (H4.length + 1) (nx4 + 1) (rl f.r) (by rw [hyl]) (by omega) (by omega) a4 _ fun r => ?_
          rw [← htk]
          simp only [go_sem,Nat.reduceEqDiff,Nat.reduceAdd,Nat.reduceMul,↓reduceIte,↓dreduceIte,reduceCtorEq,Nat.reduceLeDiff,Nat.reduceLT,Nat.reduceSub,Int.reduceToNat,Int.reduceLE,Int.reduceLT, one_imm, one_ref, List.length_map, List.length_range]
          rw [i64_in (by omega) (by omega)]
          exact ⟨⟨j + 1, _, g, [], [], nx8⟩, ⟨by simp only; omega, a2.other hBk hBt hBg hBW _, by rw [List.getElem?_set_ne (of_eq_false hn1)]; exact a3, set_get a4⟩, by simp only; omega, Wk.mk (by simp [get_cons]) ⟨[], (List.append_nil _).symm⟩ (Nat.le_refl _)⟩
        · simp only [go_sem,Nat.reduceEqDiff,Nat.reduceAdd,Nat.reduceMul,↓reduceIte,↓dreduceIte,reduceCtorEq,Nat.reduceLeDiff,Nat.reduceLT,Nat.reduceSub,Int.reduceToNat,Int.reduceLE,Int.reduceLT, one_imm, one_ref, List.length_map, List.length_range, eq_false (show ¬ (j : Int) < ((usesL t).length : Int) by omega)]
          rw [List.take_of_length_le (by omega)] at a4
          have hst := atL_step bk out hk2
          rw [hti, hxd] at hst
          have hbk : useL (clearL t x) (usesL t) = atL bk out (k + 1) := hst
          rw [hbk] at a4
          rw [i64_in (by omega) (by omega)]
          exact ⟨⟨k + 1, H8, g, m, iw, nx8⟩, ⟨by simp only; omega, a2, hstep, a3, a4⟩, by simp only; omega, Wk.mk (by simp [get_cons]; omega) ⟨[], (List.append_nil _).symm⟩ (Nat.le_refl _)⟩
end Go.Proofs.Ytncjbipnkdlkoaa
namespace Go.Proofs.Ytncjbipnkdlkoaa
set_option linter.unusedSimpArgs false
set_option linter.unusedVariables false
open Go.V
theorem holes : ∀ (k : Nat) (l : List Int), (∀ j : Nat, 1 ≤ j → j ≤ k → -(j : Int) ∈ l) → k ≤ l.length
  | 0, _, _ => Nat.zero_le _
  | k + 1, l, h => by
    have h1 := h (k + 1) (by omega) (Nat.le_refl _)
    have h2 := holes k (l.erase (-((k + 1 : Nat) : Int))) fun j h3 h4 => (List.mem_erase_of_ne (by omega)).2 (h j h3 (by omega))
    rw [List.length_erase_of_mem h1] at h2
    have := List.length_pos_of_mem h1
    omega
def clB (m : List (List Bool)) (v u : Nat) : Bool := gB (m.getD v []) u || gB (m.getD u []) v
structure Col (r n : Nat) (m : List (List Bool)) (iw : List Bool) (v : Nat) (pl : List Int) : Prop where
  len : pl.length = r
  ok : ∀ u < v, (1 ≤ gP pl u ∧ gP pl u ≤ n) ∨ (-((u : Int) + 1) ≤ gP pl u ∧ gP pl u ≤ -1)
  ne : ∀ u < v, ∀ w < u, clB m u w = true → gP pl u ≠ gP pl w
  wd : ∀ u < v, gB iw u = true → gP pl u < 0
def gN (l : List Int) (j : Nat) : Int := l.getD j default
structure Mrk (r n : Nat) (m : List (List Bool)) (pl : List Int) (v u : Nat) (ur uw : List Int) : Prop where
  rl : ur.length = n + 1
  wl : uw.length = r + 2
  rg : ∀ w < u, clB m v w = true → 0 < gP pl w → gN ur (gP pl w).toNat = v + 1
  wg : ∀ w < u, clB m v w = true → gP pl w < 0 → gN uw (-(gP pl w)).toNat = v + 1
  by_ : ∀ j, 1 ≤ j → gN uw j = v + 1 → ∃ w < u, gP pl w = -(j : Int)
  le : ∀ j, gN uw j ≤ v + 1 ∧ gN ur j ≤ v + 1
theorem gN_set (l : List Int) (i j : Nat) (x : Int) (hi : i < l.length) : gN (l.set i x) j = if i = j then x else gN l j := by
  unfold gN
  rw [List.getD, List.getElem?_set]
  by_cases h : i = j
  · subst h; rw [if_pos rfl, if_pos hi, if_pos rfl]; rfl
  · rw [if_neg h, if_neg h]; rfl
theorem gP_set (l : List Int) (i j : Nat) (x : Int) (hi : i < l.length) : gP (l.set i x) j = if i = j then x else gP l j := gN_set l i j x hi
theorem Mrk.begin {r n : Nat} {m : List (List Bool)} {pl : List Int} {v : Nat} {ur uw : List Int} (h1 : ur.length = n + 1) (h2 : uw.length = r + 2) (h3 : ∀ j, gN uw j ≤ v ∧ gN ur j ≤ v) : Mrk r n m pl v 0 ur uw :=
  ⟨h1, h2, fun w hw => absurd hw (Nat.not_lt_zero w), fun w hw => absurd hw (Nat.not_lt_zero w), fun j _ e => by have := (h3 j).1; omega, fun j => by have := h3 j; omega⟩
theorem Mrk.skip {r n : Nat} {m : List (List Bool)} {pl : List Int} {v u : Nat} {ur uw : List Int} (h : Mrk r n m pl v u ur uw) (hc : clB m v u = false) : Mrk r n m pl v (u + 1) ur uw := by
  refine ⟨h.rl, h.wl, fun w hw e => ?_, fun w hw e => ?_, fun j hj e => ?_, h.le⟩
  · by_cases e2 : w = u
    · subst e2; rw [hc] at e; cases e
    · exact h.rg w (by omega) e
  · by_cases e2 : w = u
    · subst e2; rw [hc] at e; cases e
    · exact h.wg w (by omega) e
  · obtain ⟨w, h1, h2⟩ := h.by_ j hj e
    exact ⟨w, by omega, h2⟩
theorem Mrk.reg {r n : Nat} {m : List (List Bool)} {pl : List Int} {v u : Nat} {ur uw : List Int} (h : Mrk r n m pl v u ur uw) (h1 : 1 ≤ gP pl u) (h2 : gP pl u ≤ n) : Mrk r n m pl v (u + 1) (ur.set (gP pl u).toNat ((v : Int) + 1)) uw := by
  have hlt : (gP pl u).toNat < ur.length := by rw [h.rl]; omega
  refine ⟨by rw [List.length_set]; exact h.rl, h.wl, fun w hw e e2 => ?_, fun w hw e e2 => ?_, fun j hj e => ?_, fun j => ?_⟩
  · rw [gN_set _ _ _ _ hlt]
    split
    · rfl
    · by_cases e3 : w = u
      · subst e3; rename_i h5; exact absurd rfl h5
      · exact h.rg w (by omega) e e2
  · by_cases e3 : w = u
    · subst e3; omega
    · exact h.wg w (by omega) e e2
  · obtain ⟨w, h3, h4⟩ := h.by_ j hj e
    exact ⟨w, by omega, h4⟩
  · rw [gN_set _ _ _ _ hlt]
    have := h.le j
    split <;> omega
theorem Mrk.word {r n : Nat} {m : List (List Bool)} {pl : List Int} {v u : Nat} {ur uw : List Int} (h : Mrk r n m pl v u ur uw) (hur : u < r) (h1 : -((u : Int) + 1) ≤ gP pl u) (h2 : gP pl u ≤ -1) : Mrk r n m pl v (u + 1) ur (uw.set (-(gP pl u)).toNat ((v : Int) + 1)) := by
  have hlt : (-(gP pl u)).toNat < uw.length := by rw [h.wl]; omega
  refine ⟨h.rl, by rw [List.length_set]; exact h.wl, fun w hw e e2 => ?_, fun w hw e e2 => ?_, fun j hj e => ?_, fun j => ?_⟩
  · by_cases e3 : w = u
    · subst e3; omega
    · exact h.rg w (by omega) e e2
  · rw [gN_set _ _ _ _ hlt]
    split
    · rfl
    · by_cases e3 : w = u
      · subst e3; rename_i h5; exact absurd rfl h5
      · exact h.wg w (by omega) e e2
  · rw [gN_set _ _ _ _ hlt] at e
    split at e
    · rename_i h5
      exact ⟨u, by omega, by omega⟩
    · obtain ⟨w, h3, h4⟩ := h.by_ j hj e
      exact ⟨w, by omega, h4⟩
  · rw [gN_set _ _ _ _ hlt]
    have := h.le j
    split <;> omega
def FreeP (ur uw : List Int) (mark : Int) (word : Bool) (p : Int) : Prop :=
  (word = false ∧ 1 ≤ p ∧ p.toNat < ur.length ∧ gN ur p.toNat ≠ mark) ∨ (∃ k : Nat, p = -(k : Int) ∧ 1 ≤ k ∧ k < uw.length ∧ gN uw k ≠ mark ∧ ∀ j, 1 ≤ j → j < k → gN uw j = mark)
theorem Mrk.hole {r n : Nat} {m : List (List Bool)} {pl : List Int} {v : Nat} {ur uw : List Int} (h : Mrk r n m pl v v ur uw) (hv : v < r) : ∃ k, 1 ≤ k ∧ k ≤ v + 1 ∧ gN uw k ≠ v + 1 := by
  rcases Classical.em (∃ k, 1 ≤ k ∧ k ≤ v + 1 ∧ gN uw k ≠ v + 1) with h1 | h1
  · exact h1
  · have h2 : ∀ j : Nat, 1 ≤ j → j ≤ v + 1 → -(j : Int) ∈ (List.range v).map (gP pl) := fun j h3 h4 => by
      have h5 : gN uw j = v + 1 := by
        by_cases e : gN uw j = v + 1
        · exact e
        · exact absurd ⟨j, h3, h4, e⟩ h1
      obtain ⟨w, hw, e⟩ := h.by_ j h3 h5
      exact List.mem_map.2 ⟨w, List.mem_range.2 hw, e⟩
    have := holes (v + 1) _ h2
    rw [List.length_map, List.length_range] at this
    omega
theorem Col.step {r n : Nat} {m : List (List Bool)} {iw : List Bool} {v : Nat} {pl : List Int} {ur uw : List Int} (h : Col r n m iw v pl) (hv : v < r) (hm : Mrk r n m pl v v ur uw) {p : Int} (hp : FreeP ur uw ((v : Int) + 1) (gB iw v) p) : Col r n m iw (v + 1) (pl.set v p) := by
  have hlt : v < pl.length := by rw [h.len]; exact hv
  have hok : (1 ≤ p ∧ p ≤ n) ∨ (-((v : Int) + 1) ≤ p ∧ p ≤ -1) := by
    rcases hp with ⟨_, h1, h2, _⟩ | ⟨k, h1, h2, h3, h4, h5⟩
    · rw [hm.rl] at h2; left; omega
    · right
      have h6 : ∀ j : Nat, 1 ≤ j → j ≤ k - 1 → -(j : Int) ∈ (List.range v).map (gP pl) := fun j g1 g2 => by
        obtain ⟨w, hw, e⟩ := hm.by_ j g1 (h5 j g1 (by omega))
        exact List.mem_map.2 ⟨w, List.mem_range.2 hw, e⟩
      have := holes (k - 1) _ h6
      simp at this
      omega
  have hcl : ∀ w < v, clB m v w = true → p ≠ gP pl w := fun w hw hc e => by
    rcases h.ok w hw with h1 | h1
    · have h2 := hm.rg w hw hc (by omega)
      rcases hp with ⟨_, _, _, h3⟩ | ⟨k, h3, h4, _⟩
      · rw [e] at h3; exact h3 h2
      · omega
    · have h2 := hm.wg w hw hc (by omega)
      rcases hp with ⟨_, h3, _, _⟩ | ⟨k, h3, h4, h5, h6, _⟩
      · omega
      · have : (-(gP pl w)).toNat = k := by omega
        rw [this] at h2; exact h6 h2
  refine ⟨by rw [List.length_set]; exact h.len, fun u hu => ?_, fun u hu w hw hc => ?_, fun u hu e => ?_⟩
  · rw [gP_set _ _ _ _ hlt]
    by_cases e : v = u
    · subst e; rw [if_pos rfl]; exact hok
    · rw [if_neg e]; exact h.ok u (by omega)
  · rw [gP_set _ _ _ _ hlt, gP_set _ _ _ _ hlt]
    by_cases e : v = u
    · subst e; rw [if_pos rfl, if_neg (by omega)]; exact hcl w hw hc
    · rw [if_neg e, if_neg (by omega)]; exact h.ne u (by omega) w hw hc
  · rw [gP_set _ _ _ _ hlt]
    by_cases e2 : v = u
    · subst e2; rw [if_pos rfl]
      rcases hp with ⟨h1, _⟩ | ⟨k, h1, h2, _⟩
      · rw [e] at h1; cases h1
      · omega
    · rw [if_neg e2]; exact h.wd u (by omega) e
theorem col_alloc {f : BF} {L : LD} (hf : Fine f) (hcl : ClosedP f L) {m : List (List Bool)} {iw : List Bool} (hv : CV f L m iw (fun _ _ => True)) {n : Int} {pl : List Int} (h : Col f.r n.toNat m iw f.r pl) : AllocP f L pl n := by
  have hr4 := hf.r1
  have hr0 := hf.r0
  have hr : f.r ≤ 4000 := by unfold BF.r; omega
  have key : ∀ u < f.r, ∀ v < f.r, u ≠ v → (gB (m.getD v []) u = true ∨ gB (m.getD u []) v = true) → gP pl u ≠ gP pl v := fun u hu v hvr hne hc => by
    rcases Nat.lt_or_ge u v with h1 | h1
    · exact fun e => h.ne v hvr u h1 (by unfold clB; rcases hc with e | e <;> rw [e] <;> simp) e.symm
    · exact h.ne u hu v (by omega) (by unfold clB; rcases hc with e | e <;> rw [e] <;> simp)
  refine ⟨hcl, h.len, fun v hvr => ?_, fun u hu v hvr hne a b => key u hu v hvr hne (.inl (hv.ap u hu v hvr a b)), fun b hb i hi hs v hvr hth hne => ?_, fun b hb i hi ho v hvr hth => h.wd v hvr (hv.ca b hb i hi trivial ho v hvr hth)⟩
  · rcases h.ok v hvr with h1 | h1
    · left; omega
    · right; omega
  · have hd := (hf.ins _ (BF.mem hb) _ (mem_getD hi)).2 hs
    exact key v hvr _ (by unfold BF.r; omega) hne (.inl (hv.st b hb i hi trivial hs v hvr hth))
end Go.Proofs.Ytncjbipnkdlkoaa
namespace Go.Proofs.Ytncjbipnkdlkoaa
set_option linter.unusedSimpArgs false
set_option linter.unusedVariables false
set_option maxRecDepth 10000
open Go.V
def apF (uw : List Int) (mark : Int) (k : Nat) : Prop := ∀ j, 1 ≤ j → j < k → gN uw j = mark
theorem free_v (ur uw : List Int) (mark : Int) (word : Bool) (hl : ur.length ≤ 2000000 ∧ uw.length ≤ 2000000) (hh : ∃ k, 1 ≤ k ∧ k < uw.length ∧ gN uw k ≠ mark) (H : List VObj) (nx k1 s1 k2 s2 n1 n2 : Nat) (hn1 : n1 = ur.length) (hn2 : n2 = uw.length)
    (h1 : H[k1]? = some ⟨s1, 3, 1, ur.map I⟩) (h2 : H[k2]? = some ⟨s2, 3, 1, uw.map I⟩) (C : AV → List VObj → Nat → Prop) (hC : ∀ p, FreeP ur uw mark word p → C (I p) H nx) :
    VCall Try.prog 27 [.ref k1 s1 0 n1, .ref k2 s2 0 n2, I mark, B word] H nx C := by
  refine VCall.of_body hmix f_alloc_free (by simp) ?_
  subst hn1; subst hn2
  obtain ⟨K, hK1, hK2, hK3⟩ := hh
  cases word
  · simp only [go_sem,Nat.reduceEqDiff,Nat.reduceAdd,Nat.reduceMul,↓reduceIte,↓dreduceIte,reduceCtorEq,Nat.reduceLeDiff,Nat.reduceLT,Nat.reduceSub,Int.reduceToNat,Int.reduceLE,Int.reduceLT, c_alloc_free]
    refine VW_loop (fun p : Nat => ⟨[(0, .ref k1 s1 0 ur.length), (1, .ref k2 s2 0 uw.length), (2, I mark), (9, I p)], H, nx⟩) (fun p => 1 ≤ p ∧ p ≤ ur.length + 1) (fun p => ur.length + 1 - p) 1 (Wk.mk (by simp [get_cons]) ⟨[], by simp⟩ (Nat.le_refl _)) ⟨Nat.le_refl _, by omega⟩ ?_
    rintro p ⟨g1, g2⟩
    by_cases hp : p < ur.length
    · have e0 : ur.getD p default = gN ur p := rfl
      by_cases h : gN ur p = mark
      · simp only [go_sem,Nat.reduceEqDiff,Nat.reduceAdd,Nat.reduceMul,↓reduceIte,↓dreduceIte,reduceCtorEq,Nat.reduceLeDiff,Nat.reduceLT,Nat.reduceSub,Int.reduceToNat,Int.reduceLE,Int.reduceLT, h1, e0, eq_true (show (p : Int) < (ur.length : Int) by omega), eq_true h]
        repeat ((with_reducible refine And.intro ?_ ?_); · omega)
        rw [i64_in (by omega) (by omega)]
        exact ⟨p + 1, ⟨by omega, by omega⟩, by omega, Wk.mk (by simp [get_cons]) ⟨[], by simp⟩ (Nat.le_refl _)⟩
      · simp only [go_sem,Nat.reduceEqDiff,Nat.reduceAdd,Nat.reduceMul,↓reduceIte,↓dreduceIte,reduceCtorEq,Nat.reduceLeDiff,Nat.reduceLT,Nat.reduceSub,Int.reduceToNat,Int.reduceLE,Int.reduceLT, h1, e0, eq_true (show (p : Int) < (ur.length : Int) by omega), eq_false h]
        repeat ((with_reducible refine And.intro ?_ ?_); · omega)
        exact hC _ (.inl ⟨rfl, by omega, by omega, h⟩)
    · simp only [go_sem,Nat.reduceEqDiff,Nat.reduceAdd,Nat.reduceMul,↓reduceIte,↓dreduceIte,reduceCtorEq,Nat.reduceLeDiff,Nat.reduceLT,Nat.reduceSub,Int.reduceToNat,Int.reduceLE,Int.reduceLT, h1, eq_false (show ¬ (p : Int) < (ur.length : Int) by omega)]
      refine VW_loop (fun k : Nat => ⟨[(1, .ref k2 s2 0 uw.length), (2, I mark), (10, I k)], H, nx⟩) (fun k => 1 ≤ k ∧ k ≤ K ∧ apF uw mark k) (fun k => K - k) 1 (Wk.mk (by simp [get_cons]) ⟨[], by simp⟩ (Nat.le_refl _)) ⟨Nat.le_refl _, hK1, fun j g1 g2 => by omega⟩ ?_
      rintro k ⟨g1, g2, g3⟩
      have e0 : uw.getD k default = gN uw k := rfl
      by_cases h : gN uw k = mark
      · have hkK : k ≠ K := fun e => by subst e; exact hK3 h
        simp only [go_sem,Nat.reduceEqDiff,Nat.reduceAdd,Nat.reduceMul,↓reduceIte,↓dreduceIte,reduceCtorEq,Nat.reduceLeDiff,Nat.reduceLT,Nat.reduceSub,Int.reduceToNat,Int.reduceLE,Int.reduceLT, h2, e0, eq_true h]
        repeat ((with_reducible refine And.intro ?_ ?_); · omega)
        rw [i64_in (by omega) (by omega)]
        refine ⟨k + 1, ⟨by omega, by omega, fun j q1 q2 => ?_⟩, by omega, Wk.mk (by simp [get_cons]) ⟨[], by simp⟩ (Nat.le_refl _)⟩
        by_cases e : j = k
        · rw [e]; exact h
        · exact g3 j q1 (by omega)
      · simp only [go_sem,Nat.reduceEqDiff,Nat.reduceAdd,Nat.reduceMul,↓reduceIte,↓dreduceIte,reduceCtorEq,Nat.reduceLeDiff,Nat.reduceLT,Nat.reduceSub,Int.reduceToNat,Int.reduceLE,Int.reduceLT, h2, e0, eq_false h, Int.zero_sub]
        repeat ((with_reducible refine And.intro ?_ ?_); · omega)
        rw [i64_in (by omega) (by omega)]
        exact hC _ (.inr ⟨k, rfl, g1, by omega, h, g3⟩)
  · simp only [go_sem,Nat.reduceEqDiff,Nat.reduceAdd,Nat.reduceMul,↓reduceIte,↓dreduceIte,reduceCtorEq,Nat.reduceLeDiff,Nat.reduceLT,Nat.reduceSub,Int.reduceToNat,Int.reduceLE,Int.reduceLT, c_alloc_free]
    refine VW_loop (fun k : Nat => ⟨[(1, .ref k2 s2 0 uw.length), (2, I mark), (10, I k)], H, nx⟩) (fun k => 1 ≤ k ∧ k ≤ K ∧ apF uw mark k) (fun k => K - k) 1 (Wk.mk (by simp [get_cons]) ⟨[], by simp⟩ (Nat.le_refl _)) ⟨Nat.le_refl _, hK1, fun j g1 g2 => by omega⟩ ?_
    rintro k ⟨g1, g2, g3⟩
    have e0 : uw.getD k default = gN uw k := rfl
    by_cases h : gN uw k = mark
    · have hkK : k ≠ K := fun e => by subst e; exact hK3 h
      simp only [go_sem,Nat.reduceEqDiff,Nat.reduceAdd,Nat.reduceMul,↓reduceIte,↓dreduceIte,reduceCtorEq,Nat.reduceLeDiff,Nat.reduceLT,Nat.reduceSub,Int.reduceToNat,Int.reduceLE,Int.reduceLT, h2, e0, eq_true h]
      repeat ((with_reducible refine And.intro ?_ ?_); · omega)
      rw [i64_in (by omega) (by omega)]
      refine ⟨k + 1, ⟨by omega, by omega, fun j q1 q2 => ?_⟩, by omega, Wk.mk (by simp [get_cons]) ⟨[], by simp⟩ (Nat.le_refl _)⟩
      by_cases e : j = k
      · rw [e]; exact h
      · exact g3 j q1 (by omega)
    · simp only [go_sem,Nat.reduceEqDiff,Nat.reduceAdd,Nat.reduceMul,↓reduceIte,↓dreduceIte,reduceCtorEq,Nat.reduceLeDiff,Nat.reduceLT,Nat.reduceSub,Int.reduceToNat,Int.reduceLE,Int.reduceLT, h2, e0, eq_false h, Int.zero_sub]
      repeat ((with_reducible refine And.intro ?_ ?_); · omega)
      rw [i64_in (by omega) (by omega)]
      exact hC _ (.inr ⟨k, rfl, g1, by omega, h, g3⟩)
end Go.Proofs.Ytncjbipnkdlkoaa
namespace Go.Proofs.Ytncjbipnkdlkoaa
set_option linter.unusedSimpArgs false
set_option linter.unusedVariables false
set_option maxRecDepth 10000
open Go.V
section
variable {α : Type} {A : List α} {a b c x : α}
theorem tri0 : (A ++ [a] ++ [b] ++ [c])[A.length]? = some a := by simp
theorem tri1 : (A ++ [a] ++ [b] ++ [c])[A.length + 1]? = some b := by simp
theorem tri2 : (A ++ [a] ++ [b] ++ [c])[A.length + 1 + 1]? = some c := by rw [List.getElem?_append_right (by simp)]; simp
theorem trs0 : (A ++ [a] ++ [b] ++ [c]).set A.length x = A ++ [x] ++ [b] ++ [c] := by simp
theorem trs1 : (A ++ [a] ++ [b] ++ [c]).set (A.length + 1) x = A ++ [a] ++ [x] ++ [c] := by simp
theorem trs2 : (A ++ [a] ++ [b] ++ [c]).set (A.length + 1 + 1) x = A ++ [a] ++ [b] ++ [x] := by rw [List.set_append_right _ _ (by simp)]; simp
theorem duo0 : (A ++ [a] ++ [b])[A.length]? = some a := by simp
end
theorem i64T : IntKind.i64.wrap 0 = 0 := rfl
structure FQ where
  v : Nat
  pl : List Int
  ur : List Int
  uw : List Int
theorem set_I (l : List Int) (i : Nat) (x : Int) : (l.map I).set i (.val (.int .i64 x)) = (l.set i x).map I := set_map I l i x
theorem rep_I (n : Nat) : (List.replicate n [AV.val (.int .i64 0)]).flatten = (List.replicate n (0 : Int)).map I := by rw [flat_rep]; simp
theorem gN_rep (n j : Nat) : gN (List.replicate n 0) j = 0 := by
  unfold gN
  simp only [List.getD, List.getElem?_replicate]
  split <;> rfl
set_option maxHeartbeats 4000000 in
theorem of28_c (f : BF) (L : LD) (n : Int) (hf : Fine f) (hcl : ClosedP f L) (hr : f.r ≤ 64) (hn : n ≤ 1000000) : Contract Try.prog 12 [bfA f, liveA L, I n] (fun r => ∃ pl, r = alA pl ∧ AllocP f L pl n) := by
  refine Contract.of_call (VCall.of_body hmix f_alloc_Of (by simp) ?_)
  have hmx : (2000000 : Nat) ≤ maxLen := by decide
  have hr0 := hf.r0
  have hregs : f.regs = (f.r : Int) := by unfold BF.r; omega
  simp only [go_sem,Nat.reduceEqDiff,Nat.reduceAdd,Nat.reduceMul,↓reduceIte,↓dreduceIte,reduceCtorEq,Nat.reduceLeDiff,Nat.reduceLT,Nat.reduceSub,Int.reduceToNat,Int.reduceLE,Int.reduceLT, one_imm, one_ref, List.length_map, List.length_range, i64T, ↓tri0, ↓tri1, ↓tri2, ↓trs0, ↓trs1, ↓trs2, c_alloc_Of]
  refine clashes_v f L hf hcl hr _ _ _ fun H1 nx1 Hb st g m kW sW iw kp cs cv => ?_
  have h0 := kp 0 _ rfl
  have h1 := kp 1 _ rfl
  have h2 := kp 2 _ rfl
  have h0a := app_old h0
  have h0b := fun (x y : VObj) => app_old (app_old h0 [x]) [y]
  have hlen : 3 ≤ H1.length := kp.lt
  have e1 : IntKind.i64.wrap ((f.r : Int) + 2) = ((f.r + 2 : Nat) : Int) := by rw [i64_in (by omega) (by omega)]; omega
  obtain ⟨N, hN⟩ : ∃ N, n.toNat = N := ⟨_, rfl⟩
  have e2 : IntKind.i64.wrap ((if (0 : Int) > n then 0 else n) + 1) = ((N + 1 : Nat) : Int) := by split <;> (rw [i64_in (by omega) (by omega)]; omega)
  have e3 : IntKind.i64.wrap ((if n < (0 : Int) then 0 else n) + 1) = ((N + 1 : Nat) : Int) := by split <;> (rw [i64_in (by omega) (by omega)]; omega)
  by_cases hneg : n < 0
  all_goals
    first
    | (have e4 : IntKind.i64.wrap ((0 : Int) + 1) = ((N + 1 : Nat) : Int) := by rw [i64_in (by omega) (by omega)]; omega
       simp only [go_sem,Nat.reduceEqDiff,Nat.reduceAdd,Nat.reduceMul,↓reduceIte,↓dreduceIte,reduceCtorEq,Nat.reduceLeDiff,Nat.reduceLT,Nat.reduceSub,Int.reduceToNat,Int.reduceLE,Int.reduceLT, one_imm, one_ref, List.length_map, List.length_range, i64T, ↓tri0, ↓tri1, ↓tri2, ↓trs0, ↓trs1, ↓trs2, h0, h0a, h0b, hregs, e1, e2, e3, e4, rep_I, eq_true hneg, gt_iff_lt, duo0])
    | (have e4 : IntKind.i64.wrap (n + 1) = ((N + 1 : Nat) : Int) := by rw [i64_in (by omega) (by omega)]; omega
       simp only [go_sem,Nat.reduceEqDiff,Nat.reduceAdd,Nat.reduceMul,↓reduceIte,↓dreduceIte,reduceCtorEq,Nat.reduceLeDiff,Nat.reduceLT,Nat.reduceSub,Int.reduceToNat,Int.reduceLE,Int.reduceLT, one_imm, one_ref, List.length_map, List.length_range, i64T, ↓tri0, ↓tri1, ↓tri2, ↓trs0, ↓trs1, ↓trs2, h0, h0a, h0b, hregs, e1, e2, e3, e4, rep_I, eq_false hneg, gt_iff_lt, duo0])
    repeat ((with_reducible refine And.intro ?_ ?_); · first | omega | (simp; omega))
    refine VW_loop (fun q : FQ => ⟨[(6, .ptr 2 2 0), (7, .ref Hb.length st 0 f.r), (8, .ref kW sW 0 (rl f.r)), (9, .ref H1.length nx1 0 f.r), (10, .ref (H1.length + 1) (nx1 + 1) 0 (N + 1)), (11, .ref (H1.length + 1 + 1) (nx1 + 1 + 1) 0 (f.r + 2)), (34, I f.r), (35, I q.v)], H1 ++ [(⟨nx1, 3, 1, List.map I q.pl⟩ : VObj)] ++ [(⟨nx1 + 1, 3, 1, List.map I q.ur⟩ : VObj)] ++ [(⟨nx1 + 1 + 1, 3, 1, List.map I q.uw⟩ : VObj)], nx1 + 1 + 1 + 1⟩)
      (fun q => q.v ≤ f.r ∧ Col f.r N m iw q.v q.pl ∧ q.ur.length = N + 1 ∧ q.uw.length = f.r + 2 ∧ ∀ j, gN q.uw j ≤ q.v ∧ gN q.ur j ≤ q.v) (fun q => f.r - q.v) ⟨0, List.replicate f.r 0, List.replicate (N + 1) 0, List.replicate (f.r + 2) 0⟩
      (Wk.mk (by simp [get_cons]) ⟨[], (List.append_nil _).symm⟩ (Nat.le_refl _)) ⟨Nat.zero_le _, ⟨by simp, fun u hu => absurd hu (Nat.not_lt_zero u), fun u hu => absurd hu (Nat.not_lt_zero u), fun u hu => absurd hu (Nat.not_lt_zero u)⟩, by simp, by simp, fun j => by simp only [gN_rep]; omega⟩ ?_
    rintro ⟨v, pl, ur, uw⟩ ⟨hv, hcol, hurl, huwl, hle⟩
    simp only at hv hcol hurl huwl hle
    by_cases hvr : v < f.r
    case neg =>
      obtain rfl : v = f.r := by omega
      have q2' : ∀ x y z w : VObj, ((H1 ++ [x] ++ [y] ++ [z]).set 2 w)[2]? = some w := fun x y z w => by rw [List.getElem?_set_self (by simp)]
      simp only [go_sem,Nat.reduceEqDiff,Nat.reduceAdd,Nat.reduceMul,↓reduceIte,↓dreduceIte,reduceCtorEq,Nat.reduceLeDiff,Nat.reduceLT,Nat.reduceSub,Int.reduceToNat,Int.reduceLE,Int.reduceLT, one_imm, one_ref, List.length_map, List.length_range, i64T, ↓tri0, ↓tri1, ↓tri2, ↓trs0, ↓trs1, ↓trs2, eq_false (show ¬ (f.r : Int) < (f.r : Int) by omega), fun x y z => app_old (app_old (app_old h2 [x]) [y]) [z], q2']
      refine ⟨_, Frz.agg ⟨_, _, rfl, frz_ints (ty := 3) (l := pl) (Nat.zero_le _) ?_ hcol.len.symm, rfl⟩, pl, rfl, col_alloc hf hcl cv (n := n) (by rw [hN]; exact hcol)⟩
      rw [List.getElem?_set_ne (by omega)]; exact tri0
    have e5 : IntKind.i64.wrap ((v : Int) + 1) = (v : Int) + 1 := i64_in (by omega) (by omega)
    simp only [go_sem,Nat.reduceEqDiff,Nat.reduceAdd,Nat.reduceMul,↓reduceIte,↓dreduceIte,reduceCtorEq,Nat.reduceLeDiff,Nat.reduceLT,Nat.reduceSub,Int.reduceToNat,Int.reduceLE,Int.reduceLT, one_imm, one_ref, List.length_map, List.length_range, i64T, ↓tri0, ↓tri1, ↓tri2, ↓trs0, ↓trs1, ↓trs2, eq_true (show (v : Int) < (f.r : Int) by omega), e5]
    refine VW_loop (fun q : FQ => ⟨[(6, .ptr 2 2 0), (7, .ref Hb.length st 0 f.r), (8, .ref kW sW 0 (rl f.r)), (9, .ref H1.length nx1 0 f.r), (10, .ref (H1.length + 1) (nx1 + 1) 0 (N + 1)), (11, .ref (H1.length + 1 + 1) (nx1 + 1 + 1) 0 (f.r + 2)), (34, I f.r), (35, I v), (12, I v), (13, I ((v : Int) + 1)), (14, I q.v)], H1 ++ [(⟨nx1, 3, 1, List.map I q.pl⟩ : VObj)] ++ [(⟨nx1 + 1, 3, 1, List.map I q.ur⟩ : VObj)] ++ [(⟨nx1 + 1 + 1, 3, 1, List.map I q.uw⟩ : VObj)], nx1 + 1 + 1 + 1⟩)
      (fun q => q.v ≤ v ∧ q.pl = pl ∧ Mrk f.r N m pl v q.v q.ur q.uw) (fun q => v - q.v) ⟨0, pl, ur, uw⟩
      (Wk.mk (by simp [get_cons]) ⟨[], (List.append_nil _).symm⟩ (Nat.le_refl _)) ⟨Nat.zero_le _, rfl, Mrk.begin hurl huwl hle⟩ ?_
    rintro ⟨u, pl', ur, uw⟩ ⟨hu, hpl', hm⟩
    simp only at hu hpl' hm
    subst hpl'
    have hll := hcol.len
    have hrl := hm.rl
    have hwl := hm.wl
    have htb := fun x y z => app_old (app_old (app_old cs.tb [x]) [y]) [z]
    by_cases huv : u < v
    · have hrw := fun (b : Nat) (hb : b < f.r) (x y z : VObj) => app_old (app_old (app_old (cs.rw b hb) [x]) [y]) [z]
      have hln := cs.ln
      simp only [go_sem,Nat.reduceEqDiff,Nat.reduceAdd,Nat.reduceMul,↓reduceIte,↓dreduceIte,reduceCtorEq,Nat.reduceLeDiff,Nat.reduceLT,Nat.reduceSub,Int.reduceToNat,Int.reduceLE,Int.reduceLT, one_imm, one_ref, List.length_map, List.length_range, i64T, ↓tri0, ↓tri1, ↓tri2, ↓trs0, ↓trs1, ↓trs2, htb, cellT_tbl, eq_true (show (u : Int) < (v : Int) by omega)]
      repeat ((with_reducible refine And.intro ?_ ?_); · first | omega | (simp; omega))
      refine has_v (m.getD v []) u _ _ (g v).1 (g v).2 (rl f.r) (by rw [hln v hvr]) (by rw [hln v hvr]; exact hr) (by rw [hln v hvr]; omega) (hrw v hvr _ _ _) _ ?_
      cases hg1 : gB (m.getD v []) u
      · simp only [go_sem,Nat.reduceEqDiff,Nat.reduceAdd,Nat.reduceMul,↓reduceIte,↓dreduceIte,reduceCtorEq,Nat.reduceLeDiff,Nat.reduceLT,Nat.reduceSub,Int.reduceToNat,Int.reduceLE,Int.reduceLT, one_imm, one_ref, List.length_map, List.length_range, i64T, ↓tri0, ↓tri1, ↓tri2, ↓trs0, ↓trs1, ↓trs2, htb, cellT_tbl]
        repeat ((with_reducible refine And.intro ?_ ?_); · first | omega | (simp; omega))
        refine has_v (m.getD u []) v _ _ (g u).1 (g u).2 (rl f.r) (by rw [hln u (by omega)]) (by rw [hln u (by omega)]; exact hr) (by rw [hln u (by omega)]; omega) (hrw u (by omega) _ _ _) _ ?_
        cases hg2 : gB (m.getD u []) v
        · simp only [go_sem,Nat.reduceEqDiff,Nat.reduceAdd,Nat.reduceMul,↓reduceIte,↓dreduceIte,reduceCtorEq,Nat.reduceLeDiff,Nat.reduceLT,Nat.reduceSub,Int.reduceToNat,Int.reduceLE,Int.reduceLT, one_imm, one_ref, List.length_map, List.length_range, i64T, ↓tri0, ↓tri1, ↓tri2, ↓trs0, ↓trs1, ↓trs2]
          rw [i64_in (n := (u : Int) + 1) (by omega) (by omega)]
          exact ⟨⟨u + 1, pl', ur, uw⟩, ⟨by simp only; omega, rfl, hm.skip (by unfold clB; rw [hg1, hg2]; rfl)⟩, by simp only; omega, Wk.mk (by simp [get_cons]) ⟨[], (List.append_nil _).symm⟩ (Nat.le_refl _)⟩
        · have hpu : pl'.getD u default = gP pl' u := rfl
          have hulen : u < pl'.length := by rw [hcol.len]; omega
          have hok := hcol.ok u (by omega)
          by_cases hp : 0 < gP pl' u
          · have hm2 := hm.reg (show 1 ≤ gP pl' u by omega) (by omega)
            simp only [go_sem,Nat.reduceEqDiff,Nat.reduceAdd,Nat.reduceMul,↓reduceIte,↓dreduceIte,reduceCtorEq,Nat.reduceLeDiff,Nat.reduceLT,Nat.reduceSub,Int.reduceToNat,Int.reduceLE,Int.reduceLT, one_imm, one_ref, List.length_map, List.length_range, i64T, ↓tri0, ↓tri1, ↓tri2, ↓trs0, ↓trs1, ↓trs2, hpu, eq_true hp, set_I]
            repeat ((with_reducible refine And.intro ?_ ?_); · first | omega | (simp; omega))
            rw [i64_in (n := (u : Int) + 1) (by omega) (by omega)]
            exact ⟨⟨u + 1, pl', ur.set (gP pl' u).toNat ((v : Int) + 1), uw⟩, ⟨by simp only; omega, rfl, hm2⟩, by simp only; omega, Wk.mk (by simp [get_cons]) ⟨[], (List.append_nil _).symm⟩ (Nat.le_refl _)⟩
          · have hm2 := hm.word (show u < f.r by omega) (by omega) (by omega)
            have hneg2 : IntKind.i64.wrap (0 - gP pl' u) = -(gP pl' u) := by rw [i64_in (by omega) (by omega)]; omega
            simp only [go_sem,Nat.reduceEqDiff,Nat.reduceAdd,Nat.reduceMul,↓reduceIte,↓dreduceIte,reduceCtorEq,Nat.reduceLeDiff,Nat.reduceLT,Nat.reduceSub,Int.reduceToNat,Int.reduceLE,Int.reduceLT, one_imm, one_ref, List.length_map, List.length_range, i64T, ↓tri0, ↓tri1, ↓tri2, ↓trs0, ↓trs1, ↓trs2, hpu, eq_false hp, hneg2, set_I]
            repeat ((with_reducible refine And.intro ?_ ?_); · first | omega | (simp; omega))
            rw [i64_in (n := (u : Int) + 1) (by omega) (by omega)]
            exact ⟨⟨u + 1, pl', ur, uw.set (-(gP pl' u)).toNat ((v : Int) + 1)⟩, ⟨by simp only; omega, rfl, hm2⟩, by simp only; omega, Wk.mk (by simp [get_cons]) ⟨[], (List.append_nil _).symm⟩ (Nat.le_refl _)⟩
      · have hpu : pl'.getD u default = gP pl' u := rfl
        have hulen : u < pl'.length := by rw [hcol.len]; omega
        have hok := hcol.ok u (by omega)
        by_cases hp : 0 < gP pl' u
        · have hm2 := hm.reg (show 1 ≤ gP pl' u by omega) (by omega)
          simp only [go_sem,Nat.reduceEqDiff,Nat.reduceAdd,Nat.reduceMul,↓reduceIte,↓dreduceIte,reduceCtorEq,Nat.reduceLeDiff,Nat.reduceLT,Nat.reduceSub,Int.reduceToNat,Int.reduceLE,Int.reduceLT, one_imm, one_ref, List.length_map, List.length_range, i64T, ↓tri0, ↓tri1, ↓tri2, ↓trs0, ↓trs1, ↓trs2, hpu, eq_true hp, set_I]
          repeat ((with_reducible refine And.intro ?_ ?_); · first | omega | (simp; omega))
          rw [i64_in (n := (u : Int) + 1) (by omega) (by omega)]
          exact ⟨⟨u + 1, pl', ur.set (gP pl' u).toNat ((v : Int) + 1), uw⟩, ⟨by simp only; omega, rfl, hm2⟩, by simp only; omega, Wk.mk (by simp [get_cons]) ⟨[], (List.append_nil _).symm⟩ (Nat.le_refl _)⟩
        · have hm2 := hm.word (show u < f.r by omega) (by omega) (by omega)
          have hneg2 : IntKind.i64.wrap (0 - gP pl' u) = -(gP pl' u) := by rw [i64_in (by omega) (by omega)]; omega
          simp only [go_sem,Nat.reduceEqDiff,Nat.reduceAdd,Nat.reduceMul,↓reduceIte,↓dreduceIte,reduceCtorEq,Nat.reduceLeDiff,Nat.reduceLT,Nat.reduceSub,Int.reduceToNat,Int.reduceLE,Int.reduceLT, one_imm, one_ref, List.length_map, List.length_range, i64T, ↓tri0, ↓tri1, ↓tri2, ↓trs0, ↓trs1, ↓trs2, hpu, eq_false hp, hneg2, set_I]
          repeat ((with_reducible refine And.intro ?_ ?_); · first | omega | (simp; omega))
          rw [i64_in (n := (u : Int) + 1) (by omega) (by omega)]
          exact ⟨⟨u + 1, pl', ur, uw.set (-(gP pl' u)).toNat ((v : Int) + 1)⟩, ⟨by simp only; omega, rfl, hm2⟩, by simp only; omega, Wk.mk (by simp [get_cons]) ⟨[], (List.append_nil _).symm⟩ (Nat.le_refl _)⟩
    obtain rfl : u = v := by omega
    have hole := hm.hole hvr
    obtain ⟨K, hK1, hK2, hK3⟩ := hole
    have hil := cs.il
    simp only [go_sem,Nat.reduceEqDiff,Nat.reduceAdd,Nat.reduceMul,↓reduceIte,↓dreduceIte,reduceCtorEq,Nat.reduceLeDiff,Nat.reduceLT,Nat.reduceSub,Int.reduceToNat,Int.reduceLE,Int.reduceLT, one_imm, one_ref, List.length_map, List.length_range, i64T, ↓tri0, ↓tri1, ↓tri2, ↓trs0, ↓trs1, ↓trs2, eq_false (show ¬ (u : Int) < (u : Int) by omega)]
    refine has_v iw u _ _ kW sW (rl f.r) (by rw [hil]) (by omega) (by omega) (app_old (app_old (app_old cs.w _) _) _) _ ?_
    simp only [go_sem,Nat.reduceEqDiff,Nat.reduceAdd,Nat.reduceMul,↓reduceIte,↓dreduceIte,reduceCtorEq,Nat.reduceLeDiff,Nat.reduceLT,Nat.reduceSub,Int.reduceToNat,Int.reduceLE,Int.reduceLT, one_imm, one_ref, List.length_map, List.length_range, i64T, ↓tri0, ↓tri1, ↓tri2, ↓trs0, ↓trs1, ↓trs2]
    refine free_v ur uw ((u : Int) + 1) (gB iw u) (by omega) ⟨K, hK1, by omega, hK3⟩ _ _ _ _ _ _ _ _ hrl.symm hwl.symm tri1 tri2 _ fun p hp => ?_
    have hlt : u < pl'.length := by omega
    simp only [go_sem,Nat.reduceEqDiff,Nat.reduceAdd,Nat.reduceMul,↓reduceIte,↓dreduceIte,reduceCtorEq,Nat.reduceLeDiff,Nat.reduceLT,Nat.reduceSub,Int.reduceToNat,Int.reduceLE,Int.reduceLT, one_imm, one_ref, List.length_map, List.length_range, i64T, ↓tri0, ↓tri1, ↓tri2, ↓trs0, ↓trs1, ↓trs2, set_I]
    repeat ((with_reducible refine And.intro ?_ ?_); · first | omega | (simp; omega))
    rw [i64_in (n := (u : Int) + 1) (by omega) (by omega)]
    exact ⟨⟨u + 1, pl'.set u p, ur, uw⟩, ⟨by simp only; omega, hcol.step hvr hm hp, hrl, hwl, fun j => by have := hm.le j; simp only; omega⟩, by simp only; omega, Wk.mk (by simp [get_cons]) ⟨[], (List.append_nil _).symm⟩ (Nat.le_refl _)⟩
end Go.Proofs.Ytncjbipnkdlkoaa
namespace Go.V
set_option linter.unusedSimpArgs false
set_option linter.unusedVariables false
section
variable {P : Program}
theorem rl0_vals {w : World} {I J : Nat → Prop} : ∀ {us : List Value} {vs : List Value}, RL0 w I (us.map .val) vs → RL0 w J (us.map .val) vs
  | [], vs, h => by simpa only [List.map_nil, RL0] using h
  | u :: us, vs, h => by
    simp only [List.map_cons, RL0] at h ⊢
    obtain ⟨v, vs', rfl, h1, h2⟩ := h
    exact ⟨v, vs', rfl, by simpa only [RV0] using h1, rl0_vals h2⟩
theorem Contract.vals {f : Nat} {args : List AV} {C : AV → Prop} (h : Contract P f args C) (hC : ∀ r, C r → (∃ u, r = .val u) ∨ ∃ us : List Value, r = .agg (us.map .val)) : ContractN P f args C :=
  ⟨h.1, fun I w vs hI hvs => (h.2 I w vs hI hvs).mono fun e w' hp => by
    obtain ⟨v, r, h1, h2, h3, h4⟩ := hp
    refine ⟨v, r, h1, ?_, h3, h4⟩
    rcases hC r h4 with ⟨u, rfl⟩ | ⟨us, rfl⟩
    · simpa only [RV0] using h2
    · simp only [RV0] at h2 ⊢
      obtain ⟨vs, e1, e2⟩ := h2
      exact ⟨vs, e1, rl0_vals e2⟩⟩
end
theorem flat_get {α : Type} {z : Nat} : ∀ {ls : List (List α)}, (∀ l ∈ ls, l.length = z) → ∀ {i j : Nat} {l : List α} {u : α}, ls[i]? = some l → l[j]? = some u → ls.flatten[i * z + j]? = some u
  | [], _, i, j, l, u, h, _ => by simp at h
  | a :: ls, hz, i, j, l, u, h, hu => by
    have ha := hz a (by simp)
    cases i with
    | zero =>
      simp at h; subst h
      rw [List.flatten_cons, Nat.zero_mul, Nat.zero_add, List.getElem?_append_left (List.getElem?_eq_some_iff.1 hu).1]; exact hu
    | succ i =>
      simp only [List.getElem?_cons_succ] at h
      rw [List.flatten_cons, List.getElem?_append_right (by rw [ha, Nat.succ_mul]; omega), ha, show (i + 1) * z + j - z = i * z + j by rw [Nat.succ_mul]; omega]
      exact flat_get (fun l hl => hz l (by simp [hl])) h hu
theorem RL.split {M : MM} : ∀ {xs ys : List AV} {vs : List Value}, RL M (xs ++ ys) vs → ∃ v1 v2, vs = v1 ++ v2 ∧ RL M xs v1 ∧ RL M ys v2
  | [], ys, vs, h => ⟨[], vs, rfl, by simp only [RL], h⟩
  | x :: xs, ys, vs, h => by
    simp only [List.cons_append, RL] at h
    obtain ⟨v, vs', rfl, h1, h2⟩ := h
    obtain ⟨v1, v2, rfl, h3, h4⟩ := RL.split h2
    exact ⟨v :: v1, v2, rfl, by simp only [RL]; exact ⟨v, v1, rfl, h1, h3⟩, h4⟩
theorem RL.chunks {M : MM} : ∀ {yss : List (List AV)} {vs : List Value}, RL M yss.flatten vs → ∃ vss : List (List Value), vs = vss.flatten ∧ vss.length = yss.length ∧ ∀ (i : Nat) (l : List AV) (v : List Value), yss[i]? = some l → vss[i]? = some v → RL M l v
  | [], vs, h => by
    simp only [List.flatten_nil, RL] at h
    exact ⟨[], h, rfl, fun i l v h => by simp at h⟩
  | y :: yss, vs, h => by
    rw [List.flatten_cons] at h
    obtain ⟨v1, v2, rfl, h1, h2⟩ := RL.split h
    obtain ⟨vss, rfl, h3, h4⟩ := RL.chunks h2
    refine ⟨v1 :: vss, by simp, by simp [h3], fun i l v hl hv => ?_⟩
    cases i with
    | zero => simp at hl hv; subst hl; subst hv; exact h1
    | succ i => exact h4 i l v (by simpa using hl) (by simpa using hv)
def FrzLL (n : Nat) (H : List VObj) (nx : Nat) : List (List AV) → List (List AV) → Prop
  | [], zs => zs = []
  | y :: ys, zs => ∃ z zs', zs = z :: zs' ∧ FrzL n H nx y z ∧ FrzLL n H nx ys zs'
theorem FrzLL.pure {n : Nat} {H : List VObj} {nx : Nat} : ∀ {yss : List (List AV)}, (∀ l ∈ yss, l.all AV.pure = true) → FrzLL n H nx yss yss
  | [], _ => rfl
  | y :: ys, h => ⟨y, ys, rfl, FrzL.pure (h y (by simp)), FrzLL.pure fun l hl => h l (by simp [hl])⟩
theorem FrzLL.length {n : Nat} {H : List VObj} {nx : Nat} : ∀ {yss zss : List (List AV)}, FrzLL n H nx yss zss → zss.length = yss.length
  | [], _, h => by simp only [FrzLL] at h; subst h; rfl
  | y :: ys, _, h => by
    simp only [FrzLL] at h
    obtain ⟨z, zs', rfl, _, h3⟩ := h
    simp [FrzLL.length h3]
theorem rl0_aggsT {M : MM} {n : Nat} (hR : RH M) : ∀ {yss zss : List (List AV)} {vss : List (List Value)}, vss.length = yss.length → (∀ (i : Nat) (l : List AV) (v : List Value), yss[i]? = some l → vss[i]? = some v → RL M l v) → FrzLL n M.H M.nx yss zss →
    RL0 M.w (Drop M n) (zss.map .agg) (vss.map fun l => Value.agg l.toArray)
  | [], _, [], _, _, h => by simp only [FrzLL] at h; subst h; simp only [List.map_nil, RL0]
  | [], _, v :: vs, h, _, _ => by simp at h
  | y :: ys, _, [], h, _, _ => by simp at h
  | y :: ys, _, v :: vs, h, h1, h2 => by
    simp only [FrzLL] at h2
    obtain ⟨z, zs', rfl, h2, h3⟩ := h2
    simp only [List.map_cons, RL0]
    refine ⟨_, _, rfl, ?_, rl0_aggsT hR (by simpa using h) (fun i l v hl hv => h1 (i + 1) l v (by simpa using hl) (by simpa using hv)) h3⟩
    simp only [RV0]
    exact ⟨v, rfl, h2.rl hR rfl rfl (h1 0 y v (by simp) (by simp))⟩
theorem flatz_len {α : Type} {z : Nat} : ∀ {ls : List (List α)}, (∀ l ∈ ls, l.length = z) → ls.flatten.length = ls.length * z
  | [], _ => by simp
  | y :: ys, h => by rw [List.flatten_cons, List.length_append, flatz_len (fun l hl => h l (by simp [hl])), h y (by simp), List.length_cons, Nat.succ_mul]; omega
theorem Frz.refT {n : Nat} {H : List VObj} {nx id s len z : Nat} {ob : VObj} {yss zss : List (List AV)} (hid : n ≤ id) (ho : H[id]? = some ob) (hs : ob.s = s) (hz : ob.sz = z) (hcs : ob.cs = yss.flatten)
    (hy : ∀ l ∈ yss, l.length = z) (hlen : len = yss.length) (hf : FrzLL n H nx yss zss) : Frz n H nx (.ref id s 0 len) (.imm z (zss.map .agg)) := fun M hR hH hnx v r => by
  subst hH; subst hnx; subst hlen
  simp only [RV] at r
  obtain ⟨hzz, r⟩ := r.2.2 ob ho hs
  have hfl : yss.flatten.length = yss.length * z := flatz_len hy
  cases hm : M.m.getD id none with
  | none =>
    rw [hm] at r
    obtain ⟨rfl, h1, h2⟩ := r
    have : yss = [] := List.length_eq_zero_iff.1 (by omega)
    subst this
    simp only [FrzLL] at hf
    subst hf
    simp only [List.map_nil, RV0, RL0]
    exact ⟨none, 0, 0, [], rfl, rfl, Nat.le_refl _, by simp [maxLen], rfl, by simp, .inl rfl⟩
  | some g =>
    rw [hm] at r
    obtain ⟨oo, cap, rfl, q2, q3, q4, q5, q6⟩ := r
    obtain ⟨vs, g1, g2, g3⟩ := hR.cells ho hzz hm 0 (yss.length * z) (by rw [hcs, hfl]; omega)
    rw [List.drop_zero, hcs, List.take_of_length_le (by omega)] at g2
    obtain ⟨vss, rfl, h3, h4⟩ := RL.chunks g2
    have hlv : ∀ i v, vss[i]? = some v → ∃ l, yss[i]? = some l ∧ RL M l v ∧ v.length = z := fun i v hv => by
      have hi : i < yss.length := by have := (List.getElem?_eq_some_iff.1 hv).1; omega
      have hl := List.getElem?_eq_getElem hi
      have := h4 i _ v hl hv
      exact ⟨_, hl, this, by rw [this.length]; exact hy _ (List.getElem_mem hi)⟩
    have hmem : ∀ v ∈ vss, v.length = z := fun v hv => by
      obtain ⟨i, hi⟩ := List.getElem?_of_mem hv
      obtain ⟨_, _, _, e⟩ := hlv i v hi
      exact e
    simp only [RV0]
    refine ⟨_, yss.length, cap, vss.map fun l => Value.agg l.toArray, rfl, by simp [h3, hf.length], q2, q3, ?_, fun u hu => ?_, ?_⟩
    · exact rl0_aggsT hR h3 h4 hf
    · obtain ⟨l, hl, rfl⟩ := List.mem_map.1 hu
      simp [Value.cells, hmem l hl]
    · by_cases hl : yss.length = 0
      · exact .inl hl
      · refine .inr ⟨g, oo, rfl, ⟨.inr ⟨(hR.lt hm).1, (hR.lt hm).2.1⟩, fun j hj e => by have := hR.inj j id g e hm; omega⟩, fun i u hu j x hx => ?_⟩
        have hoo : oo = M.o id + 0 := by rcases q5 with q5 | q5 <;> omega
        rw [List.getElem?_map] at hu
        cases hv : vss[i]? with
        | none => rw [hv] at hu; cases hu
        | some l =>
          rw [hv] at hu
          simp only [Option.map_some, Option.some.injEq] at hu
          subst hu
          have hx' : l[j]? = some x := by simpa [Value.cells] using hx
          have := g3 _ _ (flat_get hmem hv hx')
          rw [hoo, Nat.add_assoc]; exact this
end Go.V
namespace Go.V
theorem Frz.ptr {n : Nat} {H : List VObj} {nx id s : Nat} {ob : VObj} {ys : List AV} (hid : n ≤ id) (ho : H[id]? = some ob) (hs : ob.s = s) (hz : ob.sz ≠ 0) (h : FrzL n H nx ob.cs ys) :
    Frz n H nx (.ptr id s 0) (.ip (.agg ys)) := fun M hR hH hnx v r => by
  subst hH
  simp only [RV] at r
  obtain ⟨hzz, g, hm, rfl⟩ := r.2.2 ob ho hs
  obtain ⟨vs, g1, g2, g3⟩ := hR.cells ho hzz hm 0 ob.cs.length (by omega)
  simp only [List.drop_zero, List.take_length] at g2
  have hrl := h.rl hR rfl hnx g2
  simp only [RV0]
  refine ⟨g, _, .agg vs.toArray, rfl, ⟨.inr ⟨(hR.lt hm).1, (hR.lt hm).2.1⟩, fun j hj e => by have := hR.inj j id g e hm; omega⟩, ⟨vs, rfl, hrl⟩, fun j u hu => ?_⟩
  have := g3 j u (by simpa [Value.cells] using hu)
  simpa using this
end Go.V
namespace Go.Proofs.Ytncjbipnkdlkoaa
set_option linter.unusedSimpArgs false
set_option linter.unusedVariables false
set_option maxRecDepth 10000
open Go.V
theorem give_all {env env' : List (Nat × AV)} {H : List VObj} {nx : Nat} (he : ∀ p ∈ env', get env p.1 = p.2 ∨ Frz 0 H nx (get env p.1) p.2) : Wk ⟨env, H, nx⟩ ⟨env', [], nx⟩ :=
  Wk.give he (by cases H <;> exact trivial) (Nat.le_refl _)
theorem frz_ins {H : List VObj} {nx id s len : Nat} {ob : VObj} (l : List Tac) (ho : H[id]? = some ob) (hs : ob.s = s) (hz : ob.sz = 8) (hcs : ob.cs = (l.map tacL).flatten) (hl : len = l.length) : Frz 0 H nx (.ref id s 0 len) (inA l) := by
  have h := Frz.refT (n := 0) (nx := nx) (yss := l.map tacL) (zss := l.map tacL) (len := len) (Nat.zero_le _) ho hs hz hcs (by intro q hq; obtain ⟨t, _, rfl⟩ := List.mem_map.1 hq; rfl) (by rw [List.length_map]; exact hl) (FrzLL.pure (by intro q hq; obtain ⟨t, _, rfl⟩ := List.mem_map.1 hq; rfl))
  rw [List.map_map] at h
  exact h
theorem frz_bks {H : List VObj} {nx id s len : Nat} {ob : VObj} (bs : List Bk) (xs : List AV) (hx : xs.length = bs.length) (hf : ∀ i < bs.length, Frz 0 H nx (xs.getD i .dead) (inA (bs.getD i default).ins)) (ho : H[id]? = some ob) (hs : ob.s = s) (hz : ob.sz = 5)
    (hcs : ob.cs = ((xs.zip bs).map fun p => [p.1, I p.2.e, I p.2.v, I p.2.to, I p.2.el]).flatten) (hl : len = bs.length) : Frz 0 H nx (.ref id s 0 len) (bksA bs) := by
  have key : ∀ (xs : List AV) (bs : List Bk), xs.length = bs.length → (∀ i < bs.length, Frz 0 H nx (xs.getD i .dead) (inA (bs.getD i default).ins)) → FrzLL 0 H nx ((xs.zip bs).map fun p => [p.1, I p.2.e, I p.2.v, I p.2.to, I p.2.el]) (bs.map bkL) := by
    intro xs
    induction xs with
    | nil => intro bs h _; cases bs with
      | nil => rfl
      | cons b bs => simp at h
    | cons x xs ih => intro bs h hf; cases bs with
      | nil => simp at h
      | cons b bs =>
        refine ⟨_, _, rfl, ⟨_, _, rfl, hf 0 (by simp), _, _, rfl, Frz.pure rfl, _, _, rfl, Frz.pure rfl, _, _, rfl, Frz.pure rfl, _, _, rfl, Frz.pure rfl, rfl⟩, ih bs (by simpa using h) fun i hi => ?_⟩
        have := hf (i + 1) (by simp; omega)
        simpa using this
  have h := Frz.refT (n := 0) (nx := nx) (len := len) (zss := bs.map bkL) (Nat.zero_le _) ho hs hz hcs (by intro l hl; obtain ⟨p, _, rfl⟩ := List.mem_map.1 hl; rfl) (by rw [List.length_map, List.length_zip, hx, Nat.min_self]; exact hl) (key xs bs hx hf)
  rw [List.map_map] at h
  exact h
end Go.Proofs.Ytncjbipnkdlkoaa
namespace Go.Proofs.Ytncjbipnkdlkoaa
set_option linter.unusedSimpArgs false
set_option linter.unusedVariables false
set_option maxRecDepth 10000
open Go.V
theorem virt_at {env : List (Nat × AV)} {H : List VObj} {nx i : Nat} {ob : VObj} {cs' : List AV} (ty sz : Nat) (hsz : sz ≠ 0) (he : ∀ p ∈ env, get env p.1 = p.2) (ho : H[i]? = some ob) (hz : ob.sz ≠ 0) (hl : ob.cs.length = cs'.length)
    (hc : ∀ (j : Nat) x y, ob.cs[j]? = some x → cs'[j]? = some y → x = y ∨ (x = .val (.slice none 0 0) ∧ y = .ref H.length nx 0 0)) : Wk ⟨env, H, nx⟩ ⟨env, H.set i ⟨ob.s, ob.ty, ob.sz, cs'⟩ ++ [⟨nx, ty, sz, []⟩], nx + 1⟩ := by
  refine Wk.virt ty sz hsz (fun p hp => .inl (he p hp)) ⟨H.set i ⟨ob.s, ob.ty, ob.sz, cs'⟩, rfl, by simp, fun j ob' h => ?_⟩ rfl
  rw [List.getElem?_set] at h
  by_cases e : i = j
  · subst e
    rw [if_pos rfl, if_pos (List.getElem?_eq_some_iff.1 ho).1] at h
    cases h
    exact ⟨ob, ho, rfl, rfl, rfl, hl, fun h => absurd h hz, hc⟩
  · rw [if_neg e] at h
    exact ⟨ob', h, rfl, rfl, rfl, rfl, fun _ => rfl, fun _ x y hx hy => .inl (by rw [hx] at hy; exact Option.some.inj hy)⟩
end Go.Proofs.Ytncjbipnkdlkoaa
namespace Go.Proofs.Ytncjbipnkdlkoaa
set_option linter.unusedSimpArgs false
set_option linter.unusedVariables false
set_option maxRecDepth 10000
open Go.V
def szI (f : BF) (k : Nat) : Int := (f.bks.length : Int) + ((f.bks.take k).map fun b => (b.ins.length : Int)).sum
theorem szI_step (f : BF) {k : Nat} (h : k < f.bks.length) : szI f (k + 1) = szI f k + (f.bks.getD k default).ins.length := by
  unfold szI
  have e : f.bks.take (k + 1) = f.bks.take k ++ [f.bks.getD k default] := by rw [List.take_add_one]; simp [List.getD, List.getElem?_eq_getElem h]
  rw [e]; simp; omega
theorem szI_mono (f : BF) : ∀ {k j : Nat}, k ≤ j → szI f k ≤ szI f j := by
  intro k j h
  induction h with
  | refl => exact Int.le_refl _
  | step h ih =>
    rename_i j
    by_cases hj : j < f.bks.length
    · rw [szI_step f hj]; omega
    · have e : f.bks.take (j + 1) = f.bks.take j := by rw [List.take_of_length_le (by omega), List.take_of_length_le (by omega)]
      unfold szI at ih ⊢
      rw [Nat.succ_eq_add_one, e]
      exact ih
theorem szI_le (f : BF) (hF : BfOk f) : ∀ (k : Nat), k ≤ f.bks.length → szI f k ≤ f.bks.length + (k : Int) * 140737488355328 := by
  intro k
  induction k with
  | zero => intro _; simp [szI]
  | succ k ih =>
    intro hk
    rw [szI_step f (by omega)]
    have := ih (by omega)
    have := (hF.bk _ (mem_getD (show k < f.bks.length by omega))).len
    omega
theorem size_c (f : BF) (hF : BfOk f) (hb : f.bks.length ≤ 1000) : Contract Try.prog 21 [bfA f] (fun r => r = I (szI f f.bks.length)) := by
  refine Contract.of_call (VCall.of_body hmix f_scref24_SizeFunc (by simp) ?_)
  simp only [go_sem,Nat.reduceEqDiff,Nat.reduceAdd,Nat.reduceMul,↓reduceIte,↓dreduceIte,reduceCtorEq,Nat.reduceLeDiff,Nat.reduceLT,Nat.reduceSub,Int.reduceToNat,Int.reduceLE,Int.reduceLT, c_scref24_SizeFunc, one_imm, one_ref, List.length_map]
  refine VW_loop (fun k : Nat => ⟨[(1, .ptr 0 0 0), (3, I (szI f k)), (4, I k)], [⟨0, 24, 1, bfL f⟩], 1⟩) (fun k => k ≤ f.bks.length) (fun k => f.bks.length - k) 0 (Wk.mk (by simp [get_cons, szI]) ⟨[], rfl⟩ (Nat.le_refl _)) (Nat.zero_le _) ?_
  intro k hk
  by_cases hlt : k < f.bks.length
  · have hst := szI_step f hlt
    have h1 := szI_le f hF (k + 1) (by omega)
    have h3 : szI f 0 = f.bks.length := by simp [szI]
    have h4 := szI_mono f (Nat.zero_le k)
    have h2 : 0 ≤ szI f k := by omega
    simp only [go_sem,Nat.reduceEqDiff,Nat.reduceAdd,Nat.reduceMul,↓reduceIte,↓dreduceIte,reduceCtorEq,Nat.reduceLeDiff,Nat.reduceLT,Nat.reduceSub,Int.reduceToNat,Int.reduceLE,Int.reduceLT, one_imm, one_ref, List.length_map, eq_true (show (k : Int) < f.bks.length by omega)]
    repeat ((with_reducible refine And.intro ?_ ?_); · omega)
    rw [i64_in (n := (k : Int) + 1) (by omega) (by omega), i64_in (n := szI f k + _) (by omega) (by omega), ← hst]
    exact ⟨k + 1, by omega, by omega, Wk.mk (by simp [get_cons]) ⟨[], rfl⟩ (Nat.le_refl _)⟩
  · obtain rfl : k = f.bks.length := by omega
    simp only [go_sem,Nat.reduceEqDiff,Nat.reduceAdd,Nat.reduceMul,↓reduceIte,↓dreduceIte,reduceCtorEq,Nat.reduceLeDiff,Nat.reduceLT,Nat.reduceSub,Int.reduceToNat,Int.reduceLE,Int.reduceLT, one_imm, one_ref, List.length_map, eq_false (show ¬ (f.bks.length : Int) < f.bks.length by omega)]
    exact ⟨_, Frz.pure rfl, rfl⟩
def small28B (f : BF) : Bool := decide (f.bks.length ≤ 12) && (decide (f.regs ≤ 20) && (decide (szI f f.bks.length ≤ 120) && oneB f 64 2000))
theorem small28_c (f : BF) (hF : BfOk f) : Contract Try.prog 8 [bfA f] (fun r => r = B (small28B f)) := by
  refine Contract.of_call (VCall.of_body hmix f_sclaw28_small (by simp) ?_)
  by_cases h1 : (f.bks.length : Int) ≤ 12
  · by_cases h2 : f.regs ≤ 20
    · simp only [go_sem,Nat.reduceEqDiff,Nat.reduceAdd,Nat.reduceMul,↓reduceIte,↓dreduceIte,reduceCtorEq,Nat.reduceLeDiff,Nat.reduceLT,Nat.reduceSub,Int.reduceToNat,Int.reduceLE,Int.reduceLT, c_sclaw28_small, one_imm, one_ref, List.length_map, eq_true h1, eq_true h2]
      refine VCall.of_contract (size_c f hF (by omega)) (SleL.pure rfl) fun r hr => ?_
      subst hr
      by_cases h3 : szI f f.bks.length ≤ 120
      · simp only [go_sem,Nat.reduceEqDiff,Nat.reduceAdd,Nat.reduceMul,↓reduceIte,↓dreduceIte,reduceCtorEq,Nat.reduceLeDiff,Nat.reduceLT,Nat.reduceSub,Int.reduceToNat,Int.reduceLE,Int.reduceLT, one_imm, one_ref, eq_true h3]
        refine VCall.of_contract (rone_c f 64 2000 (by decide) hF.len (fun b hb => (hF.bk b hb).len)) (SleL.pure rfl) fun r hr => ?_
        subst hr
        simp only [go_sem,Nat.reduceEqDiff,Nat.reduceAdd,Nat.reduceMul,↓reduceIte,↓dreduceIte,reduceCtorEq,Nat.reduceLeDiff,Nat.reduceLT,Nat.reduceSub,Int.reduceToNat,Int.reduceLE,Int.reduceLT, one_imm, one_ref]
        refine ⟨_, Frz.pure rfl, ?_⟩
        unfold small28B
        rw [decide_eq_true h2, decide_eq_true h3, decide_eq_true (show f.bks.length ≤ 12 by omega)]; rfl
      · simp only [go_sem,Nat.reduceEqDiff,Nat.reduceAdd,Nat.reduceMul,↓reduceIte,↓dreduceIte,reduceCtorEq,Nat.reduceLeDiff,Nat.reduceLT,Nat.reduceSub,Int.reduceToNat,Int.reduceLE,Int.reduceLT, one_imm, one_ref, eq_false h3]
        refine ⟨_, Frz.pure rfl, ?_⟩
        unfold small28B
        rw [decide_eq_false h3]; simp
    · simp only [go_sem,Nat.reduceEqDiff,Nat.reduceAdd,Nat.reduceMul,↓reduceIte,↓dreduceIte,reduceCtorEq,Nat.reduceLeDiff,Nat.reduceLT,Nat.reduceSub,Int.reduceToNat,Int.reduceLE,Int.reduceLT, c_sclaw28_small, one_imm, one_ref, List.length_map, eq_true h1, eq_false h2]
      refine ⟨_, Frz.pure rfl, ?_⟩
      unfold small28B
      rw [decide_eq_false h2]; simp
  · simp only [go_sem,Nat.reduceEqDiff,Nat.reduceAdd,Nat.reduceMul,↓reduceIte,↓dreduceIte,reduceCtorEq,Nat.reduceLeDiff,Nat.reduceLT,Nat.reduceSub,Int.reduceToNat,Int.reduceLE,Int.reduceLT, c_sclaw28_small, one_imm, one_ref, List.length_map, eq_false h1]
    refine ⟨_, Frz.pure rfl, ?_⟩
    unfold small28B
    rw [decide_eq_false (show ¬ f.bks.length ≤ 12 by omega)]; rfl
theorem small28_fine {f : BF} (h : small28B f = true) : Fine f ∧ f.bks.length ≤ 12 ∧ f.regs ≤ 20 ∧ oneB f 64 2000 = true ∧ ∀ b ∈ f.bks, b.ins.length ≤ 120 := by
  unfold small28B at h
  simp only [Bool.and_eq_true, decide_eq_true_eq] at h
  obtain ⟨h1, h2, h3, h4⟩ := h
  have hins : ∀ b ∈ f.bks, b.ins.length ≤ 120 := fun b hb => by
    obtain ⟨k, hk, e⟩ := List.getElem_of_mem hb
    have g1 := szI_step f hk
    have g2 := szI_mono f (Nat.zero_le k)
    have g3 := szI_mono f (show k + 1 ≤ f.bks.length by omega)
    have h0 : szI f 0 = f.bks.length := by simp [szI]
    have : f.bks.getD k default = b := by simp [List.getD, List.getElem?_eq_getElem hk, e]
    rw [this] at g1
    omega
  exact ⟨one_fine h4 (by omega) (fun b hb => by have := hins b hb; omega), h1, h2, h4, hins⟩
end Go.Proofs.Ytncjbipnkdlkoaa
namespace Go.Proofs.Ytncjbipnkdlkoaa
set_option linter.unusedSimpArgs false
set_option linter.unusedVariables false
set_option maxRecDepth 10000
open Go.V
end Go.Proofs.Ytncjbipnkdlkoaa
