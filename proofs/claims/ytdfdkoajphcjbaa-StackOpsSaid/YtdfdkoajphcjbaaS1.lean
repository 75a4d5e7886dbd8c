/-
  Stack code and its machine as data: a program, a state, a step, and when a step is defined. No condition.
-/
import Derived.Test.YtdfdkoajphcjbaaMN
namespace Go.Proofs.Ytdfdkoajphcjbaa
set_option linter.unusedSimpArgs false
set_option linter.unusedVariables false
open Go.V

structure SI where
  op : Int
  a : Int
  b : Int
  n : Int
deriving Inhabited
structure SF where
  params : Int
  slots : Int
  first : Int
  word : Bool
  code : List SI
deriving Inhabited
structure SP where
  words : Int
  funcs : List SF
abbrev siA (x : SI) : AV := .agg [I x.op, I x.a, I x.b, U32 x.n]
abbrev sfA (x : SF) : AV := .agg [I x.params, I x.slots, I x.first, B x.word, .imm 4 (x.code.map siA)]
abbrev fnsA (l : List SF) : AV := .imm 5 (l.map sfA)
abbrev spA (s : SP) : AV := .agg [I s.words, fnsA s.funcs]

/-- A call in the midst: its function, the next place, what lies on its stack, the top first. -/
structure Fm where
  f : Nat
  at_ : Nat
  L : List Int
deriving Inhabited
/-- A run in the midst: the call that is done, those that wait for it, the nearest first. -/
structure SM where
  mem : List Int
  rd : Nat
  out : List UInt8
  steps : Nat
  fin : Int
  top : Fm
  below : List Fm

def SP.fn (s : SP) (f : Nat) : SF := s.funcs.getD f default
def SP.ins (s : SP) (f k : Nat) : SI := (s.fn f).code.getD k default
def cntB (b : Bool) : Nat := if b then 1 else 0
def byteS (r : Int) : UInt8 := UInt8.ofNat (IntKind.u8.wrap r).toNat


def SM.setL (σ : SM) (l : List Int) : SM := { σ with top := { σ.top with L := l } }
def SM.jump (σ : SM) (a : Int) : SM := { σ with top := { σ.top with at_ := a.toNat } }
def SM.next (σ : SM) : SM := { σ with top := { σ.top with at_ := σ.top.at_ + 1 }, steps := σ.steps + 1 }
/-- A function's words as it begins: its arguments, and 0. -/
def ownW (g : SF) (L : List Int) : List Int := (L.take g.params.toNat).reverse ++ List.replicate (g.slots.toNat - g.params.toNat) 0
/-- Some words' new values. -/
def putR (m : List Int) (k : Nat) (l : List Int) : List Int := m.take k ++ l ++ m.drop (k + l.length)
def SM.call (s : SP) (σ : SM) (a : Int) : SM :=
  { σ with mem := putR σ.mem (s.fn a.toNat).first.toNat (ownW (s.fn a.toNat) σ.top.L), top := ⟨a.toNat, 0, []⟩, below := { σ.top with L := σ.top.L.drop (s.fn a.toNat).params.toNat } :: σ.below }
def SM.ret (s : SP) (σ : SM) : SM :=
  match σ.below with
  | [] => { σ with fin := 1 }
  | c :: rest => { σ with top := { c with L := (if (s.fn σ.top.f).word then [σ.top.L.headD 0] else []) ++ c.L }, below := rest }

/-- What an instruction does. -/
def stepI (s : SP) (inp : ByteArray) (x : SI) (σ : SM) : SM :=
  if x.op = 1 then σ.setL (x.n :: σ.top.L)
  else if x.op = 2 then σ.setL (σ.mem.getD x.a.toNat default :: σ.top.L)
  else if x.op = 3 then { σ.setL σ.top.L.tail with mem := σ.mem.set x.a.toNat (σ.top.L.headD 0) }
  else if x.op = 4 then (if σ.top.L.headD 0 < x.b then σ.setL (σ.mem.getD (x.a + σ.top.L.headD 0).toNat default :: σ.top.L.tail) else { σ with fin := 3 })
  else if x.op = 5 then (if σ.top.L.tail.headD 0 < x.b then { σ.setL σ.top.L.tail.tail with mem := σ.mem.set (x.a + σ.top.L.tail.headD 0).toNat (σ.top.L.headD 0) } else { σ with fin := 3 })
  else if x.op = 6 then (if (applyW x.a (σ.top.L.tail.headD 0) (σ.top.L.headD 0)).2 = 0 then σ.setL ((applyW x.a (σ.top.L.tail.headD 0) (σ.top.L.headD 0)).1 :: σ.top.L.tail.tail) else { σ with fin := 2 })
  else if x.op = 7 then σ.setL ((if σ.top.L.headD 0 = 0 then 1 else 0) :: σ.top.L.tail)
  else if x.op = 8 then σ.jump x.a
  else if x.op = 9 then (if σ.top.L.headD 0 = 0 then (σ.setL σ.top.L.tail).jump x.a else σ.setL σ.top.L.tail)
  else if x.op = 10 then σ.call s x.a
  else if x.op = 11 then σ.ret s
  else if x.op = 12 then (if σ.rd < inp.size then { σ.setL (byteAt inp σ.rd :: σ.top.L) with rd := σ.rd + 1 } else σ.setL (256 :: σ.top.L))
  else { σ.setL σ.top.L.tail with out := σ.out ++ [byteS (σ.top.L.headD 0)] }
def stepS (s : SP) (inp : ByteArray) (σ : SM) : SM := if σ.fin = 0 then stepI s inp (s.ins σ.top.f σ.top.at_) σ.next else σ
def runS (s : SP) (inp : ByteArray) (σ : SM) : Nat → SM
  | 0 => σ
  | k + 1 => stepS s inp (runS s inp σ k)
def startS (s : SP) : SM := ⟨List.replicate s.words.toNat 0, 0, [], 0, 0, ⟨s.funcs.length - 1, 0, []⟩, []⟩

/-- May a function be called, with that many words, and that many values on the stack? -/
structure CallOK (g : SF) (mem deep : Nat) : Prop where
  p0 : 0 ≤ g.params
  ps : g.params ≤ g.slots
  f0 : 0 ≤ g.first
  fs : g.first + g.slots ≤ mem
  deep : g.params ≤ deep

/-- Is an instruction defined in a state? -/
def OkI (s : SP) (σ : SM) (x : SI) : Prop :=
  x.op = 1 ∨ (x.op = 2 ∧ 0 ≤ x.a ∧ x.a < σ.mem.length) ∨ (x.op = 3 ∧ 0 ≤ x.a ∧ x.a < σ.mem.length ∧ 1 ≤ σ.top.L.length)
  ∨ (x.op = 4 ∧ 0 ≤ x.a ∧ 0 ≤ x.b ∧ x.a + x.b ≤ σ.mem.length ∧ 1 ≤ σ.top.L.length) ∨ (x.op = 5 ∧ 0 ≤ x.a ∧ 0 ≤ x.b ∧ x.a + x.b ≤ σ.mem.length ∧ 2 ≤ σ.top.L.length)
  ∨ (x.op = 6 ∧ 2 ≤ σ.top.L.length) ∨ (x.op = 7 ∧ 1 ≤ σ.top.L.length) ∨ (x.op = 8 ∧ 0 ≤ x.a) ∨ (x.op = 9 ∧ 0 ≤ x.a ∧ 1 ≤ σ.top.L.length)
  ∨ (x.op = 10 ∧ 0 ≤ x.a ∧ x.a < s.funcs.length ∧ CallOK (s.fn x.a.toNat) σ.mem.length σ.top.L.length)
  ∨ (x.op = 11 ∧ σ.top.L.length = cntB (s.fn σ.top.f).word) ∨ x.op = 12 ∨ (x.op = 13 ∧ 1 ≤ σ.top.L.length)
/-- Is the next step defined? -/
structure Good (s : SP) (σ : SM) : Prop where
  f : σ.top.f < s.funcs.length
  k : σ.top.at_ < (s.fn σ.top.f).code.length
  ok : OkI s σ (s.ins σ.top.f σ.top.at_)
/-- Its numbers are words. -/
structure WfS (σ : SM) : Prop where
  mem : ∀ v ∈ σ.mem, In32 v
  top : ∀ v ∈ σ.top.L, In32 v
  below : ∀ c ∈ σ.below, ∀ v ∈ c.L, In32 v

theorem In32.zero : In32 0 := ⟨by decide, by decide⟩
theorem applyW_ok {op a b : Int} (ha : In32 a) (hb : In32 b) : In32 (applyW op a b).1 := by
  have h1 : In32 1 := ⟨by decide, by decide⟩
  unfold applyW
  by_cases e : op = 4
  · rw [if_pos e]; exact w32_ok _
  rw [if_neg e]; clear e
  by_cases e : op = 5
  · rw [if_pos e]; exact w32_ok _
  rw [if_neg e]; clear e
  by_cases e : op = 6
  · rw [if_pos e]; exact w32_ok _
  rw [if_neg e]; clear e
  by_cases e : op = 7
  · rw [if_pos e]; split
    · exact In32.zero
    · exact w32_ok _
  rw [if_neg e]; clear e
  by_cases e : op = 8
  · rw [if_pos e]; split
    · exact In32.zero
    · obtain ⟨q1, q2⟩ := ha
      obtain ⟨q3, q4⟩ := hb
      rename_i h0
      show In32 (a.tmod b)
      rw [Int.tmod_eq_emod_of_nonneg q1]
      exact ⟨Int.emod_nonneg _ h0, by have := Int.emod_lt_of_pos a (b := b) (by omega); omega⟩
  rw [if_neg e]; clear e
  by_cases e : op = 9
  · rw [if_pos e]; exact w32_ok _
  rw [if_neg e]; clear e
  by_cases e : op = 10
  · rw [if_pos e]; exact w32_ok _
  rw [if_neg e]; clear e
  by_cases e : op = 11
  · rw [if_pos e]; exact w32_ok _
  rw [if_neg e]; clear e
  by_cases e : op = 12
  · rw [if_pos e]
    show In32 (if 31 < b then 0 else shlW a b)
    split
    · exact In32.zero
    · exact w32_ok _
  rw [if_neg e]; clear e
  by_cases e : op = 13
  · rw [if_pos e]
    show In32 (if 31 < b then 0 else shrW a b)
    split
    · exact In32.zero
    · rename_i h31
      have hb0 := hb.1
      rw [show b = ((b.toNat : Nat) : Int) by omega, shrW_eq ha _ (by omega)]
      obtain ⟨q1, q2⟩ := ha
      refine ⟨Int.natCast_nonneg _, ?_⟩
      have := Nat.div_le_self a.toNat (2 ^ b.toNat)
      refine Int.lt_of_le_of_lt (Int.ofNat_le.2 this) ?_
      omega
  rw [if_neg e]; clear e
  by_cases e : op = 14
  · rw [if_pos e]
    show In32 (if a < b then 1 else 0)
    split
    · exact h1
    · exact In32.zero
  rw [if_neg e]; clear e
  by_cases e : op = 15
  · rw [if_pos e]
    show In32 (if a = b then 1 else 0)
    split
    · exact h1
    · exact In32.zero
  rw [if_neg e]; exact In32.zero

theorem getD_of {p : Int → Prop} {l : List Int} {k : Nat} (h : ∀ v ∈ l, p v) (h0 : p default) : p (l.getD k default) := by
  rw [List.getD]
  cases hk : l[k]? with
  | none => exact h0
  | some x => exact h x (List.mem_of_getElem? hk)
theorem headD_of {p : Int → Prop} {l : List Int} (h : ∀ v ∈ l, p v) (h0 : p 0) : p (l.headD 0) := by
  cases l with
  | nil => exact h0
  | cons x l => exact h x (by simp)
theorem tail_of {p : Int → Prop} {l : List Int} (h : ∀ v ∈ l, p v) : ∀ v ∈ l.tail, p v := fun v hv => h v (List.mem_of_mem_tail hv)
theorem set_of {p : Int → Prop} {l : List Int} {k : Nat} {x : Int} (h : ∀ v ∈ l, p v) (hx : p x) : ∀ v ∈ l.set k x, p v := fun v hv => by
  rcases List.mem_or_eq_of_mem_set hv with h1 | h1
  · exact h v h1
  · rw [h1]; exact hx
theorem cons_of {p : Int → Prop} {l : List Int} {x : Int} (h : ∀ v ∈ l, p v) (hx : p x) : ∀ v ∈ x :: l, p v := fun v hv => by
  rcases List.mem_cons.1 hv with rfl | hv
  · exact hx
  · exact h v hv
theorem ownW_of {p : Int → Prop} {g : SF} {L : List Int} (h : ∀ v ∈ L, p v) (h0 : p 0) : ∀ v ∈ ownW g L, p v := fun v hv => by
  rcases List.mem_append.1 hv with hv | hv
  · exact h v (List.mem_of_mem_take (List.mem_reverse.1 hv))
  · rw [(List.mem_replicate.1 hv).2]; exact h0
theorem putR_of {p : Int → Prop} {m l : List Int} {k : Nat} (h : ∀ v ∈ m, p v) (hl : ∀ v ∈ l, p v) : ∀ v ∈ putR m k l, p v := fun v hv => by
  rcases List.mem_append.1 hv with hv | hv
  · rcases List.mem_append.1 hv with hv | hv
    · exact h v (List.mem_of_mem_take hv)
    · exact hl v hv
  · exact h v (List.mem_of_mem_drop hv)
theorem ownW_length {g : SF} {m d : Nat} {L : List Int} (h : CallOK g m d) (hd : d = L.length) : (ownW g L).length = g.slots.toNat := by
  obtain ⟨h1, h2, h3, h4, h5⟩ := h
  subst hd
  simp only [ownW, List.length_append, List.length_reverse, List.length_take, List.length_replicate]
  omega
theorem putR_length {m l : List Int} {k : Nat} (h : k + l.length ≤ m.length) : (putR m k l).length = m.length := by
  simp only [putR, List.length_append, List.length_take, List.length_drop]; omega

theorem stepI_wf {s : SP} {inp : ByteArray} {x : SI} {σ : SM} (hn : In32 x.n) (h : WfS σ) (hg : OkI s σ x) : WfS (stepI s inp x σ) ∧ (stepI s inp x σ).mem.length = σ.mem.length ∧ (stepI s inp x σ).steps = σ.steps ∧
    ((stepI s inp x σ).out = σ.out ∨ ∃ b, (stepI s inp x σ).out = σ.out ++ [b]) := by
  have hh := headD_of h.top In32.zero
  have ht := tail_of h.top
  have hh2 := headD_of ht In32.zero
  have ht2 := tail_of ht
  have hL : ∀ l, (∀ v ∈ l, In32 v) → WfS (σ.setL l) := fun l hl => ⟨h.mem, hl, h.below⟩
  have hg0 : ∀ k, In32 (σ.mem.getD k default) := fun k => getD_of h.mem In32.zero
  rcases hg with e | ⟨e, hg⟩ | ⟨e, hg⟩ | ⟨e, hg⟩ | ⟨e, hg⟩ | ⟨e, hg⟩ | ⟨e, hg⟩ | ⟨e, hg⟩ | ⟨e, hg⟩ | ⟨e, h1, h2, hg⟩ | ⟨e, hg⟩ | e | ⟨e, hg⟩
  all_goals simp only [stepI, e, Int.reduceEq, if_true, if_false]
  · exact ⟨hL _ (cons_of h.top hn), rfl, rfl, .inl rfl⟩
  · exact ⟨hL _ (cons_of h.top (hg0 _)), rfl, rfl, .inl rfl⟩
  · exact ⟨⟨set_of h.mem hh, ht, h.below⟩, by simp, rfl, .inl rfl⟩
  · split
    · exact ⟨hL _ (cons_of ht (hg0 _)), rfl, rfl, .inl rfl⟩
    · exact ⟨⟨h.mem, h.top, h.below⟩, rfl, rfl, .inl rfl⟩
  · split
    · exact ⟨⟨set_of h.mem hh, ht2, h.below⟩, by simp, rfl, .inl rfl⟩
    · exact ⟨⟨h.mem, h.top, h.below⟩, rfl, rfl, .inl rfl⟩
  · split
    · exact ⟨hL _ (cons_of ht2 (applyW_ok hh2 hh)), rfl, rfl, .inl rfl⟩
    · exact ⟨⟨h.mem, h.top, h.below⟩, rfl, rfl, .inl rfl⟩
  · refine ⟨hL _ (cons_of ht ?_), rfl, rfl, .inl rfl⟩
    split
    · exact ⟨by decide, by decide⟩
    · exact In32.zero
  · exact ⟨⟨h.mem, h.top, h.below⟩, rfl, rfl, .inl rfl⟩
  · split
    · exact ⟨⟨h.mem, ht, h.below⟩, rfl, rfl, .inl rfl⟩
    · exact ⟨hL _ ht, rfl, rfl, .inl rfl⟩
  · refine ⟨⟨putR_of h.mem (ownW_of h.top In32.zero), by simp [SM.call], fun c hc => ?_⟩, ?_, rfl, .inl rfl⟩
    · rcases List.mem_cons.1 hc with rfl | hc
      · exact fun v hv => h.top v (List.mem_of_mem_drop hv)
      · exact h.below c hc
    · refine putR_length ?_
      rw [ownW_length hg rfl]
      have := hg.fs; have := hg.f0; have := hg.p0; have := hg.ps
      omega
  · unfold SM.ret
    split
    · exact ⟨⟨h.mem, h.top, h.below⟩, rfl, rfl, .inl rfl⟩
    · rename_i c rest hc
      refine ⟨⟨h.mem, fun v hv => ?_, fun d hd => h.below d (by rw [hc]; exact List.mem_cons_of_mem _ hd)⟩, rfl, rfl, .inl rfl⟩
      rcases List.mem_append.1 hv with hv | hv
      · split at hv
        · rw [List.mem_singleton.1 hv]; exact hh
        · cases hv
      · exact h.below c (by rw [hc]; simp) v hv
  · split
    · refine ⟨⟨h.mem, cons_of h.top ?_, h.below⟩, rfl, rfl, .inl rfl⟩
      unfold byteAt
      have := (inp.data.toList.getD σ.rd 0).toNat_lt
      exact ⟨by omega, by omega⟩
    · exact ⟨hL _ (cons_of h.top ⟨by decide, by decide⟩), rfl, rfl, .inl rfl⟩
  · exact ⟨⟨h.mem, ht, h.below⟩, rfl, rfl, .inr ⟨_, rfl⟩⟩
theorem startS_wf (s : SP) : WfS (startS s) := ⟨fun v hv => by rw [(List.mem_replicate.1 hv).2]; exact In32.zero, by simp [startS], by simp [startS]⟩

/-- A program whose numbers are words. -/
def WfP (s : SP) : Prop := ∀ g ∈ s.funcs, ∀ x ∈ g.code, In32 x.n
theorem ins_wf {s : SP} (h : WfP s) {f k : Nat} (hf : f < s.funcs.length) (hk : k < (s.fn f).code.length) : In32 (s.ins f k).n := by
  have h1 : s.fn f ∈ s.funcs := by
    unfold SP.fn; rw [List.getD, List.getElem?_eq_getElem hf]; exact List.getElem_mem hf
  have h2 : s.ins f k ∈ (s.fn f).code := by
    unfold SP.ins; rw [List.getD, List.getElem?_eq_getElem hk]; exact List.getElem_mem hk
  exact h _ h1 _ h2

theorem stepS_wf {s : SP} {inp : ByteArray} {σ : SM} (hp : WfP s) (h : WfS σ) (hg : Good s σ) : WfS (stepS s inp σ) ∧ (stepS s inp σ).mem.length = σ.mem.length ∧
    ((stepS s inp σ).steps ≤ σ.steps + 1) ∧ (stepS s inp σ).out.length ≤ σ.out.length + 1 := by
  unfold stepS
  split
  · have h1 : WfS σ.next := ⟨h.mem, h.top, h.below⟩
    have h2 : OkI s σ.next (s.ins σ.top.f σ.top.at_) := hg.ok
    obtain ⟨g1, g2, g3, g4⟩ := stepI_wf (inp := inp) (ins_wf hp hg.f hg.k) h1 h2
    refine ⟨g1, g2, by rw [g3]; exact Nat.le_refl _, ?_⟩
    rcases g4 with g4 | ⟨b, g4⟩ <;> rw [g4] <;> simp [SM.next]
  · exact ⟨h, rfl, by omega, by omega⟩
end Go.Proofs.Ytdfdkoajphcjbaa
