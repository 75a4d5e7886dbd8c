/-
  What matters, plainly: rows of truths, what an instruction makes of one, closed tables, the least one. No condition.
-/
import Derived.Test.YtjdeediehmhdoaaB1
namespace Go.Proofs.Ytjdeediehmhdoaa
set_option linter.unusedSimpArgs false
set_option linter.unusedVariables false
open Go.V

abbrev rowsA (m : List (List Bool)) : AV := .imm 1 (m.map bools)
structure LD where
  inn : List (List Bool)
  out : List (List Bool)
deriving Inhabited
abbrev liveA (L : LD) : AV := .agg [rowsA L.inn, rowsA L.out]

def gB (l : List Bool) (v : Nat) : Bool := l.getD v false
def LD.I (L : LD) (b v : Nat) : Bool := gB (L.inn.getD b []) v
def LD.O (L : LD) (b v : Nat) : Bool := gB (L.out.getD b []) v

def clearL (t : Tac) (l : List Bool) : List Bool := if 0 ≤ setsL t then l.set (setsL t).toNat false else l
def useL (l : List Bool) (us : List Int) : List Bool := us.foldl (fun l u => l.set u.toNat true) l
def backL (t : Tac) (l : List Bool) : List Bool := useL (clearL t l) (usesL t)
def lastL (b : Bk) (l : List Bool) : List Bool := if b.e = 2 then l.set b.v.toNat true else l
def thruL (ins : List Tac) (l : List Bool) : List Bool := ins.foldr backL l
def aheadL (b : Bk) (l : List Bool) : List Bool := thruL b.ins (lastL b l)
def behindL (b : Bk) (l : List Bool) : List (List Bool) := (List.range b.ins.length).map fun i => thruL (b.ins.drop (i + 1)) (lastL b l)

theorem useL_len : ∀ (us : List Int) (l : List Bool), (useL l us).length = l.length
  | [], _ => rfl
  | u :: us, l => by simp only [useL, List.foldl_cons]; rw [← useL, useL_len us]; simp
theorem clearL_len (t : Tac) (l : List Bool) : (clearL t l).length = l.length := by unfold clearL; split <;> simp
theorem backL_len (t : Tac) (l : List Bool) : (backL t l).length = l.length := by unfold backL; rw [useL_len, clearL_len]
theorem lastL_len (b : Bk) (l : List Bool) : (lastL b l).length = l.length := by unfold lastL; split <;> simp
theorem thruL_len : ∀ (ins : List Tac) (l : List Bool), (thruL ins l).length = l.length
  | [], _ => rfl
  | t :: ins, l => by show (backL t (thruL ins l)).length = _; rw [backL_len, thruL_len ins]
theorem aheadL_len (b : Bk) (l : List Bool) : (aheadL b l).length = l.length := by unfold aheadL; rw [thruL_len, lastL_len]

theorem gB_set (l : List Bool) (i v : Nat) (x : Bool) (hv : v < l.length) : gB (l.set i x) v = if i = v then x else gB l v := by
  unfold gB
  rw [List.getD, List.getElem?_set]
  by_cases h : i = v
  · subst h; simp [hv]
  · rw [if_neg h, if_neg h]; rfl
theorem gB_le {l : List Bool} {v : Nat} (h : gB l v = true) : v < l.length := by
  unfold gB at h
  rcases Nat.lt_or_ge v l.length with h1 | h1
  · exact h1
  · rw [List.getD, List.getElem?_eq_none h1] at h; simp at h
theorem gB_ext {a b : List Bool} (hl : a.length = b.length) (h : ∀ v < a.length, gB a v = gB b v) : a = b := by
  refine List.ext_getElem hl fun i h1 h2 => ?_
  have := h i h1
  simp only [gB, List.getD, List.getElem?_eq_getElem h1, List.getElem?_eq_getElem h2, Option.getD_some] at this
  exact this

/-- What an instruction makes of one register's truth. -/
def bk1 (t : Tac) (v : Nat) (x : Bool) : Bool := if (v : Int) ∈ usesL t then true else if setsL t = (v : Int) then false else x
def last1 (b : Bk) (v : Nat) (x : Bool) : Bool := if b.e = 2 ∧ b.v = (v : Int) then true else x
def thru1 (ins : List Tac) (v : Nat) (x : Bool) : Bool := ins.foldr (fun t x => bk1 t v x) x

theorem gB_use : ∀ (us : List Int) (l : List Bool) (v : Nat), (∀ u ∈ us, 0 ≤ u) → v < l.length → gB (useL l us) v = if (v : Int) ∈ us then true else gB l v
  | [], l, v, _, _ => by simp [useL]
  | u :: us, l, v, hu, hv => by
    simp only [useL, List.foldl_cons]
    rw [← useL, gB_use us _ v (fun w hw => hu w (by simp [hw])) (by simpa using hv), gB_set _ _ _ _ hv]
    have h0 := hu u (by simp)
    by_cases h1 : (v : Int) ∈ us
    · simp [h1]
    · by_cases h2 : (v : Int) = u
      · rw [if_neg h1, if_pos (by omega), if_pos (by simp [h2])]
      · rw [if_neg h1, if_neg (by omega), if_neg (by simp [h1, h2])]

/-- Registers of an instruction, of a block's end, lie within. -/
def RegT (t : Tac) (n : Int) : Prop := (∀ u ∈ usesL t, 0 ≤ u ∧ u < n) ∧ (SetsT t → 0 ≤ t.d ∧ t.d < n)
theorem RegT.sets {t : Tac} {n : Int} (h : RegT t n) : setsL t = -1 ∨ (0 ≤ setsL t ∧ setsL t < n) := by
  unfold setsL; split
  · rename_i h1; exact .inr (h.2 h1)
  · exact .inl rfl
theorem gB_back (t : Tac) (l : List Bool) (v : Nat) (hr : RegT t l.length) (hv : v < l.length) : gB (backL t l) v = bk1 t v (gB l v) := by
  unfold backL bk1
  rw [gB_use _ _ _ (fun u hu => (hr.1 u hu).1) (by rw [clearL_len]; exact hv)]
  congr 1
  unfold clearL
  rcases hr.sets with h | ⟨h, _⟩
  · rw [h, if_neg (by omega), if_neg (by omega)]
  · rw [if_pos h, gB_set _ _ _ _ hv]
    by_cases h2 : setsL t = (v : Int)
    · rw [if_pos (by omega), if_pos h2]
    · rw [if_neg (by omega), if_neg h2]
theorem gB_thru : ∀ (ins : List Tac) (l : List Bool) (v : Nat), (∀ t ∈ ins, RegT t l.length) → v < l.length → gB (thruL ins l) v = thru1 ins v (gB l v)
  | [], _, _, _, _ => rfl
  | t :: ins, l, v, hr, hv => by
    show gB (backL t (thruL ins l)) v = bk1 t v (thru1 ins v (gB l v))
    rw [gB_back _ _ _ (by rw [thruL_len]; exact hr t (by simp)) (by rw [thruL_len]; exact hv), gB_thru ins l v (fun t ht => hr t (by simp [ht])) hv]
theorem gB_last (b : Bk) (l : List Bool) (v : Nat) (hb : b.e = 2 → 0 ≤ b.v) (hv : v < l.length) : gB (lastL b l) v = last1 b v (gB l v) := by
  unfold lastL last1
  by_cases h : b.e = 2
  · have := hb h
    rw [if_pos h, gB_set _ _ _ _ hv]
    by_cases h2 : b.v = (v : Int)
    · rw [if_pos (by omega), if_pos ⟨h, h2⟩]
    · rw [if_neg (by omega), if_neg (fun e => h2 e.2)]
  · rw [if_neg h, if_neg (fun e => h e.1)]

/-- What follows a block. -/
def nxt (b : Bk) : List Int := if b.e = 1 then [b.to] else if b.e = 2 then [b.to, b.el] else []
theorem nxt_len (b : Bk) : (nxt b).length ≤ 2 := by unfold nxt; split; simp; split <;> simp

/-- A function whose parts lie within. -/
structure Fine (f : BF) : Prop where
  r0 : 0 ≤ f.regs
  r1 : f.regs ≤ 4000
  b0 : f.bks ≠ []
  b1 : f.bks.length ≤ 500
  ins : ∀ b ∈ f.bks, ∀ t ∈ b.ins, RegT t f.regs
  len : ∀ b ∈ f.bks, b.ins.length ≤ 1000
  v : ∀ b ∈ f.bks, b.e = 2 → 0 ≤ b.v ∧ b.v < f.regs
  to : ∀ b ∈ f.bks, ∀ k ∈ nxt b, 0 ≤ k ∧ k < f.bks.length

def BF.n (f : BF) : Nat := f.bks.length
def BF.r (f : BF) : Nat := f.regs.toNat
def BF.bk (f : BF) (b : Nat) : Bk := f.bks.getD b default
theorem BF.mem {f : BF} {b : Nat} (h : b < f.n) : f.bk b ∈ f.bks := mem_getD h
/-- What one register's truth ahead of a block is, of that behind it. -/
def ahead1 (b : Bk) (v : Nat) (x : Bool) : Bool := thru1 b.ins v (last1 b v x)
theorem gB_ahead {f : BF} (hf : Fine f) {b : Nat} (hb : b < f.n) (l : List Bool) (hl : l.length = f.r) {v : Nat} (hv : v < f.r) : gB (aheadL (f.bk b) l) v = ahead1 (f.bk b) v (gB l v) := by
  have hr0 := hf.r0
  have hm := BF.mem hb
  have hlr : (l.length : Int) = f.regs := by rw [hl]; unfold BF.r; omega
  unfold aheadL ahead1
  rw [gB_thru _ _ _ (fun t ht => by rw [lastL_len, hlr]; exact hf.ins _ hm t ht) (by rw [lastL_len, hl]; exact hv), gB_last _ _ _ (fun h => (hf.v _ hm h).1) (by rw [hl]; exact hv)]

/-- A truth's function that is one of three. -/
def Tri (g : Bool → Bool) : Prop := (∀ x, g x = true) ∨ (∀ x, g x = false) ∨ (∀ x, g x = x)
theorem Tri.id : Tri fun x => x := .inr (.inr fun _ => rfl)
theorem Tri.comp {g h : Bool → Bool} (hg : Tri g) (hh : Tri h) : Tri fun x => g (h x) := by
  rcases hg with h1 | h1 | h1
  · exact .inl fun x => h1 _
  · exact .inr (.inl fun x => h1 _)
  · rcases hh with h2 | h2 | h2
    · exact .inl fun x => by simp only [h1, h2]
    · exact .inr (.inl fun x => by simp only [h1, h2])
    · exact .inr (.inr fun x => by simp only [h1, h2])
theorem Tri.bk1 (t : Tac) (v : Nat) : Tri (bk1 t v) := by
  unfold Go.Proofs.Ytjdeediehmhdoaa.bk1
  by_cases h : (v : Int) ∈ usesL t
  · exact .inl fun x => if_pos h
  · by_cases h2 : setsL t = (v : Int)
    · exact .inr (.inl fun x => by simp only [if_neg h, if_pos h2])
    · exact .inr (.inr fun x => by simp only [if_neg h, if_neg h2])
theorem Tri.thru1 (v : Nat) : ∀ ins, Tri (thru1 ins v)
  | [] => Tri.id
  | t :: ins => (Tri.bk1 t v).comp (Tri.thru1 v ins)
theorem Tri.ahead1 (b : Bk) (v : Nat) : Tri (ahead1 b v) := by
  refine (Tri.thru1 v b.ins).comp ?_
  unfold last1
  by_cases h : b.e = 2 ∧ b.v = (v : Int)
  · exact .inl fun x => if_pos h
  · exact .inr (.inr fun x => if_neg h)
theorem Tri.mono {g : Bool → Bool} (h : Tri g) {x y : Bool} (hxy : x = true → y = true) (hx : g x = true) : g y = true := by
  rcases h with h | h | h
  · exact h y
  · rw [h] at hx; cases hx
  · rw [h] at hx ⊢; exact hxy hx
theorem Tri.or {g : Bool → Bool} (h : Tri g) (x y : Bool) : g (x || y) = (g x || g y) := by
  rcases h with h | h | h <;> simp [h]
theorem Tri.and {g : Bool → Bool} (h : Tri g) (x y : Bool) : g (x && y) = (g x && g y) := by
  rcases h with h | h | h <;> simp [h]

/-- Has it just so many rows of so many? -/
def sizedL (m : List (List Bool)) (n : Int) (r : Int) : Bool := decide ((m.length : Int) = n) && m.all fun l => decide ((l.length : Int) = r)
def sizedB (f : BF) (L : LD) : Bool := sizedL L.inn f.bks.length f.regs && sizedL L.out f.bks.length f.regs
structure SizedP (f : BF) (L : LD) : Prop where
  i : L.inn.length = f.n
  o : L.out.length = f.n
  ir : ∀ l ∈ L.inn, l.length = f.r
  or : ∀ l ∈ L.out, l.length = f.r
theorem sizedB_iff {f : BF} (h0 : 0 ≤ f.regs) (L : LD) : sizedB f L = true ↔ SizedP f L := by
  unfold sizedB sizedL
  simp only [Bool.and_eq_true, decide_eq_true_eq, List.all_eq_true]
  refine ⟨fun ⟨⟨h1, h2⟩, h3, h4⟩ => ⟨by unfold BF.n; omega, by unfold BF.n; omega, fun l hl => ?_, fun l hl => ?_⟩, fun h => ⟨⟨by have := h.i; unfold BF.n at this; omega, fun l hl => ?_⟩, by have := h.o; unfold BF.n at this; omega, fun l hl => ?_⟩⟩
  · have := h2 l hl; unfold BF.r; omega
  · have := h4 l hl; unfold BF.r; omega
  · have := h.ir l hl; unfold BF.r at this; omega
  · have := h.or l hl; unfold BF.r at this; omega

theorem getD_nil {m : List (List Bool)} {b : Nat} (hb : b < m.length) : m.getD b [] ∈ m := by
  rw [List.getD, List.getElem?_eq_getElem hb]; exact List.getElem_mem hb
theorem SizedP.il {f : BF} {L : LD} (h : SizedP f L) {b : Nat} (hb : b < f.n) : (L.inn.getD b []).length = f.r := h.ir _ (getD_nil (by rw [h.i]; exact hb))
theorem SizedP.ol {f : BF} {L : LD} (h : SizedP f L) {b : Nat} (hb : b < f.n) : (L.out.getD b []).length = f.r := h.or _ (getD_nil (by rw [h.o]; exact hb))

/-- Closed, by registers. -/
structure Closed (f : BF) (I O : Nat → Nat → Bool) : Prop where
  way : ∀ b < f.n, ∀ k ∈ nxt (f.bk b), ∀ v < f.r, I k.toNat v = true → O b v = true
  ahead : ∀ b < f.n, ∀ v < f.r, ahead1 (f.bk b) v (O b v) = true → I b v = true
structure ClosedP (f : BF) (L : LD) : Prop where
  sz : SizedP f L
  cl : Closed f L.I L.O

/-- Which registers matter: those that are in all closed tables. -/
def InAll (f : BF) (b v : Nat) : Prop := ∀ I O, Closed f I O → I b v = true
def OutAll (f : BF) (b v : Nat) : Prop := ∀ I O, Closed f I O → O b v = true
structure Least (f : BF) (L : LD) : Prop where
  cl : ClosedP f L
  min : ∀ I O, Closed f I O → ∀ b < f.n, ∀ v < f.r, (L.I b v = true → I b v = true) ∧ (L.O b v = true → O b v = true)

theorem LD.ext {f : BF} {L M : LD} (hL : SizedP f L) (hM : SizedP f M) (hi : ∀ b < f.n, ∀ v < f.r, L.I b v = M.I b v) (ho : ∀ b < f.n, ∀ v < f.r, L.O b v = M.O b v) : L = M := by
  obtain ⟨i, o⟩ := L
  obtain ⟨i', o'⟩ := M
  have key : ∀ (a a' : List (List Bool)), a.length = f.n → a'.length = f.n → (∀ b < f.n, (a.getD b []).length = f.r) → (∀ b < f.n, (a'.getD b []).length = f.r) →
      (∀ b < f.n, ∀ v < f.r, gB (a.getD b []) v = gB (a'.getD b []) v) → a = a' := fun a a' h1 h2 h3 h4 h5 => by
    refine List.ext_getElem (h1.trans h2.symm) fun b hb hb' => ?_
    have hn : b < f.n := by omega
    have := gB_ext ((h3 b hn).trans (h4 b hn).symm) fun v hv => h5 b hn v (by rw [h3 b hn] at hv; exact hv)
    simp only [List.getD, List.getElem?_eq_getElem hb, List.getElem?_eq_getElem hb', Option.getD_some] at this
    exact this
  rw [key i i' hL.i hM.i (fun b hb => hL.il hb) (fun b hb => hM.il hb) hi, key o o' hL.o hM.o (fun b hb => hL.ol hb) (fun b hb => hM.ol hb) ho]

theorem Least.unique {f : BF} {L M : LD} (hL : Least f L) (hM : Least f M) : L = M := by
  refine LD.ext hL.cl.sz hM.cl.sz (fun b hb v hv => ?_) (fun b hb v hv => ?_)
  · have h1 := (hL.min _ _ hM.cl.cl b hb v hv).1
    have h2 := (hM.min _ _ hL.cl.cl b hb v hv).1
    cases h : L.I b v <;> cases h' : M.I b v <;> simp_all
  · have h1 := (hL.min _ _ hM.cl.cl b hb v hv).2
    have h2 := (hM.min _ _ hL.cl.cl b hb v hv).2
    cases h : L.O b v <;> cases h' : M.O b v <;> simp_all

/-- A table by truths. -/
def tabL (n r : Nat) (p : Nat → Nat → Bool) : List (List Bool) := (List.range n).map fun b => (List.range r).map fun v => p b v
theorem tabL_len (n r : Nat) (p : Nat → Nat → Bool) : (tabL n r p).length = n := by simp [tabL]
theorem tabL_row (n r : Nat) (p : Nat → Nat → Bool) : ∀ l ∈ tabL n r p, l.length = r := fun l hl => by
  simp only [tabL, List.mem_map] at hl
  obtain ⟨b, _, rfl⟩ := hl
  simp
theorem tabL_get {n r b v : Nat} (p : Nat → Nat → Bool) (hb : b < n) (hv : v < r) : gB ((tabL n r p).getD b []) v = p b v := by
  simp [tabL, gB, List.getD, hb, hv]
theorem sized_tab (f : BF) (p q : Nat → Nat → Bool) : SizedP f ⟨tabL f.n f.r p, tabL f.n f.r q⟩ := ⟨tabL_len _ _ _, tabL_len _ _ _, tabL_row _ _ _, tabL_row _ _ _⟩

theorem Closed.congr {f : BF} (hf : Fine f) {I O I' O' : Nat → Nat → Bool} (hi : ∀ b < f.n, ∀ v < f.r, I b v = I' b v) (ho : ∀ b < f.n, ∀ v < f.r, O b v = O' b v) (h : Closed f I O) : Closed f I' O' := by
  refine ⟨fun b hb k hk v hv h1 => ?_, fun b hb v hv h1 => ?_⟩
  · have hk' := hf.to _ (BF.mem hb) k hk
    rw [← ho b hb v hv]
    rw [← hi _ (show k.toNat < f.n by unfold BF.n; omega) v hv] at h1
    exact h.way b hb k hk v hv h1
  · rw [← hi b hb v hv]
    rw [← ho b hb v hv] at h1
    exact h.ahead b hb v hv h1

theorem least_exists {f : BF} (hf : Fine f) : ∃ L, Least f L := by
  classical
  refine ⟨⟨tabL f.n f.r fun b v => decide (InAll f b v), tabL f.n f.r fun b v => decide (OutAll f b v)⟩, ⟨sized_tab _ _ _, ?_⟩, fun I O h b hb v hv => ⟨fun e => ?_, fun e => ?_⟩⟩
  · refine Closed.congr hf (I := fun b v => decide (InAll f b v)) (O := fun b v => decide (OutAll f b v)) (fun b hb v hv => (tabL_get (fun b v => decide (InAll f b v)) hb hv).symm) (fun b hb v hv => (tabL_get (fun b v => decide (OutAll f b v)) hb hv).symm) ⟨fun b hb k hk v hv h1 => ?_, fun b hb v hv h1 => ?_⟩
    · simp only [decide_eq_true_eq] at h1 ⊢
      exact fun I O h => h.way b hb k hk v hv (h1 I O h)
    · simp only [decide_eq_true_eq] at h1 ⊢
      refine fun I O h => h.ahead b hb v hv ((Tri.ahead1 _ v).mono (fun e => ?_) h1)
      simp only [decide_eq_true_eq] at e
      exact e I O h
  · have := tabL_get (fun b v => decide (InAll f b v)) hb hv
    have e' : gB ((tabL f.n f.r fun b v => decide (InAll f b v)).getD b []) v = true := e
    rw [this] at e'
    exact of_decide_eq_true e' I O h
  · have := tabL_get (fun b v => decide (OutAll f b v)) hb hv
    have e' : gB ((tabL f.n f.r fun b v => decide (OutAll f b v)).getD b []) v = true := e
    rw [this] at e'
    exact of_decide_eq_true e' I O h
end Go.Proofs.Ytjdeediehmhdoaa
