/-
  The engine, part 11: code run on data that is known, by a function that the kernel can reckon. No condition.
-/
import Derived.Test.YtkbhfokbhkmfgaaUE
set_option linter.unusedVariables false
set_option linter.unusedSimpArgs false
namespace Go.V
set_option linter.unusedSimpArgs false
set_option linter.unusedVariables false
open Go.RowKit
def forceN (n : Nat) (k : Nat → Bool) : Bool := match n with
  | 0 => k 0
  | m + 1 => k (m + 1)
def forceI (n : Int) (k : Int → Bool) : Bool := match n with
  | .ofNat m => forceN m fun m => k (.ofNat m)
  | .negSucc m => forceN m fun m => k (.negSucc m)
def forceL {α : Type} : List α → (List α → Bool) → Bool
  | [], k => k []
  | x :: xs, k => forceL xs fun ys => k (x :: ys)
def forceA (x : AV) (k : AV → Bool) : Bool := match x with
  | .val v => k (.val v)
  | y => k y
def forceV (v : Value) (k : Value → Bool) : Bool := match v with
  | .int i n => forceI n fun n => k (.int i n)
  | .bool true => k (.bool true)
  | .bool false => k (.bool false)
  | v => k v
theorem forceN_eq (n : Nat) (k : Nat → Bool) : forceN n k = k n := by cases n <;> rfl
theorem forceI_eq (n : Int) (k : Int → Bool) : forceI n k = k n := by cases n <;> simp [forceI, forceN_eq]
theorem forceL_eq {α : Type} : ∀ (l : List α) (k : List α → Bool), forceL l k = k l
  | [], _ => rfl
  | x :: xs, k => by rw [forceL, forceL_eq xs]
theorem forceA_eq (x : AV) (k : AV → Bool) : forceA x k = k x := by cases x <;> rfl
theorem forceV_eq (v : Value) (k : Value → Bool) : forceV v k = k v := by
  unfold forceV
  split <;> simp_all [forceI_eq]
def ldOKb (ag : Bool) (n : Nat) : AV → Bool
  | .agg cs => ag && cs.length == n
  | y => !ag && y.one
def stoOKb (ag : Bool) (n : Nat) : AV → Bool
  | .agg cs => ag && cs.all AV.one && cs.length == n
  | y => !ag && y.one
def binOKb (op : BinOp) : Value → Value → Bool
  | .int k _, .int k' b =>
    match op with
    | .quo => decide (k = k') && b != 0
    | .rem => decide (k = k') && b != 0
    | .shl => decide (0 ≤ b)
    | .shr => decide (0 ≤ b)
    | _ => decide (k = k')
  | .string a, .string b =>
    match op with
    | .add => decide (a.size + b.size ≤ maxLen)
    | .eql => true
    | .neq => true
    | .lss => true
    | .leq => true
    | .gtr => true
    | .geq => true
    | _ => false
  | _, _ => false
def unOKb (op : UnOp) : Value → Bool
  | .bool _ => match op with
    | .not => true
    | _ => false
  | .int .. => match op with
    | .neg => true
    | .xor => true
    | _ => false
  | _ => false
def fillOKb (n : Nat) : List (Nat × Nat × AV) → Bool
  | [] => true
  | (off, size, x) :: rest => x.laid && x.cells.length == size && decide (off + size ≤ n) && fillOKb n rest
def partOKb (cs : List AV) (off : Nat) (ag : Bool) (n : Nat) : Bool := decide (off + n ≤ cs.length) && (ag || (n == 1 && (cs.getD off .dead).one))
def addedOKb (H : List VObj) (sz : Nat) : AV → Bool
  | .imm sz' ys => sz' == sz && ys.all AV.laid
  | .ref id s _ _ => match H[id]? with
    | some ⟨s', _, sz', cs⟩ => s' == s && sz' == sz && cs.all AV.one
    | none => false
  | .val (.slice none 0 0) => true
  | _ => false
theorem ldOKb_ok {ag : Bool} {n : Nat} {x : AV} (h : ldOKb ag n x = true) : ldOK ag n x := by
  cases x <;> simp_all [ldOKb, ldOK]
theorem stoOKb_ok {ag : Bool} {n : Nat} {x : AV} (h : stoOKb ag n x = true) : stoOK ag n x := by
  cases x <;> simp_all [stoOKb, stoOK]
theorem binOKb_ok {op : BinOp} {a b : Value} (h : binOKb op a b = true) : binOK op a b := by
  unfold binOKb at h
  split at h
  · cases op <;> simp_all [binOK]
  · cases op <;> simp_all [binOK]
  · cases h
theorem unOKb_ok {op : UnOp} {a : Value} (h : unOKb op a = true) : unOK op a := by
  unfold unOKb at h
  split at h
  · split at h <;> simp_all [unOK]
  · split at h <;> simp_all [unOK]
  · cases h
theorem fillOKb_ok {n : Nat} : ∀ {ps : List (Nat × Nat × AV)}, fillOKb n ps = true → fillOK n ps
  | [], _ => trivial
  | (off, size, x) :: rest, h => by
    simp only [fillOKb, Bool.and_eq_true, decide_eq_true_eq, beq_iff_eq] at h
    exact ⟨h.1.1.1, h.1.1.2, h.1.2, fillOKb_ok h.2⟩
theorem partOKb_ok {cs : List AV} {off : Nat} {ag : Bool} {n : Nat} (h : partOKb cs off ag n = true) : partOK cs off ag n := by
  simpa [partOKb, partOK] using h
theorem addedOKb_ok {H : List VObj} {sz : Nat} {x : AV} (h : addedOKb H sz x = true) : addedOK H sz x := by
  unfold addedOKb at h
  split at h
  · simp only [Bool.and_eq_true, beq_iff_eq, List.all_eq_true] at h
    exact ⟨h.1, h.2⟩
  · split at h
    · rename_i e
      simp only [Bool.and_eq_true, beq_iff_eq] at h
      simp only [addedOK, e]
      exact ⟨h.1.1, h.1.2, h.2⟩
    · cases h
  · trivial
  · cases h
def oldAb (A : Nat → Bool) : AV → Bool
  | .ptr id _ _ => A id
  | .ref id _ _ _ => A id
  | .mref id _ => A id
  | _ => true
def oldLb (A : Nat → Bool) : List AV → Bool
  | [] => true
  | x :: xs => oldAb A x && oldLb A xs
def xtraB (fm : Bool) (b : Nat) (ρ : Operand → AV) : K → Bool
  | .idx _ x _ => oldAb (fun id => !fm || decide (id < b)) (ρ x)
  | .aidx _ _ _ x _ => oldAb (fun id => !fm || decide (id < b)) (ρ x)
  | .fad _ _ _ x => oldAb (fun id => !fm || decide (id < b)) (ρ x)
  | .len x => oldAb (fun id => !fm || decide (id < b)) (ρ x)
  | .sl _ x _ _ => oldAb (fun id => !fm || decide (id < b)) (ρ x)
  | .nck x => oldAb (fun id => !fm || decide (id < b)) (ρ x)
  | .ld _ _ x => oldAb (fun id => !fm || decide (id < b)) (ρ x)
  | .app _ _ _ x _ => !fm || oldAb (fun id => decide (b ≤ id)) (ρ x)
  | .sto _ _ x _ => !fm || oldAb (fun id => decide (b ≤ id)) (ρ x)
  | .see _ xs => oldLb (fun id => !fm || decide (id < b)) (evs ρ xs)
  | .eff op _ => op.adds || !fm
  | .ycal .. => false
  | .call .. => false
  | .callA .. => false
  | .callM .. => false
  | _ => true
theorem oldAb_ok {A : Nat → Bool} {B : Nat → Prop} (h : ∀ i, A i = true → B i) {x : AV} (hx : oldAb A x = true) : oldA B x := by
  cases x <;> first | exact trivial | exact h _ hx
theorem oldLb_ok {A : Nat → Bool} {B : Nat → Prop} (h : ∀ i, A i = true → B i) : ∀ {xs : List AV}, oldLb A xs = true → oldL B xs
  | [], _ => trivial
  | x :: xs, hx => by
    simp only [oldLb, Bool.and_eq_true] at hx
    exact ⟨oldAb_ok h hx.1, oldLb_ok h hx.2⟩
theorem old_ok {fm : Bool} {b i : Nat} (h : (!fm || decide (i < b)) = true) : Old fm b i := by
  cases fm
  · exact .inl rfl
  · exact .inr (by simpa using h)
theorem xtraB_ok {fm : Bool} {b : Nat} {ρ : Operand → AV} {k : K} (h : xtraB fm b ρ k = true) : k.xtra fm b ρ := by
  cases k <;> first
    | exact trivial
    | exact oldAb_ok (fun _ => old_ok) h
    | exact oldLb_ok (fun _ => old_ok) h
    | (simp [xtraB] at h; done)
    | (simp only [xtraB, Bool.or_eq_true, Bool.not_eq_true'] at h; exact h)
    | (simp only [xtraB] at h
       simp only [K.xtra]
       cases fm
       · exact .inl rfl
       · exact .inr (oldAb_ok (fun i hi => of_decide_eq_true hi) (by simpa using h)))
def eqB : List LK → List AV → List AV → Bool → (Bool → Bool) → Bool
  | [], [], [], acc, C => C acc
  | .int :: ks, .val (.int k a) :: xs, .val (.int k' b) :: ys, acc, C => decide (k = k') && eqB ks xs ys (acc && (a == b)) C
  | .bool :: ks, .val (.bool a) :: xs, .val (.bool b) :: ys, acc, C => eqB ks xs ys (acc && (a == b)) C
  | .str :: ks, .val (.string a) :: xs, .val (.string b) :: ys, acc, C => eqB ks xs ys (acc && (a.data.toList == b.data.toList)) C
  | _, _, _, _, _ => false
theorem str_eqB (a b : ByteArray) : (a.data.toList == b.data.toList) = (a == b) := by
  obtain ⟨⟨x⟩⟩ := a
  obtain ⟨⟨y⟩⟩ := b
  show (x == y) = ((⟨x⟩ : Array UInt8) == ⟨y⟩)
  simp
theorem eqB_ok : ∀ (ks : List LK) (xs ys : List AV) (acc : Bool) (C : Bool → Bool), eqB ks xs ys acc C = true → eqW ks xs ys acc fun b => C b = true := by
  intro ks xs ys acc C
  fun_induction eqB ks xs ys acc C with
  | case1 acc C => exact fun h => h
  | case2 ks k a xs k' b ys acc C ih =>
    intro h
    simp only [Bool.and_eq_true, decide_eq_true_eq] at h
    exact ⟨h.1, ih h.2⟩
  | case3 ks a xs b ys acc C ih => exact fun h => ih h
  | case4 ks a xs b ys acc C ih => intro h; have := ih h; rw [str_eqB] at this; exact this
  | case5 => intro h; cases h
def POp.run : POp → List AV → (AV → Bool) → Bool
  | .six, [.val (.string s), .val (.int _ k)], C => decide (0 ≤ k) && decide (k.toNat < s.size) && forceV (.int .u8 (byteAt s k.toNat)) fun v => C (.val v)
  | .ixv n ag sz, [.agg cs, .val (.int _ k)], C => decide (0 ≤ k) && decide (k.toNat < n) && partOKb cs (k.toNat * sz) ag sz && C (partA cs (k.toNat * sz) ag sz)
  | .eqv neg ks, [.agg xs, .agg ys], C => eqB ks xs ys true fun b => forceV (.bool (if neg then !b else b)) fun v => C (.val v)
  | .mx, [.val (.int k a), .val (.int _ b)], C => forceV (.int k (if b > a then b else a)) fun v => C (.val v)
  | .mn, [.val (.int k a), .val (.int _ b)], C => forceV (.int k (if b < a then b else a)) fun v => C (.val v)
  | .nilq neg, [.fn _ _], C => C (.val (.bool neg))
  | .nilq neg, [.bm _ _], C => C (.val (.bool neg))
  | .nilq neg, [.val .nilFunc], C => C (.val (.bool (!neg)))
  | .nils neg, [.imm _ xs], C => !xs.isEmpty && C (.val (.bool neg))
  | .nils neg, [.val (.slice none 0 0)], C => C (.val (.bool (!neg)))
  | _, _, _ => false
theorem POp.run_ok {op : POp} {args : List AV} {C : AV → Bool} (h : op.run args C = true) : op.go args fun r => C r = true := by
  unfold POp.run at h
  split at h <;> (try simp only [forceV_eq] at h)
  · simp only [Bool.and_eq_true, decide_eq_true_eq] at h
    simp only [POp.go]; exact ⟨h.1.1, h.1.2, h.2⟩
  · simp only [Bool.and_eq_true, decide_eq_true_eq] at h
    simp only [POp.go]; exact ⟨h.1.1.1, h.1.1.2, partOKb_ok h.1.2, h.2⟩
  · simp only [POp.go]; exact eqB_ok _ _ _ _ _ h
  · simp only [POp.go]; exact h
  · simp only [POp.go]; exact h
  · simp only [POp.go]; exact h
  · simp only [POp.go]; exact h
  · simp only [POp.go]; exact h
  · simp only [Bool.and_eq_true, Bool.not_eq_true'] at h
    simp only [POp.go]; exact ⟨fun e => (by rw [e] at h; exact absurd h.1 (by decide)), h.2⟩
  · simp only [POp.go]; exact h
  · cases h
def lookB (k : Value) : List AV → (Option AV → Bool) → Bool
  | [], C => C none
  | .val k' :: v :: l, C => (match k, k' with
    | .int i a, .int j b => decide (i = j) && (if a = b then C (some v) else lookB k l C)
    | _, _ => false)
  | _, _ => false
theorem lookB_ok (k : Value) : ∀ (cs : List AV) (C : Option AV → Bool), lookB k cs C = true → lookW k cs fun r => C r = true
  | [], C, h => by simpa only [lookB, lookW] using h
  | [c], C, h => by cases c <;> simp [lookB] at h
  | c :: v :: l, C, h => by
    cases c <;> try (simp [lookB] at h; done)
    rename_i k'
    cases k <;> try (simp [lookB] at h; done)
    cases k' <;> try (simp [lookB] at h; done)
    rename_i i a j b
    simp only [lookB, Bool.and_eq_true, decide_eq_true_eq] at h
    simp only [lookW]
    obtain ⟨h0, h⟩ := h
    split at h
    · rename_i e; exact ⟨h0, fun _ => h, fun e' => absurd e e'⟩
    · rename_i e; exact ⟨h0, fun e' => absurd e' e, fun _ => lookB_ok _ l C h⟩
def SOp.run (H : List VObj) : SOp → List AV → (AV → Bool) → Bool
  | .b2s, [.val (.slice none 0 0)], C => C (.val (.string .empty))
  | .b2s, [.imm sz xs], C => sz == 1 && (match bytesOf xs with | some l => forceL l fun l => C (.val (.string ⟨l.toArray⟩)) | none => false)
  | .b2s, [.ref id s off len], C => (match H[id]? with
    | some ob => ob.s == s && ob.sz == 1 && (match bytesOf ((ob.cs.drop off).take len) with | some l => forceL l fun l => C (.val (.string ⟨l.toArray⟩)) | none => false)
    | none => false)
  | .look ok z, [.mref id s, .val (.int i a)], C => (match H[id]? with
    | some ob => ob.s == s && ob.sz == 0 && lookB (.int i a) ob.cs fun r =>
        let v := match r with
          | some v => v
          | none => cv z
        C (if ok then .tup [v, .val (.bool r.isSome)] else v)
    | none => false)
  | _, _, _ => false
theorem SOp.run_ok {H : List VObj} {op : SOp} {args : List AV} {C : AV → Bool} (h : op.run H args C = true) : op.go H args fun r => C r = true := by
  unfold SOp.run at h
  split at h
  · simp only [SOp.go]; exact h
  · simp only [Bool.and_eq_true, beq_iff_eq] at h
    obtain ⟨h0, h⟩ := h
    split at h
    · rename_i e; rw [forceL_eq] at h; simp only [SOp.go, e]; exact ⟨h0, h⟩
    · cases h
  · split at h
    · rename_i ob hob
      simp only [Bool.and_eq_true, beq_iff_eq] at h
      obtain ⟨⟨h0, h1⟩, h⟩ := h
      split at h
      · rename_i e; rw [forceL_eq] at h; simp only [SOp.go, hob, e]; exact ⟨h0, h1, h⟩
      · cases h
    · cases h
  · split at h
    · rename_i ob hob
      simp only [Bool.and_eq_true, beq_iff_eq] at h
      simp only [SOp.go, hob]; exact ⟨h.1.1, h.1.2, lookB_ok _ _ _ h.2⟩
    · cases h
  · cases h
abbrev KK := AV → List VObj → Nat → Bool
def mapOKb (i : IntKind) : List AV → Bool
  | [] => true
  | .val (.int j _) :: v :: l => decide (j = i) && v.one && mapOKb i l
  | _ => false
theorem mapOKb_ok {i : IntKind} : ∀ {l : List AV}, mapOKb i l = true → mapOK i l
  | [], _ => trivial
  | [c], h => by cases c <;> (try cases h); rename_i v; cases v <;> simp [mapOKb] at h
  | c :: v :: l, h => by
    cases c <;> try (simp [mapOKb] at h; done)
    rename_i u
    cases u <;> try (simp [mapOKb] at h; done)
    simp only [mapOKb, Bool.and_eq_true, decide_eq_true_eq] at h
    exact ⟨h.1.1, h.1.2, mapOKb_ok h.2⟩
def EOp.run (H : List VObj) (nx : Nat) (C : KK) : EOp → List AV → Bool
  | .cpy sz, [.ref id s off len, y] => (match H[id]? with
    | some ob => ob.s == s && ob.sz == sz && addedOKb H sz y && forceN (min len (addedN y)) fun n =>
        forceL (ob.cs.take off ++ (addedCells H sz y).take (n * sz) ++ ob.cs.drop (off + n * sz)) fun cs' => forceL (H.set id ⟨ob.s, ob.ty, ob.sz, cs'⟩) fun H' => C (.val (.int .i64 n)) H' nx
    | none => false)
  | .clr z, [.ref id s off len] => (match H[id]? with
    | some ob => ob.s == s && ob.sz == 1 && forceL (ob.cs.take off ++ List.replicate len (.val z) ++ ob.cs.drop (off + len)) fun cs' => forceL (H.set id ⟨ob.s, ob.ty, ob.sz, cs'⟩) fun H' => C (.tup []) H' nx
    | none => false)
  | .s2b ty, [.val (.string b)] => decide (b.size ≤ 70368744177664) && forceN b.size fun n => forceN H.length fun id => forceN (nx + 1) fun nx' => forceL (b.data.toList.map fun c => .val (.int .u8 (c.toNat : Nat))) fun cs => forceL (H ++ [⟨nx, ty, 1, cs⟩]) fun H' => C (.ref id nx 0 n) H' nx'
  | .mkm, [] => forceN H.length fun id => forceN (nx + 1) fun nx' => forceL (H ++ [⟨nx, 0, 0, []⟩]) fun H' => C (.mref id nx) H' nx'
  | .upd, [.mref id s, .val (.int i a), v] => (match H[id]? with
    | some ob => ob.s == s && ob.sz == 0 && mapOKb i ob.cs && v.one && forceL (updA (.int i a) v ob.cs) fun cs' => forceL (H.set id ⟨ob.s, ob.ty, ob.sz, cs'⟩) fun H' => C (.val undef) H' nx
    | none => false)
  | _, _ => false
theorem EOp.run_ok {H : List VObj} {nx : Nat} {op : EOp} {args : List AV} {C : KK} (h : op.run H nx C args = true) : op.go H nx (fun r H nx => C r H nx = true) args := by
  unfold EOp.run at h
  split at h <;> (try simp only [forceN_eq, forceL_eq] at h)
  · split at h
    · rename_i ob hob
      simp only [Bool.and_eq_true, beq_iff_eq] at h
      simp only [EOp.go, hob]; exact ⟨h.1.1.1, h.1.1.2, addedOKb_ok h.1.2, h.2⟩
    · cases h
  · split at h
    · rename_i ob hob
      simp only [Bool.and_eq_true, beq_iff_eq] at h
      simp only [EOp.go, hob]; exact ⟨h.1.1, h.1.2, h.2⟩
    · cases h
  · simp only [Bool.and_eq_true, decide_eq_true_eq] at h
    simp only [EOp.go]; exact h
  · simp only [EOp.go]; exact h
  · split at h
    · rename_i ob hob
      simp only [Bool.and_eq_true, beq_iff_eq] at h
      simp only [EOp.go, hob]; exact ⟨h.1.1.1.1, h.1.1.1.2, mapOKb_ok h.1.1.2, h.1.2, h.2⟩
    · cases h
  · cases h
abbrev CallB := Nat → List AV → List VObj → Nat → KK → Bool
def K.run (call : CallB) (ρ : Operand → AV) (H : List VObj) (nx : Nat) (C : KK) : K → Bool
  | .mv x => forceA (ρ x) fun y => C y H nx
  | .pick c a b => match ρ c with
    | .val (.bool true) => forceA (ρ a) fun y => C y H nx
    | .val (.bool false) => forceA (ρ b) fun y => C y H nx
    | _ => false
  | .ld ag n x => match ρ x with
    | .ip y => ldOKb ag n y && C y H nx
    | .ptr id s off => match H[id]? with
      | some ⟨s', _, _, cs⟩ => s' == s && partOKb cs off ag n && (if ag then forceL ((cs.drop off).take n) fun l => C (.agg l) H nx else forceA (cs.getD off .dead) fun y => C y H nx)
      | none => false
    | _ => false
  | .sto ag n x y => match ρ x with
    | .ptr id s off => match H[id]? with
      | some ⟨s', ty, sz, cs⟩ => s' == s && decide (off + n ≤ cs.length) && stoOKb ag n (ρ y) &&
          forceL (putA cs off (ρ y)) fun cs' => forceL (H.set id ⟨s', ty, sz, cs'⟩) fun H' => C (.val undef) H' nx
      | none => false
    | _ => false
  | .idx sz x i => match ρ x, ρ i with
    | .imm sz' xs, .val (.int _ k) => sz' == sz && decide (0 ≤ k) && decide (k.toNat < xs.length) && (forceA (xs.getD k.toNat .dead) fun y => C (.ip y) H nx)
    | .ref id s off ln, .val (.int _ k) => match H[id]? with
      | some ⟨s', _, sz', _⟩ => s' == s && sz' == sz && decide (0 ≤ k) && decide (k.toNat < ln) && forceN (off + k.toNat * sz) fun o => C (.ptr id s o) H nx
      | none => false
    | _, _ => false
  | .aidx n0 ag sz x i => match ρ x, ρ i with
    | .ip (.agg cs), .val (.int _ k) => decide (0 ≤ k) && decide (k.toNat < n0) && partOKb cs (k.toNat * sz) ag sz && C (.ip (partA cs (k.toNat * sz) ag sz)) H nx
    | .ptr id s off, .val (.int _ k) => match H[id]? with
      | some ⟨s', _, _, _⟩ => s' == s && decide (0 ≤ k) && decide (k.toNat < n0) && forceN (off + k.toNat * sz) fun o => C (.ptr id s o) H nx
      | none => false
    | _, _ => false
  | .fad off ag n x => match ρ x with
    | .ip (.agg cs) => partOKb cs off ag n && C (.ip (partA cs off ag n)) H nx
    | .ptr id s o => match H[id]? with
      | some ⟨s', _, _, _⟩ => s' == s && forceN (o + off) fun o => C (.ptr id s o) H nx
      | none => false
    | _ => false
  | .fld off ag n x => match ρ x with
    | .agg cs => partOKb cs off ag n && (if ag then forceL ((cs.drop off).take n) fun l => C (.agg l) H nx else forceA (cs.getD off .dead) fun y => C y H nx)
    | _ => false
  | .len x => match ρ x with
    | .imm _ xs => forceN xs.length fun n => C (.val (.int .i64 n)) H nx
    | .ref id s _ ln => match H[id]? with
      | some ⟨s', _, _, _⟩ => s' == s && C (.val (.int .i64 ln)) H nx
      | none => false
    | .val (.slice none 0 0) => C (.val (.int .i64 0)) H nx
    | _ => false
  | .lens x => match ρ x with
    | .val (.string s) => forceN s.size fun n => C (.val (.int .i64 n)) H nx
    | _ => false
  | .bin op x y => match ρ x, ρ y with
    | .val a, .val b => binOKb op a b && forceV (binR op a b) fun v => C (.val v) H nx
    | _, _ => false
  | .beq neg x y => match ρ x, ρ y with
    | .val (.bool a), .val (.bool b) => forceV (.bool (if neg then !(a == b) else a == b)) fun v => C (.val v) H nx
    | _, _ => false
  | .un op x => match ρ x with
    | .val a => unOKb op a && forceV (unR op a) fun v => C (.val v) H nx
    | _ => false
  | .conv k x => match ρ x with
    | .val (.int _ n) => forceV (.int k (k.wrap n)) fun v => C (.val v) H nx
    | _ => false
  | .sl sz x lo hi => match ρ x with
    | .imm sz' xs => match boundOf ρ 0 lo, boundOf ρ xs.length hi with
      | some l, some h => sz' == sz && decide (0 ≤ l) && decide (l ≤ h) && decide (h ≤ xs.length) && forceL ((xs.take h.toNat).drop l.toNat) fun l => C (.imm sz l) H nx
      | _, _ => false
    | .ref id s off ln => match H[id]? with
      | some ⟨s', _, sz', _⟩ => match boundOf ρ 0 lo, boundOf ρ ln hi with
        | some l, some h => s' == s && sz' == sz && decide (0 ≤ l) && decide (l ≤ h) && decide (h ≤ ln) && forceN (off + l.toNat * sz) fun o => forceN (h.toNat - l.toNat) fun n => C (.ref id s o n) H nx
        | _, _ => false
      | none => false
    | .val (.slice none 0 0) => match boundOf ρ 0 lo, boundOf ρ 0 hi with
      | some l, some h => decide (l = 0) && decide (h = 0) && C (.val (.slice none 0 0)) H nx
      | _, _ => false
    | _ => false
  | .sls x lo hi => match ρ x with
    | .val (.string t) => match boundOf ρ 0 lo, boundOf ρ t.size hi with
      | some l, some h => decide (0 ≤ l) && decide (l ≤ h) && decide (h ≤ t.size) && C (.val (.string (t.extract l.toNat h.toNat))) H nx
      | _, _ => false
    | _ => false
  | .mk ty sz bytes z n c => match ρ n, ρ c with
    | .val (.int _ l), .val (.int _ k) => decide (0 ≤ l) && decide (l ≤ k) && decide (k ≤ 140737488355328) && decide (k * bytes ≤ 140737488355328) &&
        forceN l.toNat fun ln => forceN H.length fun id => forceN (nx + 1) fun nx' => forceL (List.replicate ln (z.map AV.val)).flatten fun cs => forceL (H ++ [⟨nx, ty, sz, cs⟩]) fun H' => C (.ref id nx 0 ln) H' nx'
    | _, _ => false
  | .app ty sz bytes x y => addedOKb H sz (ρ y) && (match ρ x with
    | .val (.slice none 0 0) => decide (addedN (ρ y) ≤ maxLen) && decide (addedN (ρ y) * bytes ≤ 140737488355328) &&
        forceN (addedN (ρ y)) fun ln => forceN H.length fun id => forceN (nx + 1) fun nx' => forceL (addedCells H sz (ρ y)) fun cs => forceL (H ++ [⟨nx, ty, sz, cs⟩]) fun H' => C (.ref id nx 0 ln) H' nx'
    | .ref id s off ln => match H[id]? with
      | some ⟨s', ty', sz', cs⟩ => s' == s && ty' == ty && sz' == sz && decide (ln + addedN (ρ y) ≤ maxLen) && decide ((ln + addedN (ρ y)) * bytes ≤ 140737488355328) &&
          forceN (ln + addedN (ρ y)) fun ln' => forceN (nx + 1) fun nx' => forceL ((cs.drop off).take (ln * sz) ++ addedCells H sz (ρ y)) fun cs' => forceL (H.set id ⟨nx, ty, sz, cs'⟩) fun H' => C (.ref id nx 0 ln') H' nx'
      | none => false
    | _ => false)
  | .bsl ty sz n z parts => fillOKb (n * sz) (partsOf ρ parts) && forceN H.length fun id => forceN (nx + 1) fun nx' => forceL (fillA (z.map AV.val) (partsOf ρ parts)) fun cs => forceL (H ++ [⟨nx, ty, sz, cs⟩]) fun H' => C (.ref id nx 0 n) H' nx'
  | .bld z parts => fillOKb z.length (partsOf ρ parts) && forceL (fillA (z.map AV.val) (partsOf ρ parts)) fun cs => C (.agg cs) H nx
  | .box ty x => (ρ x).laid && forceN H.length fun id => forceN (nx + 1) fun nx' => forceL (ρ x).cells fun cs => forceL (H ++ [⟨nx, ty, 1, cs⟩]) fun H' => C (.ptr id nx 0) H' nx'
  | .alc ty z => forceN H.length fun id => forceN (nx + 1) fun nx' => forceL (z.map AV.val) fun cs => forceL (H ++ [⟨nx, ty, 1, cs⟩]) fun H' => C (.ptr id nx 0) H' nx'
  | .mkf f cs => forceL (evs ρ cs) fun vs => C (.fn f vs) H nx
  | .mkb f cs => forceL (evs ρ cs) fun vs => C (.bm f vs) H nx
  | .nck x => match ρ x with
    | .ip y => C (.ip y) H nx
    | .ptr id s off => match H[id]? with
      | some ⟨s', _, _, _⟩ => s' == s && C (.ptr id s off) H nx
      | none => false
    | .fn f cs => C (.fn f cs) H nx
    | .bm f cs => C (.bm f cs) H nx
    | _ => false
  | .ext x i => match ρ x with
    | .tup cs => decide (i < cs.length) && C (cs.getD i .dead) H nx
    | _ => false
  | .call f args => match ρ f with
    | .fn g cs => forceL (evs ρ args ++ cs) fun vs => call g vs H nx C
    | .bm g cs => forceL (cs ++ evs ρ args) fun vs => call g vs H nx C
    | _ => false
  | .callA f args => match ρ f with
    | .fn g cs => forceL (evs ρ args ++ cs) fun vs => call g vs H nx C
    | .bm g cs => forceL (cs ++ evs ρ args) fun vs => call g vs H nx C
    | _ => false
  | .callM st f args => match ρ f with
    | .fn g cs => forceL (evs ρ args ++ cs) fun vs => call g vs H nx C
    | .bm g cs => forceL (cs ++ evs ρ args) fun vs => call g vs H nx C
    | _ => false
  | .pur op xs => op.run (evs ρ xs) fun r => C r H nx
  | .see op xs => op.run H (evs ρ xs) fun r => C r H nx
  | .eff op xs => op.run H nx C (evs ρ xs)
  | .ycal .. => false
section
variable {P : Program}
def CallOK (P : Program) (call : CallB) : Prop := ∀ g args H nx C, call g args H nx C = true → VCall P g args H nx fun r H nx => C r H nx = true
theorem K.run_ok {call : CallB} (hc : CallOK P call) {ρ : Operand → AV} {H : List VObj} {nx : Nat} {C : KK} {k : K} (h : k.run call ρ H nx C = true) : k.wp P ρ H nx fun r H nx => C r H nx = true := by
  cases k <;> simp only [K.run, forceN_eq, forceL_eq, forceV_eq, forceA_eq] at h <;> simp only [K.wp]
  case mv => exact h
  case pur op xs => exact POp.run_ok h
  case see op xs => exact SOp.run_ok h
  case eff op xs => exact EOp.run_ok h
  case ycal => cases h
  case pick => split at h <;> simp_all
  case ld =>
    split at h
    · rename_i e; simp only [e]; simp only [Bool.and_eq_true] at h; exact ⟨ldOKb_ok h.1, h.2⟩
    · rename_i e; simp only [e]
      split at h
      · rename_i e2; simp only [e2]
        simp only [Bool.and_eq_true, beq_iff_eq] at h
        exact ⟨h.1.1, partOKb_ok h.1.2, by unfold partA; split <;> simp_all⟩
      · cases h
    · cases h
  case sto =>
    split at h
    · rename_i e; simp only [e]
      split at h
      · rename_i e2; simp only [e2]
        simp only [Bool.and_eq_true, beq_iff_eq, decide_eq_true_eq] at h
        exact ⟨h.1.1.1, h.1.1.2, stoOKb_ok h.1.2, h.2⟩
      · cases h
    · cases h
  case idx =>
    split at h
    · rename_i e e'; simp only [e, e']
      simp only [Bool.and_eq_true, beq_iff_eq, decide_eq_true_eq] at h
      exact ⟨h.1.1.1, h.1.1.2, h.1.2, h.2⟩
    · rename_i e e'; simp only [e, e']
      split at h
      · rename_i e2; simp only [e2]
        simp only [Bool.and_eq_true, beq_iff_eq, decide_eq_true_eq] at h
        exact ⟨h.1.1.1.1, h.1.1.1.2, h.1.1.2, h.1.2, h.2⟩
      · cases h
    · cases h
  case aidx =>
    split at h
    · rename_i e e'; simp only [e, e']
      simp only [Bool.and_eq_true, beq_iff_eq, decide_eq_true_eq] at h
      exact ⟨h.1.1.1, h.1.1.2, partOKb_ok h.1.2, h.2⟩
    · rename_i e e'; simp only [e, e']
      split at h
      · rename_i e2; simp only [e2]
        simp only [Bool.and_eq_true, beq_iff_eq, decide_eq_true_eq] at h
        exact ⟨h.1.1.1, h.1.1.2, h.1.2, h.2⟩
      · cases h
    · cases h
  case fad =>
    split at h
    · rename_i e; simp only [e]
      simp only [Bool.and_eq_true] at h
      exact ⟨partOKb_ok h.1, h.2⟩
    · rename_i e; simp only [e]
      split at h
      · rename_i e2; simp only [e2]
        simp only [Bool.and_eq_true, beq_iff_eq] at h
        exact ⟨h.1, h.2⟩
      · cases h
    · cases h
  case fld =>
    split at h
    · rename_i e; simp only [e]
      simp only [Bool.and_eq_true] at h
      exact ⟨partOKb_ok h.1, by unfold partA; split <;> simp_all⟩
    · cases h
  case len =>
    split at h
    · rename_i e; simp only [e]; exact h
    · rename_i e; simp only [e]
      split at h
      · rename_i e2; simp only [e2]
        simp only [Bool.and_eq_true, beq_iff_eq] at h
        exact ⟨h.1, h.2⟩
      · cases h
    · rename_i e; simp only [e]; exact h
    · cases h
  case lens =>
    split at h
    · rename_i e; simp only [e]; exact h
    · cases h
  case bin =>
    split at h
    · rename_i e e'; simp only [e, e']
      simp only [Bool.and_eq_true] at h
      exact ⟨binOKb_ok h.1, h.2⟩
    · cases h
  case beq =>
    split at h
    · rename_i e e'; simp only [e, e']; exact h
    · cases h
  case un =>
    split at h
    · rename_i e; simp only [e]
      simp only [Bool.and_eq_true] at h
      exact ⟨unOKb_ok h.1, h.2⟩
    · cases h
  case conv =>
    split at h
    · rename_i e; simp only [e]; exact h
    · cases h
  case sl =>
    split at h
    · rename_i e; simp only [e]
      split at h
      · rename_i e1 e2; simp only [e1, e2]
        simp only [Bool.and_eq_true, beq_iff_eq, decide_eq_true_eq] at h
        obtain ⟨⟨⟨⟨h1, h2⟩, h3⟩, h4⟩, h5⟩ := h
        subst h1
        exact ⟨rfl, h2, h3, h4, h5⟩
      · cases h
    · rename_i e; simp only [e]
      split at h
      · rename_i e3; simp only [e3]
        split at h
        · rename_i e1 e2; simp only [e1, e2]
          simp only [Bool.and_eq_true, beq_iff_eq, decide_eq_true_eq] at h
          obtain ⟨⟨⟨⟨⟨h1, h0⟩, h2⟩, h3⟩, h4⟩, h5⟩ := h
          exact ⟨h1, h0, h2, h3, h4, h5⟩
        · cases h
      · cases h
    · rename_i e; simp only [e]
      split at h
      · rename_i e1 e2; simp only [e1, e2]
        simp only [Bool.and_eq_true, decide_eq_true_eq] at h
        exact ⟨h.1.1, h.1.2, h.2⟩
      · cases h
    · cases h
  case sls =>
    split at h
    · rename_i e; simp only [e]
      split at h
      · rename_i e1 e2; simp only [e1, e2]
        simp only [Bool.and_eq_true, beq_iff_eq, decide_eq_true_eq] at h
        exact ⟨h.1.1.1, h.1.1.2, h.1.2, h.2⟩
      · cases h
    · cases h
  case mk =>
    split at h
    · rename_i e e'; simp only [e, e']
      simp only [Bool.and_eq_true, beq_iff_eq, decide_eq_true_eq] at h
      exact ⟨h.1.1.1.1, h.1.1.1.2, h.1.1.2, h.1.2, h.2⟩
    · cases h
  case app =>
    simp only [Bool.and_eq_true] at h
    obtain ⟨h0, h⟩ := h
    refine ⟨addedOKb_ok h0, ?_⟩
    split at h
    · rename_i e; simp only [e]
      simp only [Bool.and_eq_true, decide_eq_true_eq] at h
      exact ⟨h.1.1, h.1.2, h.2⟩
    · rename_i e; simp only [e]
      split at h
      · rename_i e2; simp only [e2]
        simp only [Bool.and_eq_true, beq_iff_eq, decide_eq_true_eq] at h
        obtain ⟨⟨⟨⟨⟨h1, h0⟩, h2⟩, h3⟩, h4⟩, h5⟩ := h
        exact ⟨h1, h0, h2, h3, h4, h5⟩
      · cases h
    · cases h
  case bsl =>
    simp only [Bool.and_eq_true] at h
    exact ⟨fillOKb_ok h.1, h.2⟩
  case bld =>
    simp only [Bool.and_eq_true] at h
    exact ⟨fillOKb_ok h.1, h.2⟩
  case box =>
    simp only [Bool.and_eq_true] at h
    exact ⟨h.1, h.2⟩
  case alc => exact h
  case mkf => exact h
  case mkb => exact h
  case nck =>
    split at h
    · rename_i e; simp only [e]; exact h
    · rename_i e; simp only [e]
      split at h
      · rename_i e2; simp only [e2]
        simp only [Bool.and_eq_true, beq_iff_eq] at h
        exact ⟨h.1, h.2⟩
      · cases h
    · rename_i e; simp only [e]; exact h
    · rename_i e; simp only [e]; exact h
    · cases h
  case ext =>
    split at h
    · rename_i e; simp only [e]
      simp only [Bool.and_eq_true, decide_eq_true_eq] at h
      exact ⟨h.1, h.2⟩
    · cases h
  case callA =>
    split at h
    · rename_i e; simp only [e]; exact hc _ _ _ _ _ h
    · rename_i e; simp only [e]; exact hc _ _ _ _ _ h
    · cases h
  case callM =>
    split at h
    · rename_i e; simp only [e]; exact hc _ _ _ _ _ h
    · rename_i e; simp only [e]; exact hc _ _ _ _ _ h
    · cases h
  case call =>
    split at h
    · rename_i e; simp only [e]; exact hc _ _ _ _ _ h
    · rename_i e; simp only [e]; exact hc _ _ _ _ _ h
    · cases h
inductive Tr where
  | nil
  | node (v : AV) (l r : Tr)
def Tr.get : Tr → Nat → AV
  | .nil, _ => .dead
  | .node v l r, n => match n with
    | 0 => v
    | n + 1 => match n % 2 with
      | 0 => l.get (n / 2)
      | _ + 1 => r.get (n / 2)
def Tr.put : Nat → Tr → Nat → AV → (Tr → Bool) → Bool
  | 0, _, _, _, _ => false
  | f + 1, .nil, n, x, k => match n with
    | 0 => k (.node x .nil .nil)
    | n + 1 => match n % 2 with
      | 0 => Tr.put f .nil (n / 2) x fun t => k (.node .dead t .nil)
      | _ + 1 => Tr.put f .nil (n / 2) x fun t => k (.node .dead .nil t)
  | f + 1, .node v l r, n, x, k => match n with
    | 0 => k (.node x l r)
    | n + 1 => match n % 2 with
      | 0 => Tr.put f l (n / 2) x fun t => k (.node v t r)
      | _ + 1 => Tr.put f r (n / 2) x fun t => k (.node v l t)
theorem Tr.nil_get (n : Nat) : Tr.nil.get n = .dead := rfl
theorem Tr.node_even {v : AV} {l r : Tr} {n : Nat} (h : n % 2 = 0) : (Tr.node v l r).get (n + 1) = l.get (n / 2) := by
  simp only [Tr.get]; split
  · rfl
  · omega
theorem Tr.node_odd {v : AV} {l r : Tr} {n : Nat} (h : n % 2 ≠ 0) : (Tr.node v l r).get (n + 1) = r.get (n / 2) := by
  simp only [Tr.get]; split
  · omega
  · rfl
theorem Tr.put_ok : ∀ (f : Nat) (t : Tr) (n : Nat) (x : AV) (k : Tr → Bool), Tr.put f t n x k = true → ∃ t', k t' = true ∧ ∀ m, t'.get m = if n = m then x else t.get m
  | 0, _, _, _, _, h => by cases h
  | f + 1, .nil, n, x, k, h => by
    cases n with
    | zero =>
      refine ⟨_, h, fun m => ?_⟩
      cases m with
      | zero => rfl
      | succ m =>
        rw [if_neg (by omega)]
        by_cases h2 : m % 2 = 0
        · rw [Tr.node_even h2]; rfl
        · rw [Tr.node_odd h2]; rfl
    | succ n =>
      simp only [Tr.put] at h
      split at h
      · rename_i h2
        obtain ⟨t', h3, h4⟩ := Tr.put_ok f _ _ _ _ h
        refine ⟨_, h3, fun m => ?_⟩
        cases m with
        | zero => rw [if_neg (by omega)]; rfl
        | succ m =>
          by_cases h5 : m % 2 = 0
          · rw [Tr.node_even h5, h4, Tr.nil_get, Tr.nil_get]
            by_cases h6 : n = m
            · rw [if_pos (by omega), if_pos (by omega)]
            · rw [if_neg (by omega), if_neg (by omega)]
          · rw [Tr.node_odd h5, Tr.nil_get, Tr.nil_get, if_neg (fun e => by obtain rfl : n = m := by omega
                                                                            exact h5 h2)]
      · rename_i q h2
        obtain ⟨t', h3, h4⟩ := Tr.put_ok f _ _ _ _ h
        refine ⟨_, h3, fun m => ?_⟩
        cases m with
        | zero => rw [if_neg (by omega)]; rfl
        | succ m =>
          by_cases h5 : m % 2 = 0
          · rw [Tr.node_even h5, Tr.nil_get, Tr.nil_get, if_neg (fun e => by obtain rfl : n = m := by omega
                                                                             omega)]
          · rw [Tr.node_odd h5, h4, Tr.nil_get, Tr.nil_get]
            by_cases h6 : n = m
            · rw [if_pos (by omega), if_pos (by omega)]
            · rw [if_neg (by omega), if_neg (by omega)]
  | f + 1, .node v l r, n, x, k, h => by
    cases n with
    | zero =>
      refine ⟨_, h, fun m => ?_⟩
      cases m with
      | zero => rfl
      | succ m =>
        rw [if_neg (by omega)]
        by_cases h2 : m % 2 = 0
        · rw [Tr.node_even h2, Tr.node_even h2]
        · rw [Tr.node_odd h2, Tr.node_odd h2]
    | succ n =>
      simp only [Tr.put] at h
      split at h
      · rename_i h2
        obtain ⟨t', h3, h4⟩ := Tr.put_ok f _ _ _ _ h
        refine ⟨_, h3, fun m => ?_⟩
        cases m with
        | zero => rw [if_neg (by omega)]; rfl
        | succ m =>
          by_cases h5 : m % 2 = 0
          · rw [Tr.node_even h5, h4, Tr.node_even h5]
            by_cases h6 : n = m
            · rw [if_pos (by omega), if_pos (by omega)]
            · rw [if_neg (by omega), if_neg (by omega)]
          · rw [Tr.node_odd h5, Tr.node_odd h5, if_neg (fun e => by obtain rfl : n = m := by omega
                                                                    exact h5 h2)]
      · rename_i q h2
        obtain ⟨t', h3, h4⟩ := Tr.put_ok f _ _ _ _ h
        refine ⟨_, h3, fun m => ?_⟩
        cases m with
        | zero => rw [if_neg (by omega)]; rfl
        | succ m =>
          by_cases h5 : m % 2 = 0
          · rw [Tr.node_even h5, Tr.node_even h5, if_neg (fun e => by obtain rfl : n = m := by omega
                                                                      omega)]
          · rw [Tr.node_odd h5, h4, Tr.node_odd h5]
            by_cases h6 : n = m
            · rw [if_pos (by omega), if_pos (by omega)]
            · rw [if_neg (by omega), if_neg (by omega)]
def Tr.puts (t : Tr) (d : Option Nat) (x : AV) (k : Tr → Bool) : Bool := match d with
  | none => k t
  | some n => Tr.put 24 t n x k
def Agr (e : List (Nat × AV)) (t : Tr) : Prop := ∀ n, get e n = t.get n
theorem Agr.litE {e : List (Nat × AV)} {t : Tr} (ha : Agr e t) {c : Operand} {b : Bool} (h : evF t.get c = .val (.bool b)) : Agr (litE c b e) t := by
  cases c with
  | tmp u =>
    intro n
    show (if u = n then AV.val (.bool b) else get e n) = t.get n
    split
    · rename_i hn; subst hn; exact h.symm
    · exact ha n
  | _ => exact ha
theorem Tr.puts_ok {t : Tr} {e : List (Nat × AV)} {H : List VObj} {nx : Nat} (ha : Agr e t) {d : Option Nat} {x : AV} {k : Tr → Bool} (h : t.puts d x k = true) : ∃ t', k t' = true ∧ Agr (St.put ⟨e, H, nx⟩ d x).env t' := by
  cases d with
  | none => exact ⟨t, h, ha⟩
  | some n =>
    obtain ⟨t', h1, h2⟩ := Tr.put_ok _ _ _ _ _ h
    refine ⟨t', h1, fun m => ?_⟩
    rw [h2 m]
    simp only [St.put, Go.V.get]
    rw [ha m]
abbrev TK := Tr → List VObj → Nat → Bool
def opsRun (call : CallB) : List VOp → TK → TK
  | [], Q, e, H, nx => Q e H nx
  | ⟨d, none, k⟩ :: l, Q, e, H, nx => k.run call (evF e.get) H nx fun r H nx => e.puts d r fun e => opsRun call l Q e H nx
  | ⟨d, some (t, want), k⟩ :: l, Q, e, H, nx => match e.get t with
    | .val (.bool true) => if want then k.run call (evF e.get) H nx fun r H nx => e.puts d r fun e => opsRun call l Q e H nx else e.puts d (.val undef) fun e => opsRun call l Q e H nx
    | .val (.bool false) => if want then e.puts d (.val undef) fun e => opsRun call l Q e H nx else k.run call (evF e.get) H nx fun r H nx => e.puts d r fun e => opsRun call l Q e H nx
    | .val (.tuple _) => e.puts d (.val undef) fun e => opsRun call l Q e H nx
    | _ => false
theorem Agr.evF {e : List (Nat × AV)} {t : Tr} (h : Agr e t) : evF (get e) = Go.V.evF t.get := by
  rw [show get e = t.get from funext h]
def TQ (Q : TK) (st : St) : Prop := ∃ t, Agr st.env t ∧ Q t st.H st.nx = true
theorem Agr.lit {e : List (Nat × AV)} {t : Tr} (h : Agr e t) {u : Nat} {x : AV} (hx : t.get u = x) : Agr ((u, x) :: e) t := fun n => by
  rw [get_lit ((h u).trans hx)]; exact h n
theorem opsRun_ok {call : CallB} (hc : CallOK P call) : ∀ (l : List VOp) {Q : TK} {e : List (Nat × AV)} {t : Tr} {H : List VObj} {nx : Nat}, Agr e t → opsRun call l Q t H nx = true → VOps P l (TQ Q) ⟨e, H, nx⟩ := by
  intro l
  induction l with
  | nil => intro Q e t H nx ha h; exact ⟨t, ha, h⟩
  | cons o l ih =>
    intro Q e t H nx ha h
    obtain ⟨d, g, k⟩ := o
    have next : ∀ {e : List (Nat × AV)}, Agr e t → ∀ r H' nx', (t.puts d r fun e => opsRun call l Q e H' nx') = true → VOps P l (TQ Q) (St.put ⟨e, H', nx'⟩ d r) := fun {e} ha r H' nx' hh => by
      obtain ⟨t', h1, h2⟩ := Tr.puts_ok (H := H') (nx := nx') ha hh
      have := ih h2 h1
      rw [st_put e H' nx' d r]
      exact this
    have step : ∀ {e : List (Nat × AV)}, Agr e t → (k.run call (Go.V.evF t.get) H nx fun r H nx => t.puts d r fun e => opsRun call l Q e H nx) = true → k.wp P (Go.V.evF (get e)) H nx fun r H nx => VOps P l (TQ Q) (St.put ⟨e, H, nx⟩ d r) := fun {e} ha hh => by
      rw [ha.evF]
      exact wp_mono' (K.run_ok hc hh) (next ha)
    cases g with
    | none => exact step ha h
    | some g =>
      obtain ⟨u, want⟩ := g
      simp only [opsRun] at h
      simp only [VOps]
      rw [ha u]
      split at h
      · rename_i e; rw [e]
        refine ⟨fun hw => ?_, fun hw => ?_⟩
        · subst hw; rw [if_pos rfl] at h; exact step (ha.lit e) h
        · cases want
          · rw [if_neg (by simp)] at h; exact next (ha.lit e) _ _ _ h
          · cases hw
      · rename_i e; rw [e]
        refine ⟨fun hw => ?_, fun hw => ?_⟩
        · subst hw; rw [if_neg (by simp)] at h; exact step (ha.lit e) h
        · cases want
          · cases hw
          · rw [if_pos rfl] at h; exact next (ha.lit e) _ _ _ h
      · rename_i e; rw [e]; exact next ha _ _ _ h
      · cases h
def stabB : List VObj → List VObj → Bool
  | [], _ => true
  | o :: os, o' :: os' => o.s == o'.s && o.sz == o'.sz && stabB os os'
  | _ :: _, [] => false
theorem stabB_ok : ∀ {H H' : List VObj}, stabB H H' = true → Stab (fun _ => True) 1 H H'
  | [], _, _ => fun id ob _ h => by simp at h
  | o :: os, [], h => by simp [stabB] at h
  | o :: os, o' :: os', h => fun id ob _ ho => by
    simp only [stabB, Bool.and_eq_true, beq_iff_eq] at h
    cases id with
    | zero => simp at ho; subst ho; exact ⟨o', by simp, h.1.1.symm, h.1.2.symm⟩
    | succ id => simp at ho; obtain ⟨ob', h1, h2⟩ := stabB_ok h.2 id ob trivial ho; exact ⟨ob', by simpa using h1, h2⟩
def isB (want : Bool) : AV → Bool
  | .val (.bool b) => b == want
  | _ => false
theorem isB_ok {want : Bool} {r : AV} (h : isB want r = true) : r = .val (.bool want) := by
  unfold isB at h
  split at h
  · rw [beq_iff_eq] at h; rw [h]
  · cases h
theorem callB_ok {call : CallB} (hc : CallOK P call) {g : Nat} {vs : List AV} {want : Bool} (h : call g vs [] 0 (fun r _ _ => isB want r) = true) : Contract P g vs (fun r => r = .val (.bool want)) :=
  Contract.of_call (VCall.mono (hc _ _ _ _ _ h) fun r H nx hr => ⟨r, by rw [isB_ok hr]; exact Frz.pure rfl, isB_ok hr⟩)
def K.runE (call : CallB) (fm : Bool) (b : Nat) (ρ : Operand → AV) (H : List VObj) (nx : Nat) (C : KK) : K → Bool
  | .callM st f args => match ρ f with
    | .fn g cs => forceL (evs ρ args ++ cs) fun vs => call g vs H nx fun r H' nx' => (!st || stabB H H') && C r H' nx'
    | .bm g cs => forceL (cs ++ evs ρ args) fun vs => call g vs H nx fun r H' nx' => (!st || stabB H H') && C r H' nx'
    | _ => false
  | .call f args => match ρ f with
    | .fn g cs => forceL (evs ρ args ++ cs) fun vs => vs.all AV.pure && ((call g vs [] 0 (fun r _ _ => isB true r) && C (.val (.bool true)) H nx) || (call g vs [] 0 (fun r _ _ => isB false r) && C (.val (.bool false)) H nx))
    | _ => false
  | k => xtraB fm b ρ k && k.run (fun _ _ _ _ _ => false) ρ H nx C
def trRun (call : CallB) (fm : Bool) (b0 : Nat) (Q : TK) : PT → TK
  | .done, e, H, nx => Q e H nx
  | .one ⟨d, none, k⟩ t, e, H, nx => k.runE call fm b0 (evF e.get) H nx fun r H nx => e.puts d r fun e => trRun call fm b0 Q t e H nx
  | .one ⟨d, some (u, want), k⟩ t, e, H, nx => match e.get u with
    | .val (.bool true) => if want then k.runE call fm b0 (evF e.get) H nx fun r H nx => e.puts d r fun e => trRun call fm b0 Q t e H nx else e.puts d (.val undef) fun e => trRun call fm b0 Q t e H nx
    | .val (.bool false) => if want then e.puts d (.val undef) fun e => trRun call fm b0 Q t e H nx else k.runE call fm b0 (evF e.get) H nx fun r H nx => e.puts d r fun e => trRun call fm b0 Q t e H nx
    | .val (.tuple _) => e.puts d (.val undef) fun e => trRun call fm b0 Q t e H nx
    | _ => false
  | .both s t, e, H, nx => trRun call fm b0 Q s e H nx && trRun call fm b0 Q t e H nx
theorem runD_ok {call : CallB} (hc : CallOK P call) {fm : Bool} {b : Nat} {ρ : Operand → AV} {H : List VObj} {nx : Nat} {C : KK} {D : AV → List VObj → Nat → Prop} {k : K} (h : k.runE call fm b ρ H nx C = true) (hC : ∀ r H nx, C r H nx = true → D r H nx) : k.wpD P fm b ρ H nx D := by
  by_cases hk : ∃ st f args, k = .callM st f args
  · obtain ⟨st, f, args, rfl⟩ := hk
    refine ⟨trivial, ?_⟩
    simp only [K.runE] at h
    simp only [K.wpE]
    split at h
    · rename_i g cs e
      simp only [e]
      simp only [forceL_eq] at h
      refine VCall.mono (hc _ _ _ _ _ h) fun r H' nx' hh => ?_
      simp only [Bool.and_eq_true, Bool.or_eq_true, Bool.not_eq_true'] at hh
      refine ⟨fun hs => ?_, hC _ _ _ hh.2⟩
      rcases hh.1 with h0 | h0
      · rw [hs] at h0; cases h0
      · exact stabB_ok h0
    · rename_i g cs e
      simp only [e]
      simp only [forceL_eq] at h
      refine VCall.mono (hc _ _ _ _ _ h) fun r H' nx' hh => ?_
      simp only [Bool.and_eq_true, Bool.or_eq_true, Bool.not_eq_true'] at hh
      refine ⟨fun hs => ?_, hC _ _ _ hh.2⟩
      rcases hh.1 with h0 | h0
      · rw [hs] at h0; cases h0
      · exact stabB_ok h0
    · cases h
  · by_cases hk2 : ∃ f args, k = .call f args
    · obtain ⟨f, args, rfl⟩ := hk2
      refine ⟨trivial, ?_⟩
      simp only [K.runE] at h
      simp only [K.wpE]
      split at h
      · rename_i g cs e
        simp only [e]
        simp only [forceL_eq, Bool.and_eq_true, Bool.or_eq_true] at h
        obtain ⟨hp, h | h⟩ := h
        · exact ECall.of (callB_ok hc h.1) (SleL.pure hp) ⟨_, fun _ => Iff.rfl⟩ fun r hr => by subst hr; exact hC _ _ _ h.2
        · exact ECall.of (callB_ok hc h.1) (SleL.pure hp) ⟨_, fun _ => Iff.rfl⟩ fun r hr => by subst hr; exact hC _ _ _ h.2
      · cases h
    have h : (xtraB fm b ρ k && k.run (fun _ _ _ _ _ => false) ρ H nx C) = true := by
      cases k <;> first | exact h | exact (hk ⟨_, _, _, rfl⟩).elim | exact (hk2 ⟨_, _, rfl⟩).elim
    simp only [Bool.and_eq_true] at h
    refine ⟨xtraB_ok h.1, ?_⟩
    have hw : k.wp P ρ H nx D := wp_mono' (K.run_ok (P := P) (fun _ _ _ _ _ hh => by cases hh) h.2) hC
    cases k <;> first | exact hw | (have := h.1; simp [xtraB] at this)
theorem trRun_ok {call : CallB} (hc : CallOK P call) {fm : Bool} {b0 : Nat} {Q : TK} : ∀ (p : PT) {e : List (Nat × AV)} {t : Tr} {H : List VObj} {nx : Nat}, Agr e t → trRun call fm b0 Q p t H nx = true → VTrL P fm b0 (TQ Q) p ⟨e, H, nx⟩ := by
  intro p
  induction p with
  | done => intro e t H nx ha h; exact ⟨t, ha, h⟩
  | both s u ihs iht => intro e t H nx ha h; simp only [trRun, Bool.and_eq_true] at h; exact ⟨ihs ha h.1, iht ha h.2⟩
  | one o p ih =>
    intro e t H nx ha h
    obtain ⟨d, g, k⟩ := o
    have next : ∀ {e : List (Nat × AV)}, Agr e t → ∀ r H' nx', (t.puts d r fun e => trRun call fm b0 Q p e H' nx') = true → VTrL P fm b0 (TQ Q) p (St.put ⟨e, H', nx'⟩ d r) := fun {e} ha r H' nx' hh => by
      obtain ⟨t', h1, h2⟩ := Tr.puts_ok (H := H') (nx := nx') ha hh
      have := ih h2 h1
      rw [st_put e H' nx' d r]
      exact this
    have step : ∀ {e : List (Nat × AV)}, Agr e t → (k.runE call fm b0 (Go.V.evF t.get) H nx fun r H nx => t.puts d r fun e => trRun call fm b0 Q p e H nx) = true → k.wpD P fm b0 (Go.V.evF (get e)) H nx fun r H nx => VTrL P fm b0 (TQ Q) p (St.put ⟨e, H, nx⟩ d r) := fun {e} ha hh => by
      rw [ha.evF]
      exact runD_ok hc hh (next ha)
    cases g with
    | none => exact step ha h
    | some g =>
      obtain ⟨u, want⟩ := g
      simp only [trRun] at h
      simp only [VTrL]
      rw [ha u]
      split at h
      · rename_i e; rw [e]
        refine ⟨fun hw => ?_, fun hw => ?_⟩
        · subst hw; rw [if_pos rfl] at h; exact step (ha.lit e) h
        · cases want
          · rw [if_neg (by simp)] at h; exact next (ha.lit e) _ _ _ h
          · cases hw
      · rename_i e; rw [e]
        refine ⟨fun hw => ?_, fun hw => ?_⟩
        · subst hw; rw [if_neg (by simp)] at h; exact step (ha.lit e) h
        · cases want
          · cases hw
          · rw [if_pos rfl] at h; exact next (ha.lit e) _ _ _ h
      · rename_i e; rw [e]; exact next ha _ _ _ h
      · cases h
def VR.run (e : Tr) (H : List VObj) (nx : Nat) (C : AV → Bool) : VR → Bool
  | .tmp t => C (e.get t)
  | .cell t ag n => (K.ld ag n (.tmp t)).run (fun _ _ _ _ _ => false) (evF e.get) H nx fun r _ _ => C r
def vrsRun (e : Tr) (H : List VObj) (nx : Nat) : List VR → (List AV → Bool) → Bool
  | [], C => C []
  | r :: rs, C => r.run e H nx fun x => vrsRun e H nx rs fun xs => C (x :: xs)
def retRun (e : Tr) (H : List VObj) (nx : Nat) (C : AV → Bool) (rs : List VR) : Bool := match rs with
  | [r] => r.run e H nx C
  | rs => vrsRun e H nx rs fun xs => C (.tup xs)
theorem VR.run_ok {e : List (Nat × AV)} {t : Tr} {H : List VObj} {nx : Nat} (ha : Agr e t) {C : AV → Bool} {r : VR} (h : r.run t H nx C = true) : r.wp P ⟨e, H, nx⟩ fun x => C x = true := by
  cases r with
  | tmp u => show C (get e u) = true; rw [ha u]; exact h
  | cell u ag n =>
    simp only [VR.run] at h
    simp only [VR.wp]
    rw [ha.evF]
    exact K.run_ok (P := P) (fun _ _ _ _ _ hh => by cases hh) h
theorem VR.wp_mono {st : St} {C C' : AV → Prop} {r : VR} (h : r.wp P st C) (hC : ∀ x, C x → C' x) : r.wp P st C' := by
  cases r with
  | tmp t => exact hC _ h
  | cell t ag n =>
    simp only [VR.wp] at h ⊢
    exact wp_mono' (P := P) h fun r _ _ hh => hC r hh
theorem VRs_mono {st : St} : ∀ {rs : List VR} {C C' : List AV → Prop}, VRs P st rs C → (∀ xs, C xs → C' xs) → VRs P st rs C'
  | [], _, _, h, hC => hC _ h
  | r :: rs, _, _, h, hC => VR.wp_mono h fun x hx => VRs_mono hx fun xs hh => hC _ hh
theorem retW_mono {st : St} {rs : List VR} {C C' : AV → Prop} (h : retW P st C rs) (hC : ∀ x, C x → C' x) : retW P st C' rs := by
  cases rs with
  | nil => exact hC _ h
  | cons r rs =>
    cases rs with
    | nil => exact VR.wp_mono h hC
    | cons r' rs => exact VRs_mono (rs := r :: r' :: rs) (C := fun xs => C (.tup xs)) (C' := fun xs => C' (.tup xs)) h fun xs hh => hC _ hh
theorem vrsRun_ok {e : List (Nat × AV)} {t : Tr} {H : List VObj} {nx : Nat} (ha : Agr e t) : ∀ {rs : List VR} {C : List AV → Bool}, vrsRun t H nx rs C = true → VRs P ⟨e, H, nx⟩ rs fun xs => C xs = true
  | [], _, h => h
  | r :: rs, C, h => VR.wp_mono (VR.run_ok ha h) fun x hx => vrsRun_ok ha hx
theorem retRun_ok {e : List (Nat × AV)} {t : Tr} {H : List VObj} {nx : Nat} (ha : Agr e t) {C : AV → Bool} {rs : List VR} (h : retRun t H nx C rs = true) : retW P ⟨e, H, nx⟩ (fun x => C x = true) rs := by
  cases rs with
  | nil => exact h
  | cons r rs =>
    cases rs with
    | nil => exact VR.run_ok ha h
    | cons r' rs => exact vrsRun_ok (C := fun xs => C (.tup xs)) ha h
abbrev Tab := List (Nat × Nat × VC × List VR)
def Tab.find (f : Nat) : Tab → Option (Nat × VC × List VR)
  | [] => none
  | (g, e) :: t => if Nat.beq g f then some e else Tab.find f t
def TabOK (P : Program) (T : Tab) : Prop := ∀ p ∈ T, compF P p.1 = some p.2
theorem Tab.find_ok {f : Nat} {e : Nat × VC × List VR} : ∀ {T : Tab}, TabOK P T → T.find f = some e → compF P f = some e
  | [], _, h => by cases h
  | (g, x) :: t, ho, h => by
    simp only [Tab.find] at h
    split at h
    · rename_i hg
      cases h
      have := ho (g, e) (by simp)
      rw [Nat.eq_of_beq_eq_true hg] at this
      exact this
    · exact Tab.find_ok (fun p hp => ho p (by simp [hp])) h
def argTr : Nat → Tr → List AV → (Tr → Bool) → Bool
  | _, t, [], k => k t
  | i, t, x :: xs, k => Tr.put 24 t i x fun t => argTr (i + 1) t xs k
theorem argTr_ok : ∀ (xs : List AV) (i : Nat) (t : Tr) (k : Tr → Bool), argTr i t xs k = true → ∃ t', k t' = true ∧ ∀ m, t'.get m = if i ≤ m ∧ m < i + xs.length then (xs[m - i]?).getD .dead else t.get m
  | [], i, t, k, h => ⟨t, h, fun m => by rw [if_neg (by simp only [List.length_nil]; omega)]⟩
  | x :: xs, i, t, k, h => by
    obtain ⟨t1, h1, h2⟩ := Tr.put_ok _ _ _ _ _ h
    obtain ⟨t2, h3, h4⟩ := argTr_ok xs (i + 1) t1 k h1
    refine ⟨t2, h3, fun m => ?_⟩
    rw [h4 m, h2 m]
    simp only [List.length_cons]
    by_cases e : i = m
    · subst e
      rw [if_neg (by omega), if_pos rfl, if_pos (by omega)]
      simp
    · rw [if_neg e]
      by_cases e2 : i + 1 ≤ m ∧ m < i + 1 + xs.length
      · rw [if_pos e2, if_pos (by omega), show m - i = (m - (i + 1)) + 1 by omega, List.getElem?_cons_succ]
      · rw [if_neg e2, if_neg (by omega)]
theorem argTr_agr {xs : List AV} {k : Tr → Bool} (h : argTr 0 .nil xs k = true) : ∃ t, k t = true ∧ Agr (argEnv 0 xs) t := by
  obtain ⟨t, h1, h2⟩ := argTr_ok xs 0 .nil k h
  refine ⟨t, h1, fun m => ?_⟩
  rw [h2 m, get_argEnv]
  simp only [Nat.zero_le, true_and, if_true, Nat.zero_add, Nat.sub_zero]
  split
  · rfl
  · rename_i hm; rw [List.getElem?_eq_none (by omega)]; rfl
def vcRun (T : Tab) : Nat → VC → (VE → TK) → TK
  | 0, _, _, _, _, _ => false
  | n + 1, c, k, e, H, nx => match c with
    | .skip => k .normal e H nx
    | .ops l => opsRun (fun g args H nx C => match T.find g with
      | some (N, vc, rs) => decide (args.length ≤ N) && argTr 0 .nil args fun t => vcRun T n vc (fun e t H nx => match e with
        | .exit _ => false
        | _ => retRun t H nx (fun r => C r H nx) rs) t H nx
      | none => false) l (k .normal) e H nx
    | .par fm t => forceN H.length fun b => trRun (fun g args H nx C => match T.find g with
      | some (N, vc, rs) => decide (args.length ≤ N) && argTr 0 .nil args fun t => vcRun T n vc (fun e t H nx => match e with
        | .exit _ => false
        | _ => retRun t H nx (fun r => C r H nx) rs) t H nx
      | none => false) fm b (k .normal) t e H nx
    | .park _ _ => false
    | .seq x y => vcRun T n x (fun e t H nx => match e with
      | .normal => vcRun T n y k t H nx
      | .exit id => k (.exit id) t H nx
      | .ret => k .ret t H nx) e H nx
    | .cond c x y => match evF e.get c with
      | .val (.bool true) => vcRun T n x k e H nx
      | .val (.bool false) => vcRun T n y k e H nx
      | _ => false
    | .block id x => vcRun T n x (fun e t H nx => match e with
      | .normal => k .normal t H nx
      | .exit j => if Nat.beq j id then k .normal t H nx else k (.exit j) t H nx
      | .ret => k .ret t H nx) e H nx
    | .loop x => vcRun T n x (fun e t H nx => match e with
      | .normal => vcRun T n (.loop x) k t H nx
      | .exit id => k (.exit id) t H nx
      | .ret => k .ret t H nx) e H nx
    | .range .. => false
    | .exit id => k (.exit id) e H nx
    | .ret => k .ret e H nx
theorem vcRun_ok {T : Tab} (hm : P.follows .mixedOrders = true) (hT : TabOK P T) (n : Nat) : ∀ (m : Nat), m ≤ n → ∀ (c : VC) (k : VE → TK) (e : List (Nat × AV)) (t : Tr) (H : List VObj) (nx : Nat), Agr e t → vcRun T m c k t H nx = true → VW P c (fun x => TQ (k x)) ⟨e, H, nx⟩ := by
  induction n with
  | zero => intro m hmn c k e t H nx ha h; obtain rfl : m = 0 := by omega
            simp [vcRun] at h
  | succ n ih =>
    intro m hmn c k e t H nx ha h
    cases m with
    | zero => simp [vcRun] at h
    | succ m =>
      have hmn' : m ≤ n := by omega
      cases c with
      | skip => exact ⟨t, ha, h⟩
      | ops l =>
        simp only [vcRun] at h
        refine opsRun_ok (P := P) (fun g args H nx C hh => ?_) l ha h
        split at hh
        · rename_i N vc rs e
          simp only [Bool.and_eq_true, decide_eq_true_eq] at hh
          obtain ⟨t1, h1, h2⟩ := argTr_agr hh.2
          refine VCall.of_body hm (Tab.find_ok hT e) hh.1 ?_
          refine VW_mono _ _ _ _ (fun x st' hk => ?_) (ih m hmn' _ _ _ _ _ _ h2 h1)
          obtain ⟨t3, h3, h4⟩ := hk
          cases x with
          | normal => exact retRun_ok h3 h4
          | ret => exact retRun_ok h3 h4
          | exit id => simp at h4
        · cases hh
      | park fm p => simp only [vcRun] at h; cases h
      | par fm p =>
        simp only [vcRun, forceN_eq] at h
        refine trRun_ok (P := P) (fun g args H nx C hh => ?_) p ha h
        split at hh
        · rename_i N vc rs e
          simp only [Bool.and_eq_true, decide_eq_true_eq] at hh
          obtain ⟨t1, h1, h2⟩ := argTr_agr hh.2
          refine VCall.of_body hm (Tab.find_ok hT e) hh.1 ?_
          refine VW_mono _ _ _ _ (fun x st' hk => ?_) (ih m hmn' _ _ _ _ _ _ h2 h1)
          obtain ⟨t3, h3, h4⟩ := hk
          cases x with
          | normal => exact retRun_ok h3 h4
          | ret => exact retRun_ok h3 h4
          | exit id => simp at h4
        · cases hh
      | seq x y =>
        simp only [vcRun] at h
        rw [VW_seq]
        refine VW_mono _ _ _ _ (fun x st' hk => ?_) (ih m hmn' _ _ _ _ _ _ ha h)
        obtain ⟨t3, h3, h4⟩ := hk
        cases x with
        | normal => exact ih m hmn' _ _ _ _ _ _ h3 h4
        | exit id => exact ⟨t3, h3, h4⟩
        | ret => exact ⟨t3, h3, h4⟩
      | cond c x y =>
        simp only [vcRun] at h
        rw [VW_cond, ha.evF]
        split at h
        · rename_i e; rw [e]; exact ih m hmn' _ _ _ _ _ _ (ha.litE e) h
        · rename_i e; rw [e]; exact ih m hmn' _ _ _ _ _ _ (ha.litE e) h
        · cases h
      | block id x =>
        simp only [vcRun] at h
        rw [VW_block]
        refine VW_mono _ _ _ _ (fun x st' hk => ?_) (ih m hmn' _ _ _ _ _ _ ha h)
        obtain ⟨t3, h3, h4⟩ := hk
        cases x with
        | normal => exact ⟨t3, h3, h4⟩
        | exit j =>
          simp only [VE.blk]
          simp only [Nat.beq_eq] at h4
          split at h4
          · rename_i hj; rw [if_pos hj]; exact ⟨t3, h3, h4⟩
          · rename_i hj; rw [if_neg hj]; exact ⟨t3, h3, h4⟩
        | ret => exact ⟨t3, h3, h4⟩
      | loop x =>
        simp only [vcRun] at h
        refine ⟨fun j s => j ≤ n ∧ ∃ t, Agr s.env t ∧ vcRun T j x (fun e t H nx => match e with
          | .normal => vcRun T j (.loop x) k t H nx
          | .exit id => k (.exit id) t H nx
          | .ret => k .ret t H nx) t s.H s.nx = true, m, ⟨e, H, nx⟩, Wk.refl _, ⟨hmn', t, ha, h⟩, ?_⟩
        intro j s ⟨hj, t, ht, hs⟩
        refine VW_mono _ _ _ _ (fun x st' hk => ?_) (ih j hj _ _ _ _ _ _ ht hs)
        obtain ⟨t3, h3, h4⟩ := hk
        cases x with
        | normal =>
          cases j with
          | zero => simp [vcRun] at h4
          | succ j =>
            simp only [vcRun] at h4
            exact ⟨st', j, by omega, Wk.refl _, by omega, t3, h3, h4⟩
        | exit id => exact ⟨t3, h3, h4⟩
        | ret => exact ⟨t3, h3, h4⟩
      | range g ps x => simp [vcRun] at h
      | exit id => exact ⟨t, ha, h⟩
      | ret => exact ⟨t, ha, h⟩
end
end Go.V
