/-
  The engine, part 11: code run on data that is known, by a function that the kernel can reckon. No condition.
-/
import Derived.Test.YtaedcpipilnpcaaUE
set_option linter.unusedVariables false
set_option linter.unusedSimpArgs false
namespace Go.V
set_option linter.unusedSimpArgs false
set_option linter.unusedVariables false
open Go.RowKit
def forceN (n : Nat) (k : Nat → Bool) : Bool := match n with
  | 0 => k 0
  | m + 1 => k (m + 1)
def forceI (n : Int) (k : Int → Bool) : Bool := match n with
  | .ofNat m => forceN m fun m => k (.ofNat m)
  | .negSucc m => forceN m fun m => k (.negSucc m)
def forceL {α : Type} : List α → (List α → Bool) → Bool
  | [], k => k []
  | x :: xs, k => forceL xs fun ys => k (x :: ys)
def forceA (x : AV) (k : AV → Bool) : Bool := match x with
  | .val v => k (.val v)
  | y => k y
def forceV (v : Value) (k : Value → Bool) : Bool := match v with
  | .int i n => forceI n fun n => k (.int i n)
  | .bool true => k (.bool true)
  | .bool false => k (.bool false)
  | v => k v
def ldOKb (ag : Bool) (n : Nat) : AV → Bool
  | .agg cs => ag && cs.length == n
  | y => !ag && y.one
def stoOKb (ag : Bool) (n : Nat) : AV → Bool
  | .agg cs => ag && cs.all AV.one && cs.length == n
  | y => !ag && y.one
def binOKb (op : BinOp) : Value → Value → Bool
  | .int k _, .int k' b =>
    match op with
    | .quo => decide (k = k') && b != 0
    | .rem => decide (k = k') && b != 0
    | .shl => decide (0 ≤ b)
    | .shr => decide (0 ≤ b)
    | _ => decide (k = k')
  | .string a, .string b =>
    match op with
    | .add => decide (a.size + b.size ≤ maxLen)
    | .eql => true
    | .neq => true
    | .lss => true
    | .leq => true
    | .gtr => true
    | .geq => true
    | _ => false
  | _, _ => false
def unOKb (op : UnOp) : Value → Bool
  | .bool _ => match op with
    | .not => true
    | _ => false
  | .int .. => match op with
    | .neg => true
    | .xor => true
    | _ => false
  | _ => false
def fillOKb (n : Nat) : List (Nat × Nat × AV) → Bool
  | [] => true
  | (off, size, x) :: rest => x.laid && x.cells.length == size && decide (off + size ≤ n) && fillOKb n rest
def partOKb (cs : List AV) (off : Nat) (ag : Bool) (n : Nat) : Bool := decide (off + n ≤ cs.length) && (ag || (n == 1 && (cs.getD off .dead).one))
def addedOKb (H : List VObj) (sz : Nat) : AV → Bool
  | .imm sz' ys => sz' == sz && ys.all AV.laid
  | .ref id s _ _ => match H[id]? with
    | some ⟨s', _, sz', cs⟩ => s' == s && sz' == sz && cs.all AV.one
    | none => false
  | .val (.slice none 0 0) => true
  | _ => false
def oldAb (A : Nat → Bool) : AV → Bool
  | .ptr id _ _ => A id
  | .ref id _ _ _ => A id
  | .mref id _ => A id
  | _ => true
def oldLb (A : Nat → Bool) : List AV → Bool
  | [] => true
  | x :: xs => oldAb A x && oldLb A xs
def xtraB (fm : Bool) (b : Nat) (ρ : Operand → AV) : K → Bool
  | .idx _ x _ => oldAb (fun id => !fm || decide (id < b)) (ρ x)
  | .aidx _ _ _ x _ => oldAb (fun id => !fm || decide (id < b)) (ρ x)
  | .fad _ _ _ x => oldAb (fun id => !fm || decide (id < b)) (ρ x)
  | .len x => oldAb (fun id => !fm || decide (id < b)) (ρ x)
  | .sl _ x _ _ => oldAb (fun id => !fm || decide (id < b)) (ρ x)
  | .nck x => oldAb (fun id => !fm || decide (id < b)) (ρ x)
  | .ld _ _ x => oldAb (fun id => !fm || decide (id < b)) (ρ x)
  | .app _ _ _ x _ => !fm || oldAb (fun id => decide (b ≤ id)) (ρ x)
  | .sto _ _ x _ => !fm || oldAb (fun id => decide (b ≤ id)) (ρ x)
  | .see _ xs => oldLb (fun id => !fm || decide (id < b)) (evs ρ xs)
  | .eff op _ => op.adds || !fm
  | .ycal .. => false
  | .call .. => false
  | .callA .. => false
  | .callM .. => false
  | _ => true
def eqB : List LK → List AV → List AV → Bool → (Bool → Bool) → Bool
  | [], [], [], acc, C => C acc
  | .int :: ks, .val (.int k a) :: xs, .val (.int k' b) :: ys, acc, C => decide (k = k') && eqB ks xs ys (acc && (a == b)) C
  | .bool :: ks, .val (.bool a) :: xs, .val (.bool b) :: ys, acc, C => eqB ks xs ys (acc && (a == b)) C
  | .str :: ks, .val (.string a) :: xs, .val (.string b) :: ys, acc, C => eqB ks xs ys (acc && (a.data.toList == b.data.toList)) C
  | _, _, _, _, _ => false
def POp.run : POp → List AV → (AV → Bool) → Bool
  | .six, [.val (.string s), .val (.int _ k)], C => decide (0 ≤ k) && decide (k.toNat < s.size) && forceV (.int .u8 (byteAt s k.toNat)) fun v => C (.val v)
  | .ixv n ag sz, [.agg cs, .val (.int _ k)], C => decide (0 ≤ k) && decide (k.toNat < n) && partOKb cs (k.toNat * sz) ag sz && C (partA cs (k.toNat * sz) ag sz)
  | .eqv neg ks, [.agg xs, .agg ys], C => eqB ks xs ys true fun b => forceV (.bool (if neg then !b else b)) fun v => C (.val v)
  | .mx, [.val (.int k a), .val (.int _ b)], C => forceV (.int k (if b > a then b else a)) fun v => C (.val v)
  | .mn, [.val (.int k a), .val (.int _ b)], C => forceV (.int k (if b < a then b else a)) fun v => C (.val v)
  | .nilq neg, [.fn _ _], C => C (.val (.bool neg))
  | .nilq neg, [.bm _ _], C => C (.val (.bool neg))
  | .nilq neg, [.val .nilFunc], C => C (.val (.bool (!neg)))
  | .nils neg, [.imm _ xs], C => !xs.isEmpty && C (.val (.bool neg))
  | .nils neg, [.val (.slice none 0 0)], C => C (.val (.bool (!neg)))
  | _, _, _ => false
def lookB (k : Value) : List AV → (Option AV → Bool) → Bool
  | [], C => C none
  | .val k' :: v :: l, C => (match k, k' with
    | .int i a, .int j b => decide (i = j) && (if a = b then C (some v) else lookB k l C)
    | _, _ => false)
  | _, _ => false
def SOp.run (H : List VObj) : SOp → List AV → (AV → Bool) → Bool
  | .b2s, [.val (.slice none 0 0)], C => C (.val (.string .empty))
  | .b2s, [.imm sz xs], C => sz == 1 && (match bytesOf xs with | some l => forceL l fun l => C (.val (.string ⟨l.toArray⟩)) | none => false)
  | .b2s, [.ref id s off len], C => (match H[id]? with
    | some ob => ob.s == s && ob.sz == 1 && (match bytesOf ((ob.cs.drop off).take len) with | some l => forceL l fun l => C (.val (.string ⟨l.toArray⟩)) | none => false)
    | none => false)
  | .look ok z, [.mref id s, .val (.int i a)], C => (match H[id]? with
    | some ob => ob.s == s && ob.sz == 0 && lookB (.int i a) ob.cs fun r =>
        let v := match r with
          | some v => v
          | none => cv z
        C (if ok then .tup [v, .val (.bool r.isSome)] else v)
    | none => false)
  | _, _, _ => false
abbrev KK := AV → List VObj → Nat → Bool
def mapOKb (i : IntKind) : List AV → Bool
  | [] => true
  | .val (.int j _) :: v :: l => decide (j = i) && v.one && mapOKb i l
  | _ => false
theorem mapOKb_ok {i : IntKind} : ∀ {l : List AV}, mapOKb i l = true → mapOK i l
  | [], _ => trivial
  | [c], h => by cases c <;> (try cases h); rename_i v; cases v <;> simp [mapOKb] at h
  | c :: v :: l, h => by
    cases c <;> try (simp [mapOKb] at h; done)
    rename_i u
    cases u <;> try (simp [mapOKb] at h; done)
    simp only [mapOKb, Bool.and_eq_true, decide_eq_true_eq] at h
    exact ⟨h.1.1, h.1.2, mapOKb_ok h.2⟩
def EOp.run (H : List VObj) (nx : Nat) (C : KK) : EOp → List AV → Bool
  | .cpy sz, [.ref id s off len, y] => (match H[id]? with
    | some ob => ob.s == s && ob.sz == sz && addedOKb H sz y && forceN (min len (addedN y)) fun n =>
        forceL (ob.cs.take off ++ (addedCells H sz y).take (n * sz) ++ ob.cs.drop (off + n * sz)) fun cs' => forceL (H.set id ⟨ob.s, ob.ty, ob.sz, cs'⟩) fun H' => C (.val (.int .i64 n)) H' nx
    | none => false)
  | .clr z, [.ref id s off len] => (match H[id]? with
    | some ob => ob.s == s && ob.sz == 1 && forceL (ob.cs.take off ++ List.replicate len (.val z) ++ ob.cs.drop (off + len)) fun cs' => forceL (H.set id ⟨ob.s, ob.ty, ob.sz, cs'⟩) fun H' => C (.tup []) H' nx
    | none => false)
  | .s2b ty, [.val (.string b)] => decide (b.size ≤ 70368744177664) && forceN b.size fun n => forceN H.length fun id => forceN (nx + 1) fun nx' => forceL (b.data.toList.map fun c => .val (.int .u8 (c.toNat : Nat))) fun cs => forceL (H ++ [⟨nx, ty, 1, cs⟩]) fun H' => C (.ref id nx 0 n) H' nx'
  | .mkm, [] => forceN H.length fun id => forceN (nx + 1) fun nx' => forceL (H ++ [⟨nx, 0, 0, []⟩]) fun H' => C (.mref id nx) H' nx'
  | .upd, [.mref id s, .val (.int i a), v] => (match H[id]? with
    | some ob => ob.s == s && ob.sz == 0 && mapOKb i ob.cs && v.one && forceL (updA (.int i a) v ob.cs) fun cs' => forceL (H.set id ⟨ob.s, ob.ty, ob.sz, cs'⟩) fun H' => C (.val undef) H' nx
    | none => false)
  | _, _ => false
abbrev CallB := Nat → List AV → List VObj → Nat → KK → Bool
def K.run (call : CallB) (ρ : Operand → AV) (H : List VObj) (nx : Nat) (C : KK) : K → Bool
  | .mv x => forceA (ρ x) fun y => C y H nx
  | .pick c a b => match ρ c with
    | .val (.bool true) => forceA (ρ a) fun y => C y H nx
    | .val (.bool false) => forceA (ρ b) fun y => C y H nx
    | _ => false
  | .ld ag n x => match ρ x with
    | .ip y => ldOKb ag n y && C y H nx
    | .ptr id s off => match H[id]? with
      | some ⟨s', _, _, cs⟩ => s' == s && partOKb cs off ag n && (if ag then forceL ((cs.drop off).take n) fun l => C (.agg l) H nx else forceA (cs.getD off .dead) fun y => C y H nx)
      | none => false
    | _ => false
  | .sto ag n x y => match ρ x with
    | .ptr id s off => match H[id]? with
      | some ⟨s', ty, sz, cs⟩ => s' == s && decide (off + n ≤ cs.length) && stoOKb ag n (ρ y) &&
          forceL (putA cs off (ρ y)) fun cs' => forceL (H.set id ⟨s', ty, sz, cs'⟩) fun H' => C (.val undef) H' nx
      | none => false
    | _ => false
  | .idx sz x i => match ρ x, ρ i with
    | .imm sz' xs, .val (.int _ k) => sz' == sz && decide (0 ≤ k) && decide (k.toNat < xs.length) && (forceA (xs.getD k.toNat .dead) fun y => C (.ip y) H nx)
    | .ref id s off ln, .val (.int _ k) => match H[id]? with
      | some ⟨s', _, sz', _⟩ => s' == s && sz' == sz && decide (0 ≤ k) && decide (k.toNat < ln) && forceN (off + k.toNat * sz) fun o => C (.ptr id s o) H nx
      | none => false
    | _, _ => false
  | .aidx n0 ag sz x i => match ρ x, ρ i with
    | .ip (.agg cs), .val (.int _ k) => decide (0 ≤ k) && decide (k.toNat < n0) && partOKb cs (k.toNat * sz) ag sz && C (.ip (partA cs (k.toNat * sz) ag sz)) H nx
    | .ptr id s off, .val (.int _ k) => match H[id]? with
      | some ⟨s', _, _, _⟩ => s' == s && decide (0 ≤ k) && decide (k.toNat < n0) && forceN (off + k.toNat * sz) fun o => C (.ptr id s o) H nx
      | none => false
    | _, _ => false
  | .fad off ag n x => match ρ x with
    | .ip (.agg cs) => partOKb cs off ag n && C (.ip (partA cs off ag n)) H nx
    | .ptr id s o => match H[id]? with
      | some ⟨s', _, _, _⟩ => s' == s && forceN (o + off) fun o => C (.ptr id s o) H nx
      | none => false
    | _ => false
  | .fld off ag n x => match ρ x with
    | .agg cs => partOKb cs off ag n && (if ag then forceL ((cs.drop off).take n) fun l => C (.agg l) H nx else forceA (cs.getD off .dead) fun y => C y H nx)
    | _ => false
  | .len x => match ρ x with
    | .imm _ xs => forceN xs.length fun n => C (.val (.int .i64 n)) H nx
    | .ref id s _ ln => match H[id]? with
      | some ⟨s', _, _, _⟩ => s' == s && C (.val (.int .i64 ln)) H nx
      | none => false
    | .val (.slice none 0 0) => C (.val (.int .i64 0)) H nx
    | _ => false
  | .lens x => match ρ x with
    | .val (.string s) => forceN s.size fun n => C (.val (.int .i64 n)) H nx
    | _ => false
  | .bin op x y => match ρ x, ρ y with
    | .val a, .val b => binOKb op a b && forceV (binR op a b) fun v => C (.val v) H nx
    | _, _ => false
  | .beq neg x y => match ρ x, ρ y with
    | .val (.bool a), .val (.bool b) => forceV (.bool (if neg then !(a == b) else a == b)) fun v => C (.val v) H nx
    | _, _ => false
  | .un op x => match ρ x with
    | .val a => unOKb op a && forceV (unR op a) fun v => C (.val v) H nx
    | _ => false
  | .conv k x => match ρ x with
    | .val (.int _ n) => forceV (.int k (k.wrap n)) fun v => C (.val v) H nx
    | _ => false
  | .sl sz x lo hi => match ρ x with
    | .imm sz' xs => match boundOf ρ 0 lo, boundOf ρ xs.length hi with
      | some l, some h => sz' == sz && decide (0 ≤ l) && decide (l ≤ h) && decide (h ≤ xs.length) && forceL ((xs.take h.toNat).drop l.toNat) fun l => C (.imm sz l) H nx
      | _, _ => false
    | .ref id s off ln => match H[id]? with
      | some ⟨s', _, sz', _⟩ => match boundOf ρ 0 lo, boundOf ρ ln hi with
        | some l, some h => s' == s && sz' == sz && decide (0 ≤ l) && decide (l ≤ h) && decide (h ≤ ln) && forceN (off + l.toNat * sz) fun o => forceN (h.toNat - l.toNat) fun n => C (.ref id s o n) H nx
        | _, _ => false
      | none => false
    | .val (.slice none 0 0) => match boundOf ρ 0 lo, boundOf ρ 0 hi with
      | some l, some h => decide (l = 0) && decide (h = 0) && C (.val (.slice none 0 0)) H nx
      | _, _ => false
    | _ => false
  | .sls x lo hi => match ρ x with
    | .val (.string t) => match boundOf ρ 0 lo, boundOf ρ t.size hi with
      | some l, some h => decide (0 ≤ l) && decide (l ≤ h) && decide (h ≤ t.size) && C (.val (.string (t.extract l.toNat h.toNat))) H nx
      | _, _ => false
    | _ => false
  | .mk ty sz bytes z n c => match ρ n, ρ c with
    | .val (.int _ l), .val (.int _ k) => decide (0 ≤ l) && decide (l ≤ k) && decide (k ≤ 140737488355328) && decide (k * bytes ≤ 140737488355328) &&
        forceN l.toNat fun ln => forceN H.length fun id => forceN (nx + 1) fun nx' => forceL (List.replicate ln (z.map AV.val)).flatten fun cs => forceL (H ++ [⟨nx, ty, sz, cs⟩]) fun H' => C (.ref id nx 0 ln) H' nx'
    | _, _ => false
  | .app ty sz bytes x y => addedOKb H sz (ρ y) && (match ρ x with
    | .val (.slice none 0 0) => decide (addedN (ρ y) ≤ maxLen) && decide (addedN (ρ y) * bytes ≤ 140737488355328) &&
        forceN (addedN (ρ y)) fun ln => forceN H.length fun id => forceN (nx + 1) fun nx' => forceL (addedCells H sz (ρ y)) fun cs => forceL (H ++ [⟨nx, ty, sz, cs⟩]) fun H' => C (.ref id nx 0 ln) H' nx'
    | .ref id s off ln => match H[id]? with
      | some ⟨s', ty', sz', cs⟩ => s' == s && ty' == ty && sz' == sz && decide (ln + addedN (ρ y) ≤ maxLen) && decide ((ln + addedN (ρ y)) * bytes ≤ 140737488355328) &&
          forceN (ln + addedN (ρ y)) fun ln' => forceN (nx + 1) fun nx' => forceL ((cs.drop off).take (ln * sz) ++ addedCells H sz (ρ y)) fun cs' => forceL (H.set id ⟨nx, ty, sz, cs'⟩) fun H' => C (.ref id nx 0 ln') H' nx'
      | none => false
    | _ => false)
  | .bsl ty sz n z parts => fillOKb (n * sz) (partsOf ρ parts) && forceN H.length fun id => forceN (nx + 1) fun nx' => forceL (fillA (z.map AV.val) (partsOf ρ parts)) fun cs => forceL (H ++ [⟨nx, ty, sz, cs⟩]) fun H' => C (.ref id nx 0 n) H' nx'
  | .bld z parts => fillOKb z.length (partsOf ρ parts) && forceL (fillA (z.map AV.val) (partsOf ρ parts)) fun cs => C (.agg cs) H nx
  | .box ty x => (ρ x).laid && forceN H.length fun id => forceN (nx + 1) fun nx' => forceL (ρ x).cells fun cs => forceL (H ++ [⟨nx, ty, 1, cs⟩]) fun H' => C (.ptr id nx 0) H' nx'
  | .alc ty z => forceN H.length fun id => forceN (nx + 1) fun nx' => forceL (z.map AV.val) fun cs => forceL (H ++ [⟨nx, ty, 1, cs⟩]) fun H' => C (.ptr id nx 0) H' nx'
  | .mkf f cs => forceL (evs ρ cs) fun vs => C (.fn f vs) H nx
  | .mkb f cs => forceL (evs ρ cs) fun vs => C (.bm f vs) H nx
  | .nck x => match ρ x with
    | .ip y => C (.ip y) H nx
    | .ptr id s off => match H[id]? with
      | some ⟨s', _, _, _⟩ => s' == s && C (.ptr id s off) H nx
      | none => false
    | .fn f cs => C (.fn f cs) H nx
    | .bm f cs => C (.bm f cs) H nx
    | _ => false
  | .ext x i => match ρ x with
    | .tup cs => decide (i < cs.length) && C (cs.getD i .dead) H nx
    | _ => false
  | .call f args => match ρ f with
    | .fn g cs => forceL (evs ρ args ++ cs) fun vs => call g vs H nx C
    | .bm g cs => forceL (cs ++ evs ρ args) fun vs => call g vs H nx C
    | _ => false
  | .callA f args => match ρ f with
    | .fn g cs => forceL (evs ρ args ++ cs) fun vs => call g vs H nx C
    | .bm g cs => forceL (cs ++ evs ρ args) fun vs => call g vs H nx C
    | _ => false
  | .callM st f args => match ρ f with
    | .fn g cs => forceL (evs ρ args ++ cs) fun vs => call g vs H nx C
    | .bm g cs => forceL (cs ++ evs ρ args) fun vs => call g vs H nx C
    | _ => false
  | .pur op xs => op.run (evs ρ xs) fun r => C r H nx
  | .see op xs => op.run H (evs ρ xs) fun r => C r H nx
  | .eff op xs => op.run H nx C (evs ρ xs)
  | .ycal .. => false
section
variable {P : Program}
def CallOK (P : Program) (call : CallB) : Prop := ∀ g args H nx C, call g args H nx C = true → VCall P g args H nx fun r H nx => C r H nx = true
inductive Tr where
  | nil
  | node (v : AV) (l r : Tr)
def Tr.get : Tr → Nat → AV
  | .nil, _ => .dead
  | .node v l r, n => match n with
    | 0 => v
    | n + 1 => match n % 2 with
      | 0 => l.get (n / 2)
      | _ + 1 => r.get (n / 2)
def Tr.put : Nat → Tr → Nat → AV → (Tr → Bool) → Bool
  | 0, _, _, _, _ => false
  | f + 1, .nil, n, x, k => match n with
    | 0 => k (.node x .nil .nil)
    | n + 1 => match n % 2 with
      | 0 => Tr.put f .nil (n / 2) x fun t => k (.node .dead t .nil)
      | _ + 1 => Tr.put f .nil (n / 2) x fun t => k (.node .dead .nil t)
  | f + 1, .node v l r, n, x, k => match n with
    | 0 => k (.node x l r)
    | n + 1 => match n % 2 with
      | 0 => Tr.put f l (n / 2) x fun t => k (.node v t r)
      | _ + 1 => Tr.put f r (n / 2) x fun t => k (.node v l t)
def Agr (e : List (Nat × AV)) (t : Tr) : Prop := ∀ n, get e n = t.get n
theorem Agr.litE {e : List (Nat × AV)} {t : Tr} (ha : Agr e t) {c : Operand} {b : Bool} (h : evF t.get c = .val (.bool b)) : Agr (litE c b e) t := by
  cases c with
  | tmp u =>
    intro n
    show (if u = n then AV.val (.bool b) else get e n) = t.get n
    split
    · rename_i hn; subst hn; exact h.symm
    · exact ha n
  | _ => exact ha
theorem Agr.evF {e : List (Nat × AV)} {t : Tr} (h : Agr e t) : evF (get e) = Go.V.evF t.get := by
  rw [show get e = t.get from funext h]
theorem Agr.lit {e : List (Nat × AV)} {t : Tr} (h : Agr e t) {u : Nat} {x : AV} (hx : t.get u = x) : Agr ((u, x) :: e) t := fun n => by
  rw [get_lit ((h u).trans hx)]; exact h n
def stabB : List VObj → List VObj → Bool
  | [], _ => true
  | o :: os, o' :: os' => o.s == o'.s && o.sz == o'.sz && stabB os os'
  | _ :: _, [] => false
def isB (want : Bool) : AV → Bool
  | .val (.bool b) => b == want
  | _ => false
def K.runE (call : CallB) (fm : Bool) (b : Nat) (ρ : Operand → AV) (H : List VObj) (nx : Nat) (C : KK) : K → Bool
  | .callM st f args => match ρ f with
    | .fn g cs => forceL (evs ρ args ++ cs) fun vs => call g vs H nx fun r H' nx' => (!st || stabB H H') && C r H' nx'
    | .bm g cs => forceL (cs ++ evs ρ args) fun vs => call g vs H nx fun r H' nx' => (!st || stabB H H') && C r H' nx'
    | _ => false
  | .call f args => match ρ f with
    | .fn g cs => forceL (evs ρ args ++ cs) fun vs => vs.all AV.pure && ((call g vs [] 0 (fun r _ _ => isB true r) && C (.val (.bool true)) H nx) || (call g vs [] 0 (fun r _ _ => isB false r) && C (.val (.bool false)) H nx))
    | _ => false
  | k => xtraB fm b ρ k && k.run (fun _ _ _ _ _ => false) ρ H nx C
def VR.run (e : Tr) (H : List VObj) (nx : Nat) (C : AV → Bool) : VR → Bool
  | .tmp t => C (e.get t)
  | .cell t ag n => (K.ld ag n (.tmp t)).run (fun _ _ _ _ _ => false) (evF e.get) H nx fun r _ _ => C r
theorem VR.wp_mono {st : St} {C C' : AV → Prop} {r : VR} (h : r.wp P st C) (hC : ∀ x, C x → C' x) : r.wp P st C' := by
  cases r with
  | tmp t => exact hC _ h
  | cell t ag n =>
    simp only [VR.wp] at h ⊢
    exact wp_mono' (P := P) h fun r _ _ hh => hC r hh
end
end Go.V
