/- The engine, part 2: the code of a function made small (types looked up once), and what it does said of data. No condition. -/
import Derived.Test.YtkbhfokbhkmfgaaGreatU1
import Derived.RangeFuncIn
set_option linter.unusedVariables false
set_option linter.unusedSimpArgs false
namespace Go.V
open Go.RowKit
structure St where
 env:List (Nat × AV)
 H:List VObj
 nx:Nat
deriving Inhabited
def get:List (Nat × AV)→Nat→AV
 | [],_=>.dead
 | (k,v)::e,n=>if k=n then v else get e n
def St.put (st:St) (d:Option Nat) (v:AV):St :=
 match d with
 | none=>st
 | some d=>{ st with env:=(d,v)::st.env }
def cv:Value→AV
 | .agg cs=>.agg (cs.toList.map .val)
 | v=>.val v
def evF (e:Nat→AV):Operand→AV
 | .tmp t=>e t
 | .const v=>cv v
 | .func f=>.fn f []
 | .global _=>.dead
def AV.cells:AV→List AV
 | .agg cs=>cs
 | x=>[x]
def AV.one:AV→Bool
 | .val v=>v.oneCell'
 | .imm ..=>true
 | .ip _=>true
 | .ref ..=>true
 | .ptr ..=>true
 | .fn ..=>true
 | .bm ..=>true
 | .yld ..=>true
 | .mref ..=>true
 | _=>false
def AV.laid:AV→Bool
 | .agg cs=>cs.all AV.one
 | x=>x.one
inductive LK where
 | int
 | bool
 | str
deriving Inhabited,DecidableEq
inductive POp where
 | six
 | ixv (len:Nat) (ag:Bool) (sz:Nat)
 | eqv (neg:Bool) (ks:List LK)
 | mx
 | mn
 | nilq (neg:Bool)
 | nils (neg:Bool)
deriving Inhabited
inductive SOp where
 | b2s
 | look (ok:Bool) (z:Value)
 | mlen
deriving Inhabited
inductive EOp where
 | cpy (sz:Nat)
 | clr (z:Value)
 | s2b (ty:Nat)
 | mkm
 | upd
 | nilr (neg:Bool)
deriving Inhabited
inductive K where
 | mv (x:Operand)
 | pick (c a b:Operand)
 | ld (ag:Bool) (n:Nat) (x:Operand)
 | sto (ag:Bool) (n:Nat) (x y:Operand)
 | idx (sz:Nat) (x i:Operand)
 | aidx (len:Nat) (ag:Bool) (sz:Nat) (x i:Operand)
 | fad (off:Nat) (ag:Bool) (n:Nat) (x:Operand)
 | fld (off:Nat) (ag:Bool) (n:Nat) (x:Operand)
 | len (x:Operand)
 | lens (x:Operand)
 | bin (op:BinOp) (x y:Operand)
 | beq (neg:Bool) (x y:Operand)
 | un (op:UnOp) (x:Operand)
 | conv (k:IntKind) (x:Operand)
 | sl (sz:Nat) (x:Operand) (lo hi:Option Operand)
 | sls (x:Operand) (lo hi:Option Operand)
 | mk (ty sz bytes:Nat) (z:List Value) (n c:Operand)
 | app (ty sz bytes:Nat) (x y:Operand)
 | bsl (ty sz n:Nat) (z:List Value) (parts:List (Nat × Nat × Operand))
 | bld (z:List Value) (parts:List (Nat × Nat × Operand))
 | box (ty:Nat) (x:Operand)
 | alc (ty:Nat) (z:List Value)
 | mkf (f:Nat) (cs:List Operand)
 | mkb (f:Nat) (cs:List Operand)
 | nck (x:Operand)
 | ext (x:Operand) (i:Nat)
 | call (f:Operand) (args:List Operand)
 | callA (f:Operand) (args:List Operand)
 | callM (st:Bool) (f:Operand) (args:List Operand)
 | pur (op:POp) (xs:List Operand)
 | see (op:SOp) (xs:List Operand)
 | eff (op:EOp) (xs:List Operand)
 | ycal (f:Operand) (args:List Operand)
deriving Inhabited
def K.quiet:K→Bool
 | .sto ..=>false
 | .mk ..=>false
 | .app ..=>false
 | .bsl ..=>false
 | .box ..=>false
 | .alc ..=>false
 | .call ..=>false
 | .callA ..=>false
 | .callM ..=>false
 | .eff ..=>false
 | .ycal ..=>false
 | _=>true
structure VOp where
 d:Option Nat
 g:Option (Nat × Bool)
 k:K
deriving Inhabited
def c0L (ag:Bool) (n:Nat):AV→Prop
 | .agg cs=>ag=true∧cs.length=n
 | y=>ag=false∧y.one=true
def b2r (ag:Bool) (n:Nat):AV→Prop
 | .agg cs=>ag=true∧cs.all AV.one=true∧cs.length=n
 | y=>ag=false∧y.one=true
def b7H (cs:List AV) (off:Nat):AV→List AV
 | .agg ds=>cs.take off++ds++cs.drop (off+ds.length)
 | y=>cs.set off y
def a1f (cs:List AV) (off:Nat) (ag:Bool) (n:Nat):AV:=if ag then .agg ((cs.drop off).take n) else cs.getD off .dead
def a0F (cs:List AV) (off:Nat) (ag:Bool) (n:Nat):Prop:=off+n≤cs.length∧(ag=true∨(n=1∧(cs.getD off .dead).one=true))
def b3R (op:BinOp):Value→Value→Value
 | .int k a,.int _ b =>
  match op with
  | .add=>.int k (k.wrap (a+b))
  | .sub=>.int k (k.wrap (a-b))
  | .mul=>.int k (k.wrap (a*b))
  | .quo=>.int k (k.wrap (a.tdiv b))
  | .rem=>.int k (a.tmod b)
  | .and=>.int k (k.wrap (BitVec.ofInt k.bits a &&& BitVec.ofInt k.bits b).toNat)
  | .or=>.int k (k.wrap (BitVec.ofInt k.bits a ||| BitVec.ofInt k.bits b).toNat)
  | .xor=>.int k (k.wrap (BitVec.ofInt k.bits a ^^^ BitVec.ofInt k.bits b).toNat)
  | .andNot=>.int k (k.wrap (BitVec.ofInt k.bits a &&& ~~~BitVec.ofInt k.bits b).toNat)
  | .shl=>.int k (k.wrap (a*2 ^ (min b.toNat k.bits)))
  | .shr=>.int k (a.fdiv (2 ^ (min b.toNat k.bits)))
  | .eql=>.bool (a == b)
  | .neq=>.bool (a != b)
  | .lss=>.bool (decide (a<b))
  | .leq=>.bool (decide (a≤b))
  | .gtr=>.bool (decide (b<a))
  | .geq=>.bool (decide (b≤a))
 | .string a,.string b =>
  match op with
  | .add=>.string (a++b)
  | .eql=>.bool (a.toList == b.toList)
  | .neq=>.bool (!(a.toList == b.toList))
  | .lss=>.bool (Op.bytesLess a.toList b.toList)
  | .leq=>.bool (Op.bytesLess a.toList b.toList || a.toList == b.toList)
  | .gtr=>.bool (!(Op.bytesLess a.toList b.toList || a.toList == b.toList))
  | _=>.bool (!(Op.bytesLess a.toList b.toList))
 | x,_=>x
def a6d (op:BinOp):Value→Value→Prop
 | .int k _,.int k' b =>
  match op with
  | .quo=>k=k'∧b≠0
  | .rem=>k=k'∧b≠0
  | .shl=>0≤b
  | .shr=>0≤b
  | _=>k=k'
 | .string a,.string b =>
  match op with
  | .add=>a.size+b.size≤maxLen
  | .eql=>True
  | .neq=>True
  | .lss=>True
  | .leq=>True
  | .gtr=>True
  | .geq=>True
  | _=>False
 | _,_=>False
def unR (op:UnOp):Value→Value
 | .bool b=>.bool (!b)
 | .int k n =>
  match op with
  | .neg=>.int k (k.wrap (0-n))
  | _=>.int k (k.wrap (BitVec.ofInt k.bits (if k.signed then -1 else k.max) ^^^ BitVec.ofInt k.bits n).toNat)
 | x=>x
def c0M (op:UnOp):Value→Prop
 | .bool _=>op = .not
 | .int ..=>op = .neg∨op = .xor
 | _=>False
def a5w:List AV→List (Nat × Nat × AV)→List AV
 | cs,[]=>cs
 | cs,(off,_,x)::rest=>a5w (cs.take off++x.cells++cs.drop (off+x.cells.length)) rest
def a3m (n:Nat):List (Nat × Nat × AV)→Prop
 | []=>True
 | (off,size,x)::rest=>x.laid=true∧x.cells.length=size∧off+size≤n∧a3m n rest
def a1i (ρ:Operand→AV):List (Nat × Nat × Operand)→List (Nat × Nat × AV)
 | []=>[]
 | (off,size,x)::rest=>(off,size,ρ x)::a1i ρ rest
def evs (ρ:Operand→AV):List Operand→List AV
 | []=>[]
 | x::xs=>ρ x::evs ρ xs
def a2N:List AV→List AV
 | []=>[]
 | x::xs=>x.cells++a2N xs
def a0V (ρ:Operand→AV) (d:Int):Option Operand→Option Int
 | none=>some d
 | some x=>match ρ x with
  | .val (.int _ k)=>some k
  | _=>none
def a2O (H:List VObj) (sz:Nat):AV→Prop
 | .imm sz' ys=>sz'=sz∧(∀ y ∈ ys,y.laid=true)
 | .ref id s _ _=>match H[id]? with
  | some ob=>ob.s=s∧ob.sz=sz∧ob.cs.all AV.one=true
  | none=>False
 | .val (.slice none 0 0)=>True
 | _=>False
def a0E:AV→Nat
 | .imm _ ys=>ys.length
 | .ref _ _ _ len=>len
 | _=>0
def a0x (H:List VObj) (sz:Nat):AV→List AV
 | .imm _ ys=>a2N ys
 | .ref id _ off len=>match H[id]? with
  | some ob=>(ob.cs.drop off).take (len*sz)
  | none=>[]
 | _=>[]
def eqW:List LK→List AV→List AV→Bool→(Bool→Prop)→Prop
 | [],[],[],acc,C=>C acc
 | .int::ks,.val (.int k a)::xs,.val (.int k' b)::ys,acc,C=>k=k'∧eqW ks xs ys (acc && (a == b)) C
 | .bool::ks,.val (.bool a)::xs,.val (.bool b)::ys,acc,C=>eqW ks xs ys (acc && (a == b)) C
 | .str::ks,.val (.string a)::xs,.val (.string b)::ys,acc,C=>eqW ks xs ys (acc && (a == b)) C
 | _,_,_,_,_=>False
def a1v (s:ByteArray) (i:Nat):Int:=((s.data.toList.getD i 0).toNat:Nat)
def POp.go:POp→List AV→(AV→Prop)→Prop
 | .six,[.val (.string s),.val (.int _ k)],C=>0≤k∧k.toNat<s.size∧C (.val (.int .u8 (a1v s k.toNat)))
 | .ixv n ag sz,[.agg cs,.val (.int _ k)],C=>0≤k∧k.toNat<n∧a0F cs (k.toNat*sz) ag sz∧C (a1f cs (k.toNat*sz) ag sz)
 | .eqv neg ks,[.agg xs,.agg ys],C=>eqW ks xs ys true fun b=>C (.val (.bool (if neg then !b else b)))
 | .mx,[.val (.int k a),.val (.int _ b)],C=>C (.val (.int k (if b > a then b else a)))
 | .mn,[.val (.int k a),.val (.int _ b)],C=>C (.val (.int k (if b<a then b else a)))
 | .nilq neg,[.fn _ _],C=>C (.val (.bool neg))
 | .nilq neg,[.bm _ _],C=>C (.val (.bool neg))
 | .nilq neg,[.val .nilFunc],C=>C (.val (.bool (!neg)))
 | .nils neg,[.imm _ xs],C=>xs≠[]∧C (.val (.bool neg))
 | .nils neg,[.val (.slice none 0 0)],C=>C (.val (.bool (!neg)))
 | _,_,_=>False
def bytesOf:List AV→Option (List UInt8)
 | []=>some []
 | .val (.int .u8 n)::l=>(bytesOf l).map (UInt8.ofNat n.toNat::·)
 | _=>none
def a7W (k:Value):List AV→(Option AV→Prop)→Prop
 | [],C=>C none
 | .val k'::v::l,C=>(match k,k' with
  | .int i a,.int j b=>i=j∧(a=b→C (some v))∧(a≠b→a7W k l C)
  | _,_=>False)
 | _,_=>False
def SOp.go (H:List VObj):SOp→List AV→(AV→Prop)→Prop
 | .b2s,[.val (.slice none 0 0)],C=>C (.val (.string .empty))
 | .b2s,[.imm sz xs],C=>sz=1∧(match bytesOf xs with | some l=>C (.val (.string ⟨l.toArray⟩)) | none=>False)
 | .b2s,[.ref id s off len],C=>(match H[id]? with
  | some ob=>ob.s=s∧ob.sz=1∧(match bytesOf ((ob.cs.drop off).take len) with | some l=>C (.val (.string ⟨l.toArray⟩)) | none=>False)
  | none=>False)
 | .look ok z,[.mref id s,.val (.int i a)],C=>(match H[id]? with
  | some ob=>ob.s=s∧ob.sz=0∧a7W (.int i a) ob.cs fun r =>
   let v:=match r with
    | some v=>v
    | none=>cv z
   C (if ok then .tup [v,.val (.bool r.isSome)] else v)
  | none=>False)
 | .mlen,[.mref id s],C=>(match H[id]? with
  | some ob=>ob.s=s∧ob.sz=0∧(∀ r,ob.cs.head?≠some (.lp r))∧C (.val (.int .i64 (ob.cs.length / 2:Nat)))
  | none=>False)
 | _,_,_=>False
def b4G (k:Value) (v:AV):List AV→List AV
 | .val k'::u::l=>if (match k,k' with | .int _ a,.int _ b=>a == b | _,_=>false) then .val k'::v::l else .val k'::u::b4G k v l
 | _=>[.val k,v]
def b1Q (i:IntKind):List AV→Prop
 | []=>True
 | .val (.int j _)::v::l=>j=i∧v.one=true∧b1Q i l
 | _=>False
def EOp.go (H:List VObj) (nx:Nat) (C:AV→List VObj→Nat→Prop):EOp→List AV→Prop
 | .cpy sz,[.ref id s off len,y]=>(match H[id]? with
  | some ob=>ob.s=s∧ob.sz=sz∧a2O H sz y ∧
   C (.val (.int .i64 (min len (a0E y):Nat))) (H.set id { ob with cs:=ob.cs.take off++(a0x H sz y).take (min len (a0E y)*sz)++ob.cs.drop (off+min len (a0E y)*sz) }) nx
  | none=>False)
 | .clr z,[.ref id s off len]=>(match H[id]? with
  | some ob=>ob.s=s∧ob.sz=1∧C (.tup []) (H.set id { ob with cs:=ob.cs.take off++List.replicate len (.val z)++ob.cs.drop (off+len) }) nx
  | none=>False)
 | .s2b ty,[.val (.string b)]=>b.size≤70368744177664∧C (.ref H.length nx 0 b.size) (H++[⟨nx,ty,1,b.data.toList.map fun c=>.val (.int .u8 (c.toNat:Nat))⟩]) (nx+1)
 | .mkm,[]=>C (.mref H.length nx) (H++[⟨nx,0,0,[]⟩]) (nx+1)
 | .upd,[.mref id s,.val (.int i a),v]=>(match H[id]? with
  | some ob=>ob.s=s∧ob.sz=0∧b1Q i ob.cs∧v.one=true∧C (.val undef) (H.set id { ob with cs:=b4G (.int i a) v ob.cs }) nx
  | none=>False)
 | .nilr neg,[.ref id s _ len]=>(match H[id]? with
  | some ob=>ob.s=s∧ob.sz≠0∧C (.val (.bool neg)) H nx∧(len=0→C (.val (.bool (!neg))) H nx)
  | none=>False)
 | .nilr neg,[.imm _ xs]=>xs≠[]∧C (.val (.bool neg)) H nx
 | .nilr neg,[.val (.slice none 0 0)]=>C (.val (.bool (!neg))) H nx
 | _,_=>False
def b4H (P : Program) (f : Nat) : Prop := ∃ fn, P.funcs[f]? = some fn ∧ (fn.name == "runtime.NumGoroutine") = false ∧ fn.body.isNone = false
def c8M (xs:List AV) (k:Int) (C:AV→Prop):Prop:=0≤k∧k.toNat<xs.length∧C (xs.getD k.toNat .dead)
def a1E (cs:List AV) (off:Nat) (ag:Bool) (n:Nat) (C:AV→Prop):Prop:=a0F cs off ag n∧C (a1f cs off ag n)
structure KeepRV (M M':MM):Prop where
 rv:∀ x v,RV M x v→RV M' x v
 oth:Oth M.w M'.w
theorem KeepRV.refl (M:MM):KeepRV M M:=⟨fun _ _ h=>h,Oth.refl _⟩
theorem KeepRV.trans {A B C:MM} (h:KeepRV A B) (k:KeepRV B C):KeepRV A C:=⟨fun x v r=>k.rv x v (h.rv x v r),h.oth.trans k.oth⟩
theorem Keep.rv {M M':MM} (k:Keep M M'):KeepRV M M':=⟨fun x v h=>RV.keep k x v h,k.oth⟩
def VCall (P:Program) (f:Nat) (args:List AV) (H:List VObj) (nx:Nat) (C:AV→List VObj→Nat→Prop):Prop :=
 b4H P f∧∀ (M:MM) (vs:List Value),RH M→M.H=H→M.nx=nx→RL M args vs →
  Calls P f vs.toArray M.w fun e w'=>∃ (v:Value) (r:AV) (M':MM),e = .returned v∧M'.I0=M.I0∧M'.w0=M.w0∧M'.w=w'∧RH M'∧KeepRV M M'∧RV M' r v∧C r M'.H M'.nx
def YCall (P:Program) (id s:Nat) (args:List AV) (H:List VObj) (nx:Nat) (C:AV→List VObj→Nat→Prop):Prop :=
 ∀ (M:MM) (vs:List Value) (y:Value),RH M→M.H=H→M.nx=nx→RV M (.yld id s) y→RL M args vs →
  ∃ (l:Nat) (r:Loop),y = .func (.yield l) #[] #[]∧M.w.heap[l]? = some (.loop r)∧vs.length=r.params.size ∧
   RoundIn Fence.wide 0 P l r.fn ((r.params.zip vs.toArray).foldl (fun tmps (t,a)=>tmps.setIfInBounds t a) r.tmps) r.assign r.body M.w fun e w'=>∃ (v:Value) (x:AV) (M':MM),e = .returned v∧M'.I0=M.I0∧M'.w0=M.w0∧M'.w=w'∧RH M'∧KeepRV M M'∧RV M' x v∧C x M'.H M'.nx
def K.wp (P:Program) (ρ:Operand→AV) (H:List VObj) (nx:Nat) (C:AV→List VObj→Nat→Prop):K→Prop
 | .mv x=>C (ρ x) H nx
 | .pick c a b=>match ρ c with
  | .val (.bool t)=>(t=true→C (ρ a) H nx)∧(t=false→C (ρ b) H nx)
  | _=>False
 | .ld ag n x=>match ρ x with
  | .ip y=>c0L ag n y∧C y H nx
  | .ptr id s off=>match H[id]? with
   | some ob=>ob.s=s∧a1E ob.cs off ag n fun y=>C y H nx
   | none=>False
  | _=>False
 | .sto ag n x y=>match ρ x with
  | .ptr id s off=>match H[id]? with
   | some ob=>ob.s=s∧off+n≤ob.cs.length∧b2r ag n (ρ y) ∧
    C (.val undef) (H.set id { ob with cs:=b7H ob.cs off (ρ y) }) nx
   | none=>False
  | _=>False
 | .idx sz x i=>match ρ x,ρ i with
  | .imm sz' xs,.val (.int _ k)=>sz'=sz∧c8M xs k fun y=>C (.ip y) H nx
  | .ref id s off ln,.val (.int _ k)=>match H[id]? with
   | some ob=>ob.s=s∧ob.sz=sz∧0≤k∧k.toNat<ln∧C (.ptr id s (off+k.toNat*sz)) H nx
   | none=>False
  | _,_=>False
 | .aidx n0 ag sz x i=>match ρ x,ρ i with
  | .ip (.agg cs),.val (.int _ k)=>0≤k∧k.toNat<n0∧a1E cs (k.toNat*sz) ag sz fun y=>C (.ip y) H nx
  | .ptr id s off,.val (.int _ k)=>match H[id]? with
   | some ob=>ob.s=s∧0≤k∧k.toNat<n0∧C (.ptr id s (off+k.toNat*sz)) H nx
   | none=>False
  | _,_=>False
 | .fad off ag n x=>match ρ x with
  | .ip (.agg cs)=>a1E cs off ag n fun y=>C (.ip y) H nx
  | .ptr id s o=>match H[id]? with
   | some ob=>ob.s=s∧C (.ptr id s (o+off)) H nx
   | none=>False
  | _=>False
 | .fld off ag n x=>match ρ x with
  | .agg cs=>a1E cs off ag n fun y=>C y H nx
  | _=>False
 | .len x=>match ρ x with
  | .imm _ xs=>C (.val (.int .i64 xs.length)) H nx
  | .ref id s _ ln=>match H[id]? with
   | some ob=>ob.s=s∧C (.val (.int .i64 ln)) H nx
   | none=>False
  | .val (.slice none 0 0)=>C (.val (.int .i64 0)) H nx
  | _=>False
 | .lens x=>match ρ x with
  | .val (.string s)=>C (.val (.int .i64 s.size)) H nx
  | _=>False
 | .bin op x y=>match ρ x,ρ y with
  | .val a,.val b=>a6d op a b∧C (.val (b3R op a b)) H nx
  | _,_=>False
 | .beq neg x y=>match ρ x,ρ y with
  | .val (.bool a),.val (.bool b)=>C (.val (.bool (if neg then !(a == b) else a == b))) H nx
  | _,_=>False
 | .un op x=>match ρ x with
  | .val a=>c0M op a∧C (.val (unR op a)) H nx
  | _=>False
 | .conv k x=>match ρ x with
  | .val (.int _ n)=>C (.val (.int k (k.wrap n))) H nx
  | _=>False
 | .sl sz x lo hi=>match ρ x with
  | .imm sz' xs=>match a0V ρ 0 lo,a0V ρ xs.length hi with
   | some l,some h=>sz'=sz∧0≤l∧l≤h∧h≤xs.length∧C (.imm sz ((xs.take h.toNat).drop l.toNat)) H nx
   | _,_=>False
  | .ref id s off ln=>match H[id]? with
   | some ob=>match a0V ρ 0 lo,a0V ρ ln hi with
    | some l,some h=>ob.s=s∧ob.sz=sz∧0≤l∧l≤h∧h≤ln∧C (.ref id s (off+l.toNat*sz) (h.toNat-l.toNat)) H nx
    | _,_=>False
   | none=>False
  | .val (.slice none 0 0)=>match a0V ρ 0 lo,a0V ρ 0 hi with
   | some l,some h=>l=0∧h=0∧C (.val (.slice none 0 0)) H nx
   | _,_=>False
  | _=>False
 | .sls x lo hi=>match ρ x with
  | .val (.string t)=>match a0V ρ 0 lo,a0V ρ t.size hi with
   | some l,some h=>0≤l∧l≤h∧h≤t.size∧C (.val (.string (t.extract l.toNat h.toNat))) H nx
   | _,_=>False
  | _=>False
 | .mk ty sz bytes z n c=>match ρ n,ρ c with
  | .val (.int _ l),.val (.int _ k)=>0≤l∧l≤k∧k≤140737488355328∧k*bytes≤140737488355328∧C (.ref H.length nx 0 l.toNat) (H++[⟨nx,ty,sz,(List.replicate l.toNat (z.map AV.val)).flatten⟩]) (nx+1)
  | _,_=>False
 | .app ty sz bytes x y=>a2O H sz (ρ y)∧(match ρ x with
  | .val (.slice none 0 0)=>a0E (ρ y)≤maxLen∧a0E (ρ y)*bytes≤140737488355328 ∧
   C (.ref H.length nx 0 (a0E (ρ y))) (H++[⟨nx,ty,sz,a0x H sz (ρ y)⟩]) (nx+1)
  | .ref id s off ln=>match H[id]? with
   | some ob=>ob.s=s∧ob.ty=ty∧ob.sz=sz∧ln+a0E (ρ y)≤maxLen∧(ln+a0E (ρ y))*bytes≤140737488355328 ∧
    C (.ref id nx 0 (ln+a0E (ρ y))) (H.set id ⟨nx,ty,sz,(ob.cs.drop off).take (ln*sz)++a0x H sz (ρ y)⟩) (nx+1)
   | none=>False
  | _=>False)
 | .bsl ty sz n z parts=>a3m (n*sz) (a1i ρ parts)∧C (.ref H.length nx 0 n) (H++[⟨nx,ty,sz,a5w (z.map AV.val) (a1i ρ parts)⟩]) (nx+1)
 | .bld z parts=>a3m z.length (a1i ρ parts)∧C (.agg (a5w (z.map AV.val) (a1i ρ parts))) H nx
 | .box ty x=>(ρ x).laid=true∧C (.ptr H.length nx 0) (H++[⟨nx,ty,1,(ρ x).cells⟩]) (nx+1)
 | .alc ty z=>C (.ptr H.length nx 0) (H++[⟨nx,ty,1,z.map AV.val⟩]) (nx+1)
 | .mkf f cs=>C (.fn f (evs ρ cs)) H nx
 | .mkb f cs=>C (.bm f (evs ρ cs)) H nx
 | .nck x=>match ρ x with
  | .ip y=>C (.ip y) H nx
  | .ptr id s off=>match H[id]? with
   | some ob=>ob.s=s∧C (.ptr id s off) H nx
   | none=>False
  | .fn f cs=>C (.fn f cs) H nx
  | .bm f cs=>C (.bm f cs) H nx
  | _=>False
 | .ext x i=>match ρ x with
  | .tup cs=>i<cs.length∧C (cs.getD i .dead) H nx
  | _=>False
 | .call f args=>match ρ f with
  | .fn g cs=>VCall P g (evs ρ args++cs) H nx C
  | .bm g cs=>VCall P g (cs++evs ρ args) H nx C
  | _=>False
 | .callA f args=>match ρ f with
  | .fn g cs=>VCall P g (evs ρ args++cs) H nx C
  | .bm g cs=>VCall P g (cs++evs ρ args) H nx C
  | _=>False
 | .callM _ f args=>match ρ f with
  | .fn g cs=>VCall P g (evs ρ args++cs) H nx C
  | .bm g cs=>VCall P g (cs++evs ρ args) H nx C
  | _=>False
 | .pur op xs=>op.go (evs ρ xs) fun r=>C r H nx
 | .see op xs=>op.go H (evs ρ xs) fun r=>C r H nx
 | .eff op xs=>op.go H nx C (evs ρ xs)
 | .ycal f args=>match ρ f with
  | .yld id s=>YCall P id s (evs ρ args) H nx C
  | _=>False
def a5X (P:Program):List VOp→(St→Prop)→St→Prop
 | [],Q,st=>Q st
 | ⟨d,none,k⟩::l,Q,st=>k.wp P (evF (get st.env)) st.H st.nx fun r H nx=>a5X P l Q (St.put ⟨st.env,H,nx⟩ d r)
 | ⟨d,some (t,want),k⟩::l,Q,st=>match get st.env t with
  | .val (.bool b)=>(b=want→k.wp P (evF (get ((t,.val (.bool want))::st.env))) st.H st.nx fun r H nx=>a5X P l Q (St.put ⟨(t,.val (.bool want))::st.env,H,nx⟩ d r)) ∧
   (b=(!want)→a5X P l Q (St.put ⟨(t,.val (.bool (!want)))::st.env,st.H,st.nx⟩ d (.val undef)))
  | .val _=>a5X P l Q (st.put d (.val undef))
  | _=>False
def a9b (P:Program) (t:TypeId):Option (Bool × Nat) :=
 match P.info? t,P.underlying t with
 | some i,some d=>match d with
  | .struct _=>some (true,i.size)
  | .array _ _=>some (true,i.size)
  | _=>if i.size=1 then some (false,1) else none
 | _,_=>none
def a9X (P:Program) (t:TypeId) (f:Nat):Option (Nat × Bool × Nat) :=
 match P.underlying t with
 | some (.struct fs)=>match fs[f]? with
  | some fd=>match a9b P fd.type with
   | some (ag,n)=>if n=0 then none else some (fd.offset,ag,n)
   | none=>none
  | none=>none
 | _=>none
def a5e (P:Program) (t:TypeId):Option (List Value) :=
 match P.info? t with
 | some i=>match i.zero with
  | some z=>if z.cells.size=i.size∧z.cells.all Value.oneCell'=true then some z.cells.toList else none
  | none=>none
 | none=>none
def a2a (place:Nat→Option (Nat × Nat)):List (Nat × Operand)→Option (List (Nat × Nat × Operand))
 | []=>some []
 | (i,x)::rest=>match place i,a2a place rest with
  | some (off,size),some r=>some ((off,size,x)::r)
  | _,_=>none
def a8z (P:Program) (fields:List Field):Option (List (Nat × Nat)):=fields.mapM fun f=>(P.info? f.type).map fun i=>(f.offset,i.size)
def b5L (g:TypeId→Option (List LK)):Nat→List Field→Option (List LK)
 | _,[]=>some []
 | off, f :: fs => if f.name = "_" ∨ f.offset ≠ off then none else match g f.type with
  | some ks=>match b5L g (off+ks.length) fs with
   | some r=>some (ks++r)
   | none=>none
  | none=>none
def a8A (P:Program):Nat→TypeId→Option (List LK)
 | 0,_=>none
 | d+1,t=>match P.info? t,P.underlying t with
  | some inf,some u=>match (match u with
   | .bool=>some [.bool]
   | .int _=>some [.int]
   | .string=>some [.str]
   | .struct fs=>if P.stoodInHeld t then none else b5L (a8A P d) 0 fs.toList
   | .array n e=>match a8A P d e with
    | some ks=>some (List.replicate n ks).flatten
    | none=>none
   | _=>none:Option (List LK)) with
   | some ks=>if inf.size=ks.length then some ks else none
   | none=>none
  | _,_=>none
def agT (P:Program) (t:TypeId):Bool:=match P.underlying t with
 | some (.struct _)=>true
 | some (.array _ _)=>true
 | _=>false
def b3S (P:Program) (e:TypeId):Bool:=match P.underlying e,P.info? e with
 | some (.int .u8),some inf=>inf.size == 1
 | _,_=>false
def c8T:Operand→Bool
 | .const .nilFunc=>true
 | _=>false
def c8U:Operand→Bool
 | .const (.slice none 0 0)=>true
 | _=>false
theorem c0N {y:Operand} (h:c8U y=true):y = .const (.slice none 0 0):=by
 unfold c8U at h;split at h
 ·rfl
 ·cases h
theorem c0O {y:Operand} (h:c8T y=true):y = .const .nilFunc:=by
 unfold c8T at h;split at h
 ·rfl
 ·cases h
def c8V:Operand→Bool
 | .func f=>([6,23,44,51,45,46,63,64,65,66,67,68]:List Nat).contains f
 | .tmp _=>true
 | _=>false
def c8W:Operand→Bool
 | .func f=>([6,23,44,51]:List Nat).contains f
 | _=>false
def c8X (P:Program):Operand→Bool
 | .func f=>match P.funcs[f]? with
  | some fn=>fn.resultTypes.toList.any fun t=>match P.underlying t with
   | some (.pointer _)=>true
   | some (.func _ _ _)=>true
   | _=>false
  | none=>false
 | _=>false
def b1R (P:Program):Op→Option K
 | .move x=>some (.mv x)
 | .assign x=>some (.mv x)
 | .pick c a b=>some (.pick c a b)
 | .load t x=>match a9b P t with
  | some (ag,n)=>some (.ld ag n x)
  | none=>none
 | .store t x y=>match a9b P t with
  | some (ag,n)=>some (.sto ag n x y)
  | none=>none
 | .indexAddr t x i=>match P.underlying t with
  | some (.slice e)=>match P.info? e with
   | some inf=>if inf.size=0 then none else some (.idx inf.size x i)
   | none=>none
  | some (.array len e)=>match a9b P e with
   | some (ag,n)=>if n=0 then none else some (.aidx len ag n x i)
   | none=>none
  | _=>none
 | .fieldAddr t x f=>match a9X P t f with
  | some (off,ag,n)=>some (.fad off ag n x)
  | none=>none
 | .field t x f=>match a9X P t f with
  | some (off,ag,n)=>some (.fld off ag n x)
  | none=>none
 | .binOp op t x y _=>match P.underlying t with
  | some (.int _)=>some (.bin op x y)
  | some .string=>some (.bin op x y)
  | some .bool=>match op with
   | .eql=>some (.beq false x y)
   | .neq=>some (.beq true x y)
   | _=>none
  | some (.func _ _ _)=>if c8T y=true then (match op with
   | .eql=>some (.pur (.nilq false) [x])
   | .neq=>some (.pur (.nilq true) [x])
   | _=>none) else none
  | some (.slice _)=>if c8U y=true then (match op with
   | .eql=>some (.eff (.nilr false) [x])
   | .neq=>some (.eff (.nilr true) [x])
   | _=>none) else none
  | some _=>if P.eqGuardType P.depth t=true∨agT P t=false then none else match a8A P 20 t with
   | some ks=>match op with
    | .eql=>some (.pur (.eqv false ks) [x,y])
    | .neq=>some (.pur (.eqv true ks) [x,y])
    | _=>none
   | none=>none
  | _=>none
 | .index t x i=>match P.underlying t with
  | some .string=>some (.pur .six [x,i])
  | some (.array len e)=>match a9b P e with
   | some (ag,n)=>if n=0 then none else some (.pur (.ixv len ag n) [x,i])
   | none=>none
  | _=>none
 | .unOp op _ x=>some (.un op x)
 | .convert src dst x=>match P.underlying src,P.underlying dst with
  | some _,some (.int k)=>some (.conv k x)
  | some (.slice e),some .string=>if b3S P e then some (.see .b2s [x]) else none
  | some .string,some (.slice e)=>if b3S P e then some (.eff (.s2b e) [x]) else none
  | _,_=>none
 | .slice t x lo hi none=>match P.underlying t with
  | some (.slice e)=>match P.info? e with
   | some inf=>some (.sl inf.size x lo hi)
   | none=>none
  | some .string=>some (.sls x lo hi)
  | _=>none
 | .makeSlice t n c=>match P.underlying t with
  | some (.slice e)=>match P.info? e,a5e P e with
   | some inf,some z=>if inf.size=0 then none else some (.mk e inf.size inf.bytes z n c)
   | _,_=>none
  | _=>none
 | .buildSlice t n parts=>match P.underlying t with
  | some (.slice e)=>match P.info? e,a5e P e with
   | some inf,some z=>if inf.size=0∨n*inf.size > 2 ^ 24 then none else
    match a2a (fun i=>some (i*inf.size,inf.size)) parts.toList with
    | some ps=>some (.bsl e inf.size n (List.replicate n z).flatten ps)
    | none=>none
   | _,_=>none
  | _=>none
 | .build t parts=>match P.underlying t with
  | some (.struct fields)=>match a5e P t,a8z P fields.toList with
   | some z,some places=>match a2a (fun i=>places[i]?) parts.toList with
    | some ps=>some (.bld z ps)
    | none=>none
   | _,_=>none
  | some (.array _ e)=>match P.info? e,a5e P t with
   | some inf,some z=>match a2a (fun i=>some (i*inf.size,inf.size)) parts.toList with
    | some ps=>some (.bld z ps)
    | none=>none
   | _,_=>none
  | _=>none
 | .box t x=>some (.box t x)
 | .alloc t=>match a5e P t with
  | some z=>some (.alc t z)
  | none=>none
 | .makeFunc (.func f) first captured=>if first.size=0 then some (.mkf f captured.toList) else if captured.size=0 then some (.mkb f first.toList) else none
 | .nilCheck x=>some (.nck x)
 | .makeMap t none=>match P.underlying t with
  | some (.map _ _)=>some (.eff .mkm [])
  | _=>none
 | .insert t m k v=>match P.underlying t with
  | some (.map kt _)=>match P.underlying kt with
   | some (.int _)=>some (.eff .upd [m,k,v])
   | _=>none
  | _=>none
 | .mapUpdate t m k v=>match P.underlying t with
  | some (.map kt _)=>match P.underlying kt with
   | some (.int _)=>some (.eff .upd [m,k,v])
   | _=>none
  | _=>none
 | .lookup t x i ok=>match P.underlying t with
  | some (.map kt e)=>match P.underlying kt,(P.info? e).bind (·.zero) with
   | some (.int _),some z=>some (.see (.look ok z) [x,i])
   | _,_=>none
  | _=>none
 | .extract x i=>some (.ext x i)
 | .call c=>match c.callee with
  | .value f=>if c8V f then some (.callM (c8W f) f c.args.toList) else if c8X P f then some (.callA f c.args.toList) else some (.call f c.args.toList)
  | .builtin .len=>match c.args.toList,c.argTypes.toList with
   | [x],[t]=>match P.underlying t with
    | some (.slice _)=>some (.len x)
    | some .string=>some (.lens x)
    | some (.array n _)=>some (.mv (.const (.int .i64 n)))
    | some (.map _ _)=>some (.see .mlen [x])
    | _=>none
   | _,_=>none
  | .builtin .max=>match c.args.toList with
   | [x,y]=>some (.pur .mx [x,y])
   | _=>none
  | .builtin .min=>match c.args.toList with
   | [x,y]=>some (.pur .mn [x,y])
   | _=>none
  | .builtin .clear=>match c.args.toList,c.argTypes.toList with
   | [x],[t]=>match P.underlying t with
    | some (.slice e)=>match (P.info? e).bind (·.zero) with
     | some z=>if z.oneCell'=true then some (.eff (.clr z) [x]) else none
     | none=>none
    | _=>none
   | _,_=>none
  | .builtin .copy=>match c.args.toList,c.argTypes.toList with
   | [x,y],[t,t']=>match P.underlying t,P.underlying t' with
    | some (.slice e),some (.slice _)=>match P.info? e with
     | some inf=>if inf.size=0 then none else some (.eff (.cpy inf.size) [x,y])
     | none=>none
    | _,_=>none
   | _,_=>none
  | .builtin .append=>match c.args.toList,c.argTypes.toList with
   | [x,y],[t,t']=>if t=t' then match P.underlying t with
    | some (.slice e)=>match P.info? e,a5e P e with
     | some inf,some _=>if inf.size=0 then none else some (.app e inf.size inf.bytes x y)
     | _,_=>none
    | _=>none
    else none
   | _,_=>none
  | _=>none
 | _=>none
def b3z (ops:Array Oper):Option (Nat × Bool)→Option (Option (Nat × Bool))
 | none=>some none
 | some (j,want)=>match (ops[j]?).bind (·.dst) with
  | some t=>some (some (t,want))
  | none=>none
def c0P (N:Nat):Option Nat→Bool
 | some d=>decide (d<N)
 | none=>true
def a1B (P:Program) (N:Nat) (ops:Array Oper):List Oper→Option (List VOp)
 | []=>some []
 | o::l=>match b1R P o.op,b3z ops o.guard,a1B P N ops l with
  | some k,some g,some r=>if c0P N o.dst=true then some (⟨o.dst,g,k⟩::r) else none
  | _,_,_=>none
end Go.V
