/- Words: what the operations make of two of them, plainly. No condition. Words as numbers, plainly: bits, and what the operations make of them. No condition. -/
import Derived.Test.YtaedcpipilnpcaaUH
import Derived.Test.YtaedcpipilnpcaaUCode
import Derived.Test.YtaedcpipilnpcaaUF
import Derived.Test.YtaedcpipilnpcaaUY
set_option linter.unusedVariables false
set_option linter.unusedSimpArgs false
attribute [go_sem] Nat.reduceEqDiff Nat.reduceAdd Nat.reduceMul reduceCtorEq Nat.reduceLeDiff Nat.reduceLT Nat.reduceSub Int.reduceToNat Int.reduceLE Int.reduceLT
attribute [go_sem ↓] reduceIte dreduceIte
namespace Go.Proofs.Ytaedcpipilnpcaa
set_option linter.unusedSimpArgs false
set_option linter.unusedVariables false
open Go.V
theorem one_imm {sz:Nat} {xs:List AV}:(AV.imm sz xs).one=true:=rfl
theorem one_ref {id s off len:Nat}:(AV.ref id s off len).one=true:=rfl
theorem cellT_U32 {xs:List Int} {off:Nat} {C:AV→Prop}:cellT (xs.map U32) off false 1 C .mk=(off<xs.length∧C (U32 (xs.getD off default))):=cellT_map fun _=>rfl
abbrev w32 (n:Int):Int:=IntKind.u32.wrap n
def andW (a b:Int):Int:=w32 (BitVec.ofInt IntKind.u32.bits a &&& BitVec.ofInt IntKind.u32.bits b).toNat
def orW (a b:Int):Int:=w32 (BitVec.ofInt IntKind.u32.bits a ||| BitVec.ofInt IntKind.u32.bits b).toNat
def xorW (a b:Int):Int:=w32 (BitVec.ofInt IntKind.u32.bits a ^^^ BitVec.ofInt IntKind.u32.bits b).toNat
def shlW (a b:Int):Int:=w32 (a*2 ^ (min b.toNat IntKind.u32.bits))
def shrW (a b:Int):Int:=a.fdiv (2 ^ (min b.toNat IntKind.u32.bits))
def applyW (op a b:Int):Int × Int :=
 if op=4 then (w32 (a+b),0) else if op=5 then (w32 (a-b),0) else if op=6 then (w32 (a*b),0)
 else if op=7 then (if b=0 then (0,14) else (w32 (a.tdiv b),0))
 else if op=8 then (if b=0 then (0,14) else (a.tmod b,0))
 else if op=9 then (andW a b,0) else if op=10 then (orW a b,0) else if op=11 then (xorW a b,0)
 else if op=12 then (if 31<b then 0 else shlW a b,0)
 else if op=13 then (if 31<b then 0 else shrW a b,0)
 else if op=14 then (if a<b then 1 else 0,0)
 else if op=15 then (if a=b then 1 else 0,0)
 else (0,1)
abbrev tup2 (p:Int × Int):AV:=.tup [U32 p.1,I p.2]
def In32 (n:Int):Prop:=0≤n∧n<4294967296
theorem w32_in {n:Int} (h:In32 n):IntKind.u32.wrap n=n:=by
 rw[IntKind.wrap_u32];have:=h.1;have:=h.2;omega
theorem w32_ok (n:Int):In32 (IntKind.u32.wrap n):=by
 rw[IntKind.wrap_u32];constructor<;>omega
def bitsN (x n:Nat):List Int:=(List.range n).map fun i=>((x / 2 ^ i % 2:Nat):Int)
theorem bitsN_length (x n:Nat):(bitsN x n).length=n:=by simp[bitsN]
theorem bitsN_get {x n i:Nat} (h:i<n):(bitsN x n).getD i default=((x / 2 ^ i % 2:Nat):Int):=by simp[bitsN,List.getD,h]
theorem bitsN_succ (x n:Nat):bitsN x (n+1)=bitsN x n++[((x / 2 ^ n % 2:Nat):Int)]:=by simp[bitsN,List.range_succ]
theorem bitsN_cons (x n:Nat):bitsN x (n+1)=((x % 2:Nat):Int)::bitsN (x / 2) n:=by
 simp only[bitsN,List.range_succ_eq_map,List.map_cons,List.map_map,Nat.pow_zero,Nat.div_one]
 congr 1
 refine List.map_congr_left fun i _=>?_
 simp only[Function.comp,Nat.pow_succ,Nat.div_div_eq_div_mul]
 rw[Nat.mul_comm]
def numN:List Int→Nat
 | []=>0
 | b::l=>b.toNat+2*numN l
theorem numN_bits:∀ (n x:Nat),numN (bitsN x n)=x % 2 ^ n
 | 0,x=>by simp[bitsN,numN,Nat.mod_one]
 | n+1,x=>by
  rw[bitsN_cons,numN,numN_bits n,Int.toNat_natCast,Nat.pow_succ,Nat.mul_comm (2 ^ n) 2,Nat.mod_mul]
theorem bit_and (x y i:Nat):(x &&& y) / 2 ^ i % 2=if x / 2 ^ i % 2+y / 2 ^ i % 2=2 then 1 else 0:=by
 have h:=Nat.testBit_and x y i
 simp only[Nat.testBit_eq_decide_div_mod_eq]at h
 have h1:=Nat.mod_two_eq_zero_or_one (x / 2 ^ i)
 have h2:=Nat.mod_two_eq_zero_or_one (y / 2 ^ i)
 have h3:=Nat.mod_two_eq_zero_or_one ((x &&& y) / 2 ^ i)
 rcases h1 with h1 | h1<;>rcases h2 with h2 | h2<;>rcases h3 with h3 | h3<;>simp_all
theorem bit_or (x y i:Nat):(x ||| y) / 2 ^ i % 2=if x / 2 ^ i % 2+y / 2 ^ i % 2=0 then 0 else 1:=by
 have h:=Nat.testBit_or x y i
 simp only[Nat.testBit_eq_decide_div_mod_eq]at h
 have h1:=Nat.mod_two_eq_zero_or_one (x / 2 ^ i)
 have h2:=Nat.mod_two_eq_zero_or_one (y / 2 ^ i)
 have h3:=Nat.mod_two_eq_zero_or_one ((x ||| y) / 2 ^ i)
 rcases h1 with h1 | h1<;>rcases h2 with h2 | h2<;>rcases h3 with h3 | h3<;>simp_all
theorem bit_xor (x y i:Nat):(x ^^^ y) / 2 ^ i % 2=if x / 2 ^ i % 2+y / 2 ^ i % 2=1 then 1 else 0:=by
 have h:=Nat.testBit_xor x y i
 simp only[Nat.testBit_eq_decide_div_mod_eq]at h
 have h1:=Nat.mod_two_eq_zero_or_one (x / 2 ^ i)
 have h2:=Nat.mod_two_eq_zero_or_one (y / 2 ^ i)
 have h3:=Nat.mod_two_eq_zero_or_one ((x ^^^ y) / 2 ^ i)
 rcases h1 with h1 | h1<;>rcases h2 with h2 | h2<;>rcases h3 with h3 | h3<;>simp_all
theorem bv32 {a:Int} (h:In32 a):(BitVec.ofInt IntKind.u32.bits a).toNat=a.toNat:=by
 show (BitVec.ofInt 32 a).toNat=a.toNat
 rw[BitVec.toNat_ofInt]
 obtain ⟨h1,h2⟩:=h
 omega
theorem andW_eq {a b:Int} (ha:In32 a) (hb:In32 b):andW a b=((a.toNat &&& b.toNat:Nat):Int):=by
 unfold andW
 rw[BitVec.toNat_and,bv32 ha,bv32 hb]
 refine w32_in ⟨by omega,?_⟩
 have:=Nat.and_lt_two_pow (n:=32) a.toNat (y:=b.toNat) (by have:=hb.2;have:=hb.1;omega)
 omega
theorem orW_eq {a b:Int} (ha:In32 a) (hb:In32 b):orW a b=((a.toNat ||| b.toNat:Nat):Int):=by
 unfold orW
 rw[BitVec.toNat_or,bv32 ha,bv32 hb]
 refine w32_in ⟨by omega,?_⟩
 have:=Nat.or_lt_two_pow (n:=32) (x:=a.toNat) (y:=b.toNat) (by have:=ha.2;have:=ha.1;omega) (by have:=hb.2;have:=hb.1;omega)
 omega
theorem xorW_eq {a b:Int} (ha:In32 a) (hb:In32 b):xorW a b=((a.toNat ^^^ b.toNat:Nat):Int):=by
 unfold xorW
 rw[BitVec.toNat_xor,bv32 ha,bv32 hb]
 refine w32_in ⟨by omega,?_⟩
 have:=Nat.xor_lt_two_pow (n:=32) (x:=a.toNat) (y:=b.toNat) (by have:=ha.2;have:=ha.1;omega) (by have:=hb.2;have:=hb.1;omega)
 omega
theorem andW_mask {a:Int} (ha:In32 a) (k:Nat) (hk:k≤32):andW a ((2 ^ k-1:Nat):Int)=a % 2 ^ k:=by
 have hp:2 ^ k≤2 ^ 32:=Nat.pow_le_pow_right (by omega) hk
 have hp0:0<2 ^ k:=Nat.two_pow_pos k
 rw[andW_eq ha ⟨by omega,by omega⟩,Int.toNat_natCast,Nat.and_two_pow_sub_one_eq_mod]
 have:=ha.1
 rw[show a=((a.toNat:Nat):Int) by omega]
 simp
theorem shrW_eq {a:Int} (ha:In32 a) (k:Nat) (hk:k≤32):shrW a k=((a.toNat / 2 ^ k:Nat):Int):=by
 unfold shrW
 rw[Int.toNat_natCast,Nat.min_eq_left (by show k≤32;exact hk),Int.fdiv_eq_ediv_of_nonneg _ (by exact Int.le_of_lt (Int.pow_pos (by decide)))]
 have:=ha.1
 conv=>lhs;rw[show a=((a.toNat:Nat):Int) by omega]
 simp
theorem both_bits {op a b:Int} (ha:In32 a) (hb:In32 b) (ho:op=9∨op=10∨op=11):(applyW op a b).2=0∧In32 (applyW op a b).1∧∀ i,(applyW op a b).1.toNat / 2 ^ i % 2=if (a.toNat / 2 ^ i % 2+b.toNat / 2 ^ i % 2=2∧op≠11)∨(a.toNat / 2 ^ i % 2+b.toNat / 2 ^ i % 2=1∧op≠9) then 1 else 0:=by
 rcases ho with rfl | rfl | rfl
 ·refine ⟨rfl,w32_ok _,fun i=>?_⟩
  show (andW a b).toNat / _ % 2=_
  rw[andW_eq ha hb,Int.toNat_natCast,bit_and];simp
 ·refine ⟨rfl,w32_ok _,fun i=>?_⟩
  show (orW a b).toNat / _ % 2=_
  rw[orW_eq ha hb,Int.toNat_natCast,bit_or]
  have h1:=Nat.mod_two_eq_zero_or_one (a.toNat / 2 ^ i)
  have h2:=Nat.mod_two_eq_zero_or_one (b.toNat / 2 ^ i)
  rcases h1 with h1 | h1<;>rcases h2 with h2 | h2<;>simp[h1,h2]
 ·refine ⟨rfl,w32_ok _,fun i=>?_⟩
  show (xorW a b).toNat / _ % 2=_
  rw[xorW_eq ha hb,Int.toNat_natCast,bit_xor];simp
structure SI where
 op:Int
 a:Int
 b:Int
 n:Int
deriving Inhabited
structure SF where
 params:Int
 slots:Int
 first:Int
 word:Bool
 code:List SI
deriving Inhabited
structure SP where
 words:Int
 funcs:List SF
abbrev siA (x:SI):AV:=.agg [I x.op,I x.a,I x.b,U32 x.n]
abbrev sfA (x:SF):AV:=.agg [I x.params,I x.slots,I x.first,B x.word,.imm 4 (x.code.map siA)]
abbrev fnsA (l:List SF):AV:=.imm 5 (l.map sfA)
abbrev spA (s:SP):AV:=.agg [I s.words,fnsA s.funcs]
structure Fm where
 f:Nat
 at_:Nat
 L:List Int
deriving Inhabited
structure SM where
 mem:List Int
 rd:Nat
 out:List UInt8
 steps:Nat
 fin:Int
 top:Fm
 below:List Fm
def SP.fn (s:SP) (f:Nat):SF:=s.funcs.getD f default
def SP.ins (s:SP) (f k:Nat):SI:=(s.fn f).code.getD k default
def cntB (b:Bool):Nat:=if b then 1 else 0
def byteS (r:Int):UInt8:=UInt8.ofNat (IntKind.u8.wrap r).toNat
def SM.setL (σ:SM) (l:List Int):SM:={ σ with top:={ σ.top with L:=l } }
def SM.jump (σ:SM) (a:Int):SM:={ σ with top:={ σ.top with at_:=a.toNat } }
def SM.next (σ:SM):SM:={ σ with top:={ σ.top with at_:=σ.top.at_+1 },steps:=σ.steps+1 }
def ownW (g:SF) (L:List Int):List Int:=(L.take g.params.toNat).reverse++List.replicate (g.slots.toNat-g.params.toNat) 0
def putR (m:List Int) (k:Nat) (l:List Int):List Int:=m.take k++l++m.drop (k+l.length)
def SM.call (s:SP) (σ:SM) (a:Int):SM :=
 { σ with mem:=putR σ.mem (s.fn a.toNat).first.toNat (ownW (s.fn a.toNat) σ.top.L),top:=⟨a.toNat,0,[]⟩,below:={ σ.top with L:=σ.top.L.drop (s.fn a.toNat).params.toNat }::σ.below }
def SM.ret (s:SP) (σ:SM):SM :=
 match σ.below with
 | []=>{ σ with fin:=1 }
 | c::rest=>{ σ with top:={ c with L:=(if (s.fn σ.top.f).word then [σ.top.L.headD 0] else [])++c.L },below:=rest }
def stepI (s:SP) (inp:ByteArray) (x:SI) (σ:SM):SM :=
 if x.op=1 then σ.setL (x.n::σ.top.L)
 else if x.op=2 then σ.setL (σ.mem.getD x.a.toNat default::σ.top.L)
 else if x.op=3 then { σ.setL σ.top.L.tail with mem:=σ.mem.set x.a.toNat (σ.top.L.headD 0) }
 else if x.op=4 then (if σ.top.L.headD 0<x.b then σ.setL (σ.mem.getD (x.a+σ.top.L.headD 0).toNat default::σ.top.L.tail) else { σ with fin:=3 })
 else if x.op=5 then (if σ.top.L.tail.headD 0<x.b then { σ.setL σ.top.L.tail.tail with mem:=σ.mem.set (x.a+σ.top.L.tail.headD 0).toNat (σ.top.L.headD 0) } else { σ with fin:=3 })
 else if x.op=6 then (if (applyW x.a (σ.top.L.tail.headD 0) (σ.top.L.headD 0)).2=0 then σ.setL ((applyW x.a (σ.top.L.tail.headD 0) (σ.top.L.headD 0)).1::σ.top.L.tail.tail) else { σ with fin:=2 })
 else if x.op=7 then σ.setL ((if σ.top.L.headD 0=0 then 1 else 0)::σ.top.L.tail)
 else if x.op=8 then σ.jump x.a
 else if x.op=9 then (if σ.top.L.headD 0=0 then (σ.setL σ.top.L.tail).jump x.a else σ.setL σ.top.L.tail)
 else if x.op=10 then σ.call s x.a
 else if x.op=11 then σ.ret s
 else if x.op=12 then (if σ.rd<inp.size then { σ.setL (byteAt inp σ.rd::σ.top.L) with rd:=σ.rd+1 } else σ.setL (256::σ.top.L))
 else { σ.setL σ.top.L.tail with out:=σ.out++[byteS (σ.top.L.headD 0)] }
def stepS (s:SP) (inp:ByteArray) (σ:SM):SM:=if σ.fin=0 then stepI s inp (s.ins σ.top.f σ.top.at_) σ.next else σ
def runS (s:SP) (inp:ByteArray) (σ:SM):Nat→SM
 | 0=>σ
 | k+1=>stepS s inp (runS s inp σ k)
def startS (s:SP):SM:=⟨List.replicate s.words.toNat 0,0,[],0,0,⟨s.funcs.length-1,0,[]⟩,[]⟩
structure CallOK (g:SF) (mem deep:Nat):Prop where
 p0:0≤g.params
 ps:g.params≤g.slots
 f0:0≤g.first
 fs:g.first+g.slots≤mem
 deep:g.params≤deep
def OkI (s:SP) (σ:SM) (x:SI):Prop :=
 x.op=1∨(x.op=2∧0≤x.a∧x.a<σ.mem.length)∨(x.op=3∧0≤x.a∧x.a<σ.mem.length∧1≤σ.top.L.length)
 ∨ (x.op=4∧0≤x.a∧0≤x.b∧x.a+x.b≤σ.mem.length∧1≤σ.top.L.length)∨(x.op=5∧0≤x.a∧0≤x.b∧x.a+x.b≤σ.mem.length∧2≤σ.top.L.length)
 ∨ (x.op=6∧2≤σ.top.L.length)∨(x.op=7∧1≤σ.top.L.length)∨(x.op=8∧0≤x.a)∨(x.op=9∧0≤x.a∧1≤σ.top.L.length)
 ∨ (x.op=10∧0≤x.a∧x.a<s.funcs.length∧CallOK (s.fn x.a.toNat) σ.mem.length σ.top.L.length)
 ∨ (x.op=11∧σ.top.L.length=cntB (s.fn σ.top.f).word)∨x.op=12∨(x.op=13∧1≤σ.top.L.length)
structure Good (s:SP) (σ:SM):Prop where
 f:σ.top.f<s.funcs.length
 k:σ.top.at_<(s.fn σ.top.f).code.length
 ok:OkI s σ (s.ins σ.top.f σ.top.at_)
structure WfS (σ:SM):Prop where
 mem:∀ v ∈ σ.mem,In32 v
 top:∀ v ∈ σ.top.L,In32 v
 below:∀ c ∈ σ.below,∀ v ∈ c.L,In32 v
theorem In32.zero:In32 0:=⟨by decide,by decide⟩
theorem applyW_ok {op a b:Int} (ha:In32 a) (hb:In32 b):In32 (applyW op a b).1:=by
 have h1:In32 1:=⟨by decide,by decide⟩
 unfold applyW
 by_cases e:op=4
 ·rw[if_pos e];exact w32_ok _
 rw[if_neg e];clear e
 by_cases e:op=5
 ·rw[if_pos e];exact w32_ok _
 rw[if_neg e];clear e
 by_cases e:op=6
 ·rw[if_pos e];exact w32_ok _
 rw[if_neg e];clear e
 by_cases e:op=7
 ·rw[if_pos e];split
  ·exact In32.zero
  ·exact w32_ok _
 rw[if_neg e];clear e
 by_cases e:op=8
 ·rw[if_pos e];split
  ·exact In32.zero
  ·obtain ⟨q1,q2⟩:=ha
   obtain ⟨q3,q4⟩:=hb
   rename_i h0
   show In32 (a.tmod b)
   rw[Int.tmod_eq_emod_of_nonneg q1]
   exact ⟨Int.emod_nonneg _ h0,by have:=Int.emod_lt_of_pos a (b:=b) (by omega);omega⟩
 rw[if_neg e];clear e
 by_cases e:op=9
 ·rw[if_pos e];exact w32_ok _
 rw[if_neg e];clear e
 by_cases e:op=10
 ·rw[if_pos e];exact w32_ok _
 rw[if_neg e];clear e
 by_cases e:op=11
 ·rw[if_pos e];exact w32_ok _
 rw[if_neg e];clear e
 by_cases e:op=12
 ·rw[if_pos e]
  show In32 (if 31<b then 0 else shlW a b)
  split
  ·exact In32.zero
  ·exact w32_ok _
 rw[if_neg e];clear e
 by_cases e:op=13
 ·rw[if_pos e]
  show In32 (if 31<b then 0 else shrW a b)
  split
  ·exact In32.zero
  ·rename_i h31
   have hb0:=hb.1
   rw[show b=((b.toNat:Nat):Int) by omega,shrW_eq ha _ (by omega)]
   obtain ⟨q1,q2⟩:=ha
   refine ⟨Int.natCast_nonneg _,?_⟩
   have:=Nat.div_le_self a.toNat (2 ^ b.toNat)
   refine Int.lt_of_le_of_lt (Int.ofNat_le.2 this) ?_
   omega
 rw[if_neg e];clear e
 by_cases e:op=14
 ·rw[if_pos e]
  show In32 (if a<b then 1 else 0)
  split
  ·exact h1
  ·exact In32.zero
 rw[if_neg e];clear e
 by_cases e:op=15
 ·rw[if_pos e]
  show In32 (if a=b then 1 else 0)
  split
  ·exact h1
  ·exact In32.zero
 rw[if_neg e];exact In32.zero
theorem getD_of {p:Int→Prop} {l:List Int} {k:Nat} (h:∀ v ∈ l,p v) (h0:p default):p (l.getD k default):=by
 rw[List.getD]
 cases hk:l[k]? with
 | none=>exact h0
 | some x=>exact h x (List.mem_of_getElem? hk)
theorem headD_of {p:Int→Prop} {l:List Int} (h:∀ v ∈ l,p v) (h0:p 0):p (l.headD 0):=by
 cases l with
 | nil=>exact h0
 | cons x l=>exact h x (by simp)
theorem tail_of {p:Int→Prop} {l:List Int} (h:∀ v ∈ l,p v):∀ v ∈ l.tail,p v:=fun v hv=>h v (List.mem_of_mem_tail hv)
theorem set_of {p:Int→Prop} {l:List Int} {k:Nat} {x:Int} (h:∀ v ∈ l,p v) (hx:p x):∀ v ∈ l.set k x,p v:=fun v hv=>by
 rcases List.mem_or_eq_of_mem_set hv with h1 | h1
 ·exact h v h1
 ·rw[h1];exact hx
theorem cons_of {p:Int→Prop} {l:List Int} {x:Int} (h:∀ v ∈ l,p v) (hx:p x):∀ v ∈ x::l,p v:=fun v hv=>by
 rcases List.mem_cons.1 hv with rfl | hv
 ·exact hx
 ·exact h v hv
theorem ownW_of {p:Int→Prop} {g:SF} {L:List Int} (h:∀ v ∈ L,p v) (h0:p 0):∀ v ∈ ownW g L,p v:=fun v hv=>by
 rcases List.mem_append.1 hv with hv | hv
 ·exact h v (List.mem_of_mem_take (List.mem_reverse.1 hv))
 ·rw[(List.mem_replicate.1 hv).2];exact h0
theorem putR_of {p:Int→Prop} {m l:List Int} {k:Nat} (h:∀ v ∈ m,p v) (hl:∀ v ∈ l,p v):∀ v ∈ putR m k l,p v:=fun v hv=>by
 rcases List.mem_append.1 hv with hv | hv
 ·rcases List.mem_append.1 hv with hv | hv
  ·exact h v (List.mem_of_mem_take hv)
  ·exact hl v hv
 ·exact h v (List.mem_of_mem_drop hv)
theorem ownW_length {g:SF} {m d:Nat} {L:List Int} (h:CallOK g m d) (hd:d=L.length):(ownW g L).length=g.slots.toNat:=by
 obtain ⟨h1,h2,h3,h4,h5⟩:=h
 subst hd
 simp only[ownW,List.length_append,List.length_reverse,List.length_take,List.length_replicate]
 omega
theorem putR_length {m l:List Int} {k:Nat} (h:k+l.length≤m.length):(putR m k l).length=m.length:=by
 simp only[putR,List.length_append,List.length_take,List.length_drop];omega
theorem stepI_wf {s:SP} {inp:ByteArray} {x:SI} {σ:SM} (hn:In32 x.n) (h:WfS σ) (hg:OkI s σ x):WfS (stepI s inp x σ)∧(stepI s inp x σ).mem.length=σ.mem.length∧(stepI s inp x σ).steps=σ.steps ∧
 ((stepI s inp x σ).out=σ.out∨∃ b,(stepI s inp x σ).out=σ.out++[b]):=by
 have hh:=headD_of h.top In32.zero
 have ht:=tail_of h.top
 have hh2:=headD_of ht In32.zero
 have ht2:=tail_of ht
 have hL:∀ l,(∀ v ∈ l,In32 v)→WfS (σ.setL l):=fun l hl=>⟨h.mem,hl,h.below⟩
 have hg0:∀ k,In32 (σ.mem.getD k default):=fun k=>getD_of h.mem In32.zero
 rcases hg with e | ⟨e,hg⟩ | ⟨e,hg⟩ | ⟨e,hg⟩ | ⟨e,hg⟩ | ⟨e,hg⟩ | ⟨e,hg⟩ | ⟨e,hg⟩ | ⟨e,hg⟩ | ⟨e,h1,h2,hg⟩ | ⟨e,hg⟩ | e | ⟨e,hg⟩
 all_goals simp only[stepI,e,Int.reduceEq,if_true,if_false]
 ·exact ⟨hL _ (cons_of h.top hn),rfl,rfl,.inl rfl⟩
 ·exact ⟨hL _ (cons_of h.top (hg0 _)),rfl,rfl,.inl rfl⟩
 ·exact ⟨⟨set_of h.mem hh,ht,h.below⟩,by simp,rfl,.inl rfl⟩
 ·split
  ·exact ⟨hL _ (cons_of ht (hg0 _)),rfl,rfl,.inl rfl⟩
  ·exact ⟨⟨h.mem,h.top,h.below⟩,rfl,rfl,.inl rfl⟩
 ·split
  ·exact ⟨⟨set_of h.mem hh,ht2,h.below⟩,by simp,rfl,.inl rfl⟩
  ·exact ⟨⟨h.mem,h.top,h.below⟩,rfl,rfl,.inl rfl⟩
 ·split
  ·exact ⟨hL _ (cons_of ht2 (applyW_ok hh2 hh)),rfl,rfl,.inl rfl⟩
  ·exact ⟨⟨h.mem,h.top,h.below⟩,rfl,rfl,.inl rfl⟩
 ·refine ⟨hL _ (cons_of ht ?_),rfl,rfl,.inl rfl⟩
  split
  ·exact ⟨by decide,by decide⟩
  ·exact In32.zero
 ·exact ⟨⟨h.mem,h.top,h.below⟩,rfl,rfl,.inl rfl⟩
 ·split
  ·exact ⟨⟨h.mem,ht,h.below⟩,rfl,rfl,.inl rfl⟩
  ·exact ⟨hL _ ht,rfl,rfl,.inl rfl⟩
 ·refine ⟨⟨putR_of h.mem (ownW_of h.top In32.zero),by simp[SM.call],fun c hc=>?_⟩,?_,rfl,.inl rfl⟩
  ·rcases List.mem_cons.1 hc with rfl | hc
   ·exact fun v hv=>h.top v (List.mem_of_mem_drop hv)
   ·exact h.below c hc
  ·refine putR_length ?_
   rw[ownW_length hg rfl]
   have:=hg.fs;have:=hg.f0;have:=hg.p0;have:=hg.ps
   omega
 ·unfold SM.ret
  split
  ·exact ⟨⟨h.mem,h.top,h.below⟩,rfl,rfl,.inl rfl⟩
  ·rename_i c rest hc
   refine ⟨⟨h.mem,fun v hv=>?_,fun d hd=>h.below d (by rw[hc];exact List.mem_cons_of_mem _ hd)⟩,rfl,rfl,.inl rfl⟩
   rcases List.mem_append.1 hv with hv | hv
   ·split at hv
    ·rw[List.mem_singleton.1 hv];exact hh
    ·cases hv
   ·exact h.below c (by rw[hc];simp) v hv
 ·split
  ·refine ⟨⟨h.mem,cons_of h.top ?_,h.below⟩,rfl,rfl,.inl rfl⟩
   unfold byteAt
   have:=(inp.data.toList.getD σ.rd 0).toNat_lt
   exact ⟨by omega,by omega⟩
  ·exact ⟨hL _ (cons_of h.top ⟨by decide,by decide⟩),rfl,rfl,.inl rfl⟩
 ·exact ⟨⟨h.mem,ht,h.below⟩,rfl,rfl,.inr ⟨_,rfl⟩⟩
theorem startS_wf (s:SP):WfS (startS s):=⟨fun v hv=>by rw[(List.mem_replicate.1 hv).2];exact In32.zero,by simp[startS],by simp[startS]⟩
def WfP (s:SP):Prop:=∀ g ∈ s.funcs,∀ x ∈ g.code,In32 x.n
theorem ins_wf {s:SP} (h:WfP s) {f k:Nat} (hf:f<s.funcs.length) (hk:k<(s.fn f).code.length):In32 (s.ins f k).n:=by
 have h1:s.fn f ∈ s.funcs:=by
  unfold SP.fn;rw[List.getD,List.getElem?_eq_getElem hf];exact List.getElem_mem hf
 have h2:s.ins f k ∈ (s.fn f).code:=by
  unfold SP.ins;rw[List.getD,List.getElem?_eq_getElem hk];exact List.getElem_mem hk
 exact h _ h1 _ h2
theorem stepS_wf {s:SP} {inp:ByteArray} {σ:SM} (hp:WfP s) (h:WfS σ) (hg:Good s σ):WfS (stepS s inp σ)∧(stepS s inp σ).mem.length=σ.mem.length ∧
 ((stepS s inp σ).steps≤σ.steps+1)∧(stepS s inp σ).out.length≤σ.out.length+1:=by
 unfold stepS
 split
 ·have h1:WfS σ.next:=⟨h.mem,h.top,h.below⟩
  have h2:OkI s σ.next (s.ins σ.top.f σ.top.at_):=hg.ok
  obtain ⟨g1,g2,g3,g4⟩:=stepI_wf (inp:=inp) (ins_wf hp hg.f hg.k) h1 h2
  refine ⟨g1,g2,by rw[g3];exact Nat.le_refl _,?_⟩
  rcases g4 with g4 | ⟨b,g4⟩<;>rw[g4]<;>simp[SM.next]
 ·exact ⟨h,rfl,by omega,by omega⟩
def tkS (s:SP) (f:Nat) (x:SI):Option (Int × Int) :=
 if x.op=1∨x.op=2∨x.op=12 then some (0,1)
 else if x.op=3∨x.op=9∨x.op=13 then some (1,0)
 else if x.op=4∨x.op=7 then some (1,1)
 else if x.op=5 then some (2,0)
 else if x.op=6 then some (2,1)
 else if x.op=8 then some (0,0)
 else if x.op=10 then (if 0≤x.a∧x.a<s.funcs.length then some ((s.fn x.a.toNat).params,cntB (s.fn x.a.toNat).word) else none)
 else if x.op=11 then some (cntB (s.fn f).word,0)
 else none
def effD (s:SP) (f:Nat) (x:SI) (d:Int):Option Int :=
 match tkS s f x with
 | none=>none
 | some (t,p)=>if t<0∨d<t∨(x.op=11∧d≠t) then none else some (d-t+p)
def nextL (x:SI) (k:Nat):List Int:=if x.op=8 then [x.a] else if x.op=9 then [(k:Int)+1,x.a] else if x.op=11 then [] else [(k:Int)+1]
def Cl (s:SP) (f:Nat) (code:List SI) (dl:List Int) (i:Nat):Prop :=
 ∃ e,effD s f (code.getD i default) (dl.getD i (-1))=some e∧∀ k ∈ nextL (code.getD i default) i,0≤k∧k<code.length∧dl.getD k.toNat (-1)=e
structure Sol (s:SP) (f:Nat) (dl:List Int):Prop where
 ne:(s.fn f).code≠[]
 len:dl.length=(s.fn f).code.length
 zero:dl.getD 0 (-1)=0
 cl:∀ i,i<dl.length→0≤dl.getD i (-1)→Cl s f (s.fn f).code dl i
theorem tkS_p {s:SP} {f:Nat} {x:SI} {t p:Int} (h:tkS s f x=some (t,p)):0≤p∧p≤1:=by
 unfold tkS at h
 have cb:∀ b:Bool,(0:Int)≤(cntB b:Nat)∧((cntB b:Nat):Int)≤1:=fun b=>by cases b<;>decide
 by_cases e:x.op=1∨x.op=2∨x.op=12
 ·rw[if_pos e]at h;cases h;decide
 rw[if_neg e]at h;clear e
 by_cases e:x.op=3∨x.op=9∨x.op=13
 ·rw[if_pos e]at h;cases h;decide
 rw[if_neg e]at h;clear e
 by_cases e:x.op=4∨x.op=7
 ·rw[if_pos e]at h;cases h;decide
 rw[if_neg e]at h;clear e
 by_cases e:x.op=5
 ·rw[if_pos e]at h;cases h;decide
 rw[if_neg e]at h;clear e
 by_cases e:x.op=6
 ·rw[if_pos e]at h;cases h;decide
 rw[if_neg e]at h;clear e
 by_cases e:x.op=8
 ·rw[if_pos e]at h;cases h;decide
 rw[if_neg e]at h;clear e
 by_cases e:x.op=10
 ·rw[if_pos e]at h
  split at h
  ·cases h;exact cb _
  ·cases h
 rw[if_neg e]at h;clear e
 by_cases e:x.op=11
 ·rw[if_pos e]at h;cases h;decide
 rw[if_neg e]at h;cases h
theorem effD_bound {s:SP} {f:Nat} {x:SI} {d e:Int} (h:effD s f x d=some e):0≤e∧e≤d+1:=by
 unfold effD at h
 split at h
 ·cases h
 ·rename_i t p ht
  have:=tkS_p ht
  split at h
  ·cases h
  ·cases h;omega
theorem getD_lt {l:List Int} {j:Nat} (h:j<l.length):l.getD j default=l[j]:=by simp[List.getD,h]
def negs (dl:List Int):Nat:=dl.countP fun d=>decide (d<0)
theorem negs_set {dl:List Int} {k:Nat} {e:Int} (hk:k<dl.length) (h:dl.getD k (-1)<0) (he:0≤e):negs (dl.set k e)+1=negs dl:=by
 unfold negs
 rw[List.getD,List.getElem?_eq_getElem hk,Option.getD_some]at h
 have hp:0<dl.countP fun d=>decide (d<0):=List.countP_pos_iff.2 ⟨dl[k],List.getElem_mem hk,by simpa using h⟩
 rw[List.countP_set hk]
 have a1:decide (dl[k]<0)=true:=by simpa using h
 have a2:decide (e<0)=false:=by simp;omega
 simp only[a1,a2,if_true,Bool.false_eq_true,if_false]
 omega
theorem negs_le (dl:List Int):negs dl≤dl.length:=List.countP_le_length
structure WL (s:SP) (f:Nat) (dl:List Int) (todo:List Nat) (one:Option (Nat × Int × Nat)):Prop where
 len:dl.length=(s.fn f).code.length
 zero:dl.getD 0 (-1)=0
 td:∀ t ∈ todo,t<dl.length∧0≤dl.getD t (-1)
 cl:∀ i,i<dl.length→0≤dl.getD i (-1)→i ∈ todo∨(∃ e j,one=some (i,e,j))∨Cl s f (s.fn f).code dl i
 on:∀ i e j,one=some (i,e,j)→i<dl.length∧0≤dl.getD i (-1)∧effD s f ((s.fn f).code.getD i default) (dl.getD i (-1))=some e ∧
  ∀ k ∈ (nextL ((s.fn f).code.getD i default) i).take j,0≤k∧k<(s.fn f).code.length∧dl.getD k.toNat (-1)=e
 bound:∀ i,dl.getD i (-1)+negs dl≤dl.length
 sub:∀ out,Sol s f out→∀ i,0≤dl.getD i (-1)→out.getD i (-1)=dl.getD i (-1)
 ge:∀ i,-1≤dl.getD i (-1)
theorem WL.start {s:SP} {f:Nat} (h:(s.fn f).code≠[]):WL s f ((List.replicate (s.fn f).code.length (-1)).set 0 0) [0] none:=by
 obtain ⟨n,hn⟩:∃ n,(s.fn f).code.length=n+1:=by
  cases hc:(s.fn f).code with
  | nil=>exact absurd hc h
  | cons a l=>exact ⟨l.length,rfl⟩
 have hd:(List.replicate (s.fn f).code.length (-1:Int)).set 0 0=0::List.replicate n (-1):=by rw[hn];rfl
 have hr:∀ i,(List.replicate n (-1:Int)).getD i (-1) = -1:=fun i=>by
  rw[List.getD]
  by_cases hi:i<n
  ·rw[List.getElem?_replicate,if_pos hi];rfl
  ·rw[List.getElem?_replicate,if_neg hi];rfl
 rw[hd]
 have g0:(0::List.replicate n (-1:Int)).getD 0 (-1)=0:=rfl
 have gs:∀ i,(0::List.replicate n (-1:Int)).getD (i+1) (-1) = -1:=fun i=>by rw[List.getD_cons_succ];exact hr i
 refine ⟨by simp[hn],g0,?_,?_,?_,?_,?_,fun i=>(by cases i with
  | zero=>rw[g0];decide
  | succ i=>rw[gs];decide)⟩
 ·intro t ht
  simp only[List.mem_singleton]at ht;subst ht
  exact ⟨by simp,by rw[g0];decide⟩
 ·intro i _ hi
  cases i with
  | zero=>exact .inl (by simp)
  | succ i=>rw[gs]at hi;omega
 ·intro i e j h;cases h
 ·intro i
  have hneg:negs (0::List.replicate n (-1:Int))=n:=by
   unfold negs;rw[List.countP_cons,List.countP_replicate];simp
  rw[hneg]
  cases i with
  | zero=>rw[g0];simp;omega
  | succ i=>rw[gs];simp;omega
 ·intro out ho i hi
  cases i with
  | zero=>rw[g0];exact ho.zero
  | succ i=>rw[gs]at hi;omega
theorem WL.take {s:SP} {f:Nat} {dl:List Int} {todo rest:List Nat} {k:Nat} {e:Int} (h:WL s f dl todo none) (hk:k ∈ todo) (hr:∀ t,t ∈ todo→t=k∨t ∈ rest) (hr2:∀ t ∈ rest,t ∈ todo)
 (he:effD s f ((s.fn f).code.getD k default) (dl.getD k (-1))=some e):WL s f dl rest (some (k,e,0)):=by
 obtain ⟨h1,h2,h3,h4,h5,h6,h7,h8⟩:=h
 refine ⟨h1,h2,fun t ht=>h3 t (hr2 t ht),fun i hi hd=>?_,?_,h6,h7,h8⟩
 ·rcases h4 i hi hd with g | ⟨e,j,g⟩ | g
  ·rcases hr i g with rfl | g
   ·exact .inr (.inl ⟨e,0,rfl⟩)
   ·exact .inl g
  ·cases g
  ·exact .inr (.inr g)
 ·intro i e' j hx
  cases hx
  exact ⟨(h3 k hk).1,(h3 k hk).2,he,by simp⟩
theorem WL.fail {s:SP} {f:Nat} {dl:List Int} {todo:List Nat} {k:Nat} (h:WL s f dl todo none) (hk:k ∈ todo) (he:effD s f ((s.fn f).code.getD k default) (dl.getD k (-1))=none) (out:List Int):¬ Sol s f out:=fun ho=>by
 obtain ⟨h8,h9⟩:=h.td k hk
 have e:=h.sub out ho k h9
 obtain ⟨e',g1,_⟩:=ho.cl k (by rw[ho.len,← h.len];exact h8) (by rw[e];exact h9)
 rw[e,he]at g1;cases g1
theorem WL.fail2 {s:SP} {f:Nat} {dl:List Int} {todo:List Nat} {k j:Nat} {e:Int} (h:WL s f dl todo (some (k,e,j))) (hj:j<(nextL ((s.fn f).code.getD k default) k).length)
 (hb:(nextL ((s.fn f).code.getD k default) k).getD j default<0∨(s.fn f).code.length≤(nextL ((s.fn f).code.getD k default) k).getD j default ∨
   (0≤dl.getD ((nextL ((s.fn f).code.getD k default) k).getD j default).toNat (-1)∧dl.getD ((nextL ((s.fn f).code.getD k default) k).getD j default).toNat (-1)≠e)) (out:List Int):¬ Sol s f out:=fun ho=>by
 obtain ⟨h8,h9,h10,_⟩:=h.on k e j rfl
 have e1:=h.sub out ho k h9
 obtain ⟨e',g1,g2⟩:=ho.cl k (by rw[ho.len,← h.len];exact h8) (by rw[e1];exact h9)
 rw[e1,h10]at g1
 cases g1
 have hm:(nextL ((s.fn f).code.getD k default) k).getD j default ∈ nextL ((s.fn f).code.getD k default) k:=by
  rw[getD_lt hj];exact List.getElem_mem hj
 obtain ⟨q1,q2,q3⟩:=g2 _ hm
 rcases hb with hb | hb | ⟨hb1,hb2⟩
 ·omega
 ·omega
 ·exact hb2 (by rw[← h.sub out ho _ hb1];exact q3)
theorem WL.known {s:SP} {f:Nat} {dl:List Int} {todo:List Nat} {k j:Nat} {e:Int} (h:WL s f dl todo (some (k,e,j))) (hj:j<(nextL ((s.fn f).code.getD k default) k).length)
 (q1:0≤(nextL ((s.fn f).code.getD k default) k).getD j default) (q2:(nextL ((s.fn f).code.getD k default) k).getD j default<(s.fn f).code.length)
 (q3:dl.getD ((nextL ((s.fn f).code.getD k default) k).getD j default).toNat (-1)=e):WL s f dl todo (some (k,e,j+1)):=by
 obtain ⟨h1,h2,h3,h4,h5,h6,h7,h8⟩:=h
 refine ⟨h1,h2,h3,fun i hi hd=>?_,fun i e' j' hx=>?_,h6,h7,h8⟩
 ·rcases h4 i hi hd with g | ⟨e,j,g⟩ | g
  ·exact .inl g
  ·cases g;exact .inr (.inl ⟨_,_,rfl⟩)
  ·exact .inr (.inr g)
 ·cases hx
  obtain ⟨g1,g2,g3,g4⟩:=h5 k e j rfl
  refine ⟨g1,g2,g3,fun x hx=>?_⟩
  rw[List.take_add_one,List.getElem?_eq_getElem hj]at hx
  rcases List.mem_append.1 hx with hx | hx
  ·exact g4 x hx
  ·simp only[Option.toList_some,List.mem_singleton]at hx
   rw[getD_lt hj]at q1 q2 q3
   subst hx
   exact ⟨q1,q2,q3⟩
theorem WL.fresh {s:SP} {f:Nat} {dl:List Int} {todo todo':List Nat} {k j:Nat} {e:Int} (h:WL s f dl todo (some (k,e,j))) (hj:j<(nextL ((s.fn f).code.getD k default) k).length)
 (q1:0≤(nextL ((s.fn f).code.getD k default) k).getD j default) (q2:(nextL ((s.fn f).code.getD k default) k).getD j default<(s.fn f).code.length)
 (q3:dl.getD ((nextL ((s.fn f).code.getD k default) k).getD j default).toNat (-1)<0) (ht:∀ t,t ∈ todo'↔t=((nextL ((s.fn f).code.getD k default) k).getD j default).toNat∨t ∈ todo) :
 WL s f (dl.set ((nextL ((s.fn f).code.getD k default) k).getD j default).toNat e) todo' (some (k,e,j+1)):=by
 obtain ⟨x,hx⟩:∃ x,(nextL ((s.fn f).code.getD k default) k).getD j default=x:=⟨_,rfl⟩
 rw[hx]at q1 q2 q3 ht ⊢
 have h5:=h.on k e j rfl
 obtain ⟨h1,h2,h3,h4,_,h6,h7,h8⟩:=h
 obtain ⟨g1,g2,g3,g4⟩:=h5
 obtain ⟨hb1,hb2⟩:=effD_bound g3
 have hxl:x.toNat<dl.length:=by omega
 have get:∀ i,(dl.set x.toNat e).getD i (-1)=if i=x.toNat then e else dl.getD i (-1):=fun i=>by
  rw[List.getD,List.getD,List.getElem?_set]
  by_cases hi:x.toNat=i
  ·rw[if_pos hi,if_pos hxl,if_pos hi.symm];rfl
  ·rw[if_neg hi,if_neg (fun h=>hi h.symm)]
 have keep:∀ i,0≤dl.getD i (-1)→(dl.set x.toNat e).getD i (-1)=dl.getD i (-1):=fun i hi=>by
  rw[get,if_neg];intro e';rw[e']at hi;omega
 have hneg:=negs_set hxl q3 hb1
 have hm:x ∈ nextL ((s.fn f).code.getD k default) k:=by
  rw[← hx,getD_lt hj];exact List.getElem_mem hj
 refine ⟨by rw[List.length_set];exact h1,by rw[keep 0 (by rw[h2];decide)];exact h2,fun t hh=>?_,fun i hi hd=>?_,fun i e' j' hx'=>?_,fun i=>?_,fun out ho i hi=>?_,fun i=>(by rw[get];split;omega;exact h8 i)⟩
 ·rw[List.length_set]
  rcases (ht t).1 hh with rfl | hh
  ·exact ⟨hxl,by rw[get,if_pos rfl];exact hb1⟩
  ·exact ⟨(h3 t hh).1,by rw[keep t (h3 t hh).2];exact (h3 t hh).2⟩
 ·rw[List.length_set]at hi
  by_cases hix:i=x.toNat
  ·exact .inl ((ht i).2 (.inl hix))
  ·rw[get,if_neg hix]at hd
   rcases h4 i hi hd with g | ⟨_,_,g⟩ | ⟨e2,c1,c2⟩
   ·exact .inl ((ht i).2 (.inr g))
   ·cases g;exact .inr (.inl ⟨_,_,rfl⟩)
   ·refine .inr (.inr ⟨e2,by rw[keep i hd];exact c1,fun y hy=>?_⟩)
    obtain ⟨d1,d2,d3⟩:=c2 y hy
    have:=(effD_bound c1).1
    exact ⟨d1,d2,by rw[keep _ (by rw[d3];exact this)];exact d3⟩
 ·cases hx'
  refine ⟨by rw[List.length_set];exact g1,by rw[keep k g2];exact g2,by rw[keep k g2];exact g3,fun y hy=>?_⟩
  rw[List.take_add_one,List.getElem?_eq_getElem hj]at hy
  rcases List.mem_append.1 hy with hy | hy
  ·obtain ⟨d1,d2,d3⟩:=g4 y hy
   exact ⟨d1,d2,by rw[keep _ (by rw[d3];exact hb1)];exact d3⟩
  ·simp only[Option.toList_some,List.mem_singleton]at hy
   rw[getD_lt hj]at hx
   subst hy
   rw[hx]
   exact ⟨q1,q2,by rw[get,if_pos rfl]⟩
 ·rw[List.length_set,get]
  split
  ·have:=h6 k;omega
  ·have:=h6 i;omega
 ·rw[get]at hi ⊢
  split
  ·rename_i hix
   have e1:=h7 out ho k g2
   obtain ⟨e',c1,c2⟩:=ho.cl k (by rw[ho.len,← h1];exact g1) (by rw[e1];exact g2)
   rw[e1,g3]at c1
   cases c1
   rw[hix];exact (c2 x hm).2.2
  ·rename_i hix
   rw[if_neg hix]at hi
   exact h7 out ho i hi
theorem WL.done {s:SP} {f:Nat} {dl:List Int} {todo:List Nat} {k j:Nat} {e:Int} (h:WL s f dl todo (some (k,e,j))) (hj:(nextL ((s.fn f).code.getD k default) k).length≤j):WL s f dl todo none:=by
 obtain ⟨g1,g2,g3,g4⟩:=h.on k e j rfl
 obtain ⟨h1,h2,h3,h4,h5,h6,h7,h8⟩:=h
 refine ⟨h1,h2,h3,fun i hi hd=>?_,fun i e' j' hx=>(by cases hx),h6,h7,h8⟩
 rcases h4 i hi hd with g | ⟨e,j,g⟩ | g
 ·exact .inl g
 ·cases g
  exact .inr (.inr ⟨_,g3,fun y hy=>g4 y (by rw[List.take_of_length_le hj];exact hy)⟩)
 ·exact .inr (.inr g)
theorem WL.sol {s:SP} {f:Nat} {dl:List Int} (h:WL s f dl [] none):Sol s f dl:=by
 refine ⟨fun hc=>?_,h.len,h.zero,fun i hi hd=>?_⟩
 ·have h0:=h.zero
  rw[show dl=[] from List.eq_nil_of_length_eq_zero (by rw[h.len,hc];rfl)]at h0
  simp at h0
 ·rcases h.cl i hi hd with g | ⟨e,j,g⟩ | g
  ·cases g
  ·cases g
  ·exact g
def DepthsR (s:SP) (f:Nat) (dl:List Int) (ok:Bool):Prop :=
 (ok=true→Sol s f dl∧(∀ i,dl.getD i (-1)≤dl.length)∧∀ i,-1≤dl.getD i (-1))∧∀ out,Sol s f out→ok=true∧∀ i,0≤dl.getD i (-1)→out.getD i (-1)=dl.getD i (-1)
structure Ci where
 op:Int
 a:Int
 b:Int
 c:Int
deriving Inhabited,DecidableEq
abbrev Sy:=Ci × Option (Int × Int)
abbrev Sp:=Int × Int × Int
def pY (op a b c:Int):Sy:=(⟨op,a,b,c⟩,none)
def jY (op a fn to:Int):Sy:=(⟨op,a,0,0⟩,some (fn,to))
def spotL:Nat→List Sy→List Sp
 | _,[]=>[]
 | n,(_,none)::l=>spotL (n+1) l
 | n,(_,some p)::l=>((n:Int),p.1,p.2)::spotL (n+1) l
theorem spotL_append:∀ (l m:List Sy) (n:Nat),spotL n (l++m)=spotL n l++spotL (n+l.length) m
 | [],m,n=>by simp[spotL]
 | (i,none)::l,m,n=>by simp only[List.cons_append,spotL,spotL_append l m,List.length_cons];rw[show n+1+l.length=n+(l.length+1) by omega]
 | (i,some p)::l,m,n=>by simp only[List.cons_append,spotL,spotL_append l m,List.length_cons];rw[show n+1+l.length=n+(l.length+1) by omega]
theorem spotL_len:∀ (l:List Sy) (n:Nat),(spotL n l).length≤l.length
 | [],_=>by simp[spotL]
 | (i,none)::l,n=>by simp only[spotL,List.length_cons];have:=spotL_len l (n+1);omega
 | (i,some p)::l,n=>by simp only[spotL,List.length_cons];have:=spotL_len l (n+1);omega
structure Ex where
 s:SP
 back:Int
 base:Int
 fn:Nat
 dl:List Int
def Ex.g (c:Ex):SF:=c.s.fn c.fn
abbrev Ex.last (c:Ex):Prop:=(c.fn:Int)=(c.s.funcs.length:Int)-1
def ldE (c:Ex) (d r b:Int):Sy:=pY 16 r 0 (c.base+d-b)
def stE (c:Ex) (d r b:Int):Sy:=pY 17 r 0 (c.base+d-b)
def numE (r n:Int):List Sy:=pY 1 r 0 (n % 65536)::(if 65535<n then [pY 2 r 0 (n / 65536)] else [])
def argE (c:Ex) (d:Int) (g:SF) (k:Nat):List Sy:=[ldE c d 1 (g.params-k),pY 17 1 0 (g.first+k)]
def argsE (c:Ex) (d:Int) (g:SF) (n:Nat):List Sy:=(List.range n).flatMap (argE c d g)
theorem argsE_succ (c:Ex) (d:Int) (g:SF) (n:Nat):argsE c d g (n+1)=argsE c d g n++argE c d g n:=by simp[argsE,List.range_succ]
theorem argsE_len (c:Ex) (d:Int) (g:SF):∀ n,(argsE c d g n).length=2*n
 | 0=>rfl
 | n+1=>by rw[argsE_succ,List.length_append,argsE_len c d g n];simp[argE];omega
def callE (c:Ex) (d:Int) (x:SI):List Sy :=
 argsE c d (c.s.fn x.a.toNat) (c.s.fn x.a.toNat).params.toNat++[jY 21 14 x.a (-1)]++(if (c.s.fn x.a.toNat).word=true then [stE c d 1 (c.s.fn x.a.toNat).params] else [])
def leaveE (c:Ex) (d:Int):List Sy :=
 if c.last then [pY 26 0 0 0] else (if c.g.word=true then [ldE c d 1 1] else [])++[pY 16 14 0 c.back,pY 22 14 0 0]
def insE (c:Ex) (d:Int) (x:SI):List Sy :=
 if x.op=1 then numE 1 x.n++[stE c d 1 0]
 else if x.op=2 then [pY 16 1 0 x.a,stE c d 1 0]
 else if x.op=3 then [ldE c d 1 1,pY 17 1 0 x.a]
 else if x.op=4 then [ldE c d 1 1,pY 25 1 0 x.b,pY 16 1 1 x.a,stE c d 1 1]
 else if x.op=5 then [ldE c d 1 2,pY 25 1 0 x.b,ldE c d 2 1,pY 17 2 1 x.a]
 else if x.op=6 then [ldE c d 1 2,ldE c d 2 1,pY x.a 1 1 2,stE c d 1 2]
 else if x.op=7 then [ldE c d 1 1,pY 15 1 1 0,stE c d 1 1]
 else if x.op=8 then [jY 18 0 c.fn x.a]
 else if x.op=9 then [ldE c d 1 1,jY 19 1 c.fn x.a]
 else if x.op=10 then callE c d x
 else if x.op=11 then leaveE c d
 else if x.op=12 then [pY 23 1 0 0,stE c d 1 0]
 else if x.op=13 then [ldE c d 1 1,pY 24 1 0 0]
 else []
def atE (c:Ex) (i:Nat) (x:SI):List Sy:=if 0≤c.dl.getD i (-1) then insE c (c.dl.getD i (-1)) x else []
def restE (c:Ex):Nat→List SI→List Sy
 | _,[]=>[]
 | i,x::l=>atE c i x++restE c (i+1) l
theorem restE_snoc (c:Ex) (x:SI):∀ (l:List SI) (i:Nat),restE c i (l++[x])=restE c i l++atE c (i+l.length) x
 | [],i=>by simp[restE]
 | y::l,i=>by
  simp only[List.cons_append,restE,restE_snoc c x l,List.length_cons,List.append_assoc]
  rw[show i+1+l.length=i+(l.length+1) by omega]
def zerosE (a:Int) (n:Nat):List Sy:=(List.range n).map fun k:Nat=>pY 17 0 0 (a+k)
theorem zerosE_succ (a:Int) (n:Nat):zerosE a (n+1)=zerosE a n++[pY 17 0 0 (a+n)]:=by simp[zerosE,List.range_succ]
def clearE (n0:Nat) (a b:Int):List Sy :=
 if b-a≤6 then zerosE a (b-a).toNat
 else [pY 1 1 0 a,pY 1 2 0 b,pY 17 0 1 0,pY 4 1 1 15,pY 14 3 1 2,pY 20 3 0 ((n0+2:Nat):Int)]
def headE (c:Ex) (n0:Nat):List Sy:=if c.last then [] else [pY 17 14 0 c.back]++clearE (n0+1) (c.g.first+c.g.params) (c.g.first+c.g.slots)
def funE (c:Ex) (n0:Nat):List Sy:=headE c n0++restE c 0 c.g.code
def rowE (c:Ex) (n0:Nat) (k:Nat):List Int:=(List.range c.g.code.length).map fun i=>if i<k then ((n0+(restE c 0 (c.g.code.take i)).length:Nat):Int) else 0
theorem rowE_len (c:Ex) (n0 k:Nat):(rowE c n0 k).length=c.g.code.length:=by simp[rowE]
theorem rowE_zero (c:Ex) (n0:Nat):rowE c n0 0=List.replicate c.g.code.length 0:=List.ext_getElem (by simp[rowE]) fun i h1 h2=>by simp[rowE]
theorem rowE_set (c:Ex) (n0:Nat) {j:Nat} (hj:j<c.g.code.length):(rowE c n0 j).set j ((n0+(restE c 0 (c.g.code.take j)).length:Nat):Int)=rowE c n0 (j+1):=by
 refine List.ext_getElem (by simp[rowE]) fun i h1 h2=>?_
 rw[List.getElem_set]
 simp only[rowE,List.getElem_map,List.getElem_range]
 by_cases e:j=i
 ·subst e;rw[if_pos rfl,if_pos (by omega)]
 ·rw[if_neg e]
  by_cases h:i<j
  ·rw[if_pos h,if_pos (by omega)]
  ·rw[if_neg h,if_neg (by omega)]
theorem DepthsR.one {s:SP} {f:Nat} {d e:List Int} (h:DepthsR s f d true) (k:DepthsR s f e true):d=e:=by
 obtain ⟨h1,h2,h3⟩:=h.1 rfl
 obtain ⟨k1,k2,k3⟩:=k.1 rfl
 refine List.ext_getElem (by rw[h1.len,k1.len]) fun i g1 g2=>?_
 have e1:d.getD i (-1)=d[i]:=by simp[List.getD,g1]
 have e2:e.getD i (-1)=e[i]:=by simp[List.getD,g2]
 have a:=(h.2 e k1).2 i
 have b:=(k.2 d h1).2 i
 have c1:=h3 i
 have c2:=k3 i
 rw[e1,e2]at a
 rw[e1,e2]at b
 rw[e1]at c1
 rw[e2]at c2
 by_cases g:0≤d[i]
 ·exact (a g).symm
 ·by_cases g':0≤e[i]
  ·exact b g'
  ·omega
noncomputable def depS (s:SP) (f:Nat):List Int:=@dite _ (∃ dl,DepthsR s f dl true) (Classical.propDecidable _) (fun h=>Classical.choose h) (fun _=>[])
theorem depS_eq {s:SP} {f:Nat} {d:List Int} (h:DepthsR s f d true):depS s f=d:=by
 have hx:∃ dl,DepthsR s f dl true:=⟨d,h⟩
 unfold depS
 rw[dif_pos hx]
 exact (Classical.choose_spec hx).one h
def dpE (dl:List Int):Int:=dl.foldl max 0
noncomputable def datE (s:SP):Nat→Int
 | 0=>s.words
 | f+1=>datE s f+(if f+1=s.funcs.length then 0 else 1)+dpE (depS s f)
noncomputable def baseE (s:SP) (f:Nat):Int:=datE s f+(if f+1=s.funcs.length then 0 else 1)
noncomputable def exE (s:SP) (f:Nat):Ex:=⟨s,datE s f,baseE s f,f,depS s f⟩
structure S3 where
 l:List Sy
 en:List Int
 rows:List (List Int)
noncomputable def stepE (s:SP) (S:S3) (i:Nat):S3 :=
 ⟨S.l++funE (exE s i) S.l.length,S.en.set i (S.l.length:Nat),S.rows.set i (rowE (exE s i) (S.l.length+(headE (exE s i) S.l.length).length) (s.fn i).code.length)⟩
noncomputable def runE (s:SP) (o:List Nat):S3:=o.foldl (stepE s) ⟨[pY 1 15 0 1],List.replicate s.funcs.length 0,List.replicate s.funcs.length []⟩
def ordJ (n j:Nat):List Nat:=(n-1)::List.range j
theorem runE_snoc (s:SP) (o:List Nat) (i:Nat):runE s (o++[i])=stepE s (runE s o) i:=by unfold runE;rw[List.foldl_append];rfl
theorem ordJ_succ (n j:Nat):ordJ n (j+1)=ordJ n j++[j]:=by unfold ordJ;rw[List.range_succ];rfl
noncomputable def endE (s:SP):S3:=runE s (ordJ s.funcs.length (s.funcs.length-1))
noncomputable def dataE (s:SP):Int:=datE s s.funcs.length
set_option maxRecDepth 10000
open Go.V
set_option maxRecDepth 10000
open Go.V
theorem ba_loop (bs:ByteArray):∀ (n i:Nat) (r:List UInt8),bs.size-i=n→ByteArray.toList.loop bs i r=r.reverse++bs.data.toList.drop i:=by
 intro n
 induction n with
 | zero =>
  intro i r h
  rw[ByteArray.toList.loop,if_neg (by omega),List.drop_eq_nil_of_le (by simp;omega)];simp
 | succ n ih =>
  intro i r h
  have hi:i<bs.data.toList.length:=by simp;omega
  rw[ByteArray.toList.loop,if_pos (by omega),ih (i+1) _ (by omega),List.drop_eq_getElem_cons hi]
  have:bs.get! i=bs.data.toList[i]:=by
   have hi2:i<bs.data.size:=by simpa using hi
   rw[Array.getElem_toList hi2]
   simp only[ByteArray.get!];exact getElem!_pos bs.data i hi2
  rw[this];simp
theorem ba_toList (bs:ByteArray):bs.toList=bs.data.toList:=by
 rw[ByteArray.toList,ba_loop bs bs.size 0 [] (by omega)];simp
def vOp (op:Int):Bool:=decide (1≤op) && decide (op≤27)
def hA (op:Int):Bool:=vOp op && !(decide (op=18) || decide (op=26))
def hB (op:Int):Bool:=decide (op=3) || (decide (4≤op) && decide (op≤17)) || decide (op=27)
def cK (op:Int):Int:=if 4≤op∧op≤15 then 2 else if op=1∨op=2∨(16≤op∧op≤21)∨op=25∨op=27 then 1 else 0
def winB (v most:Int) (named:Bool):Bool:=if named then decide (0≤v) && decide (v≤most) else decide (v=0)
def okI (op a b c:Int):Bool:=vOp op && winB a 15 (hA op) && winB b 15 (hB op) && winB c (if cK op=2 then 15 else 65535) (decide (cK op≠0))
abbrev shp (nm:ByteArray) (op:Int):AV:=.agg [strv nm,B (hA op),B (hB op),I (cK op)]
abbrev insA (op a b c:Int):AV:=.agg [I op,I a,I b,I c]
theorem withinM_c (v most:Int) (named:Bool):Contract Try.prog 78 [I v,I most,B named] (fun r=>r=B (winB v most named)):=by
 refine Contract.of_call (VCall.of_body hmix f_inst_within (by simp) ?_)
 cases named with
 | false =>
  simp only[go_sem,c_inst_within]
  exact ⟨_,Frz.pure rfl,by simp[winB];rfl⟩
 | true =>
  by_cases h:0≤v
  ·simp only[go_sem,c_inst_within,eq_true h]
   exact ⟨_,Frz.pure rfl,by simp[winB,h]⟩
  ·simp only[go_sem,c_inst_within,eq_false h]
   exact ⟨_,Frz.pure rfl,by simp[winB,h]⟩
theorem shapeOf_c (op:Int):Contract Try.prog 77 [I op] (fun r=>∃ nm:ByteArray,r=shp nm op∧(nm.toList == ByteArray.toList ⟨#[]⟩) = !(vOp op)):=by
 refine Contract.of_call (VCall.of_body hmix f_inst_shapeOf (by simp) ?_)
 simp only[go_sem,c_inst_shapeOf]
 iterate 27 (refine ⟨fun h=>by subst h;exact ⟨_,Frz.pure rfl,_,rfl,by simp only[ba_toList];rfl⟩,fun _=>?_⟩)
 have h1:vOp op=false:=by simp[vOp];omega
 have h2:hA op=false:=by simp[hA,h1]
 have h3:hB op=false:=by simp[hB];omega
 have h4:cK op=0:=by unfold cK;rw[if_neg (by omega),if_neg (by omega)]
 exact ⟨_,Frz.pure rfl,⟨#[]⟩,by rw[shp,h2,h3,h4],by rw[h1];simp⟩
theorem known_c (op:Int):Contract Try.prog 76 [I op] (fun r=>r=B (vOp op)):=by
 refine Contract.of_call (VCall.of_body hmix f_inst_known (by simp) ?_)
 simp only[go_sem,c_inst_known]
 refine VCall.of_contract (shapeOf_c op) (SleL.pure rfl) fun x hx=>?_
 obtain ⟨nm,rfl,hn⟩:=hx
 simp only[go_sem,hn]
 exact ⟨_,Frz.pure rfl,by simp⟩
theorem right_c (op a b c:Int):Contract Try.prog 43 [insA op a b c] (fun r=>r=B (okI op a b c)):=by
 refine Contract.of_call (VCall.of_body hmix f_inst_Right (by simp) ?_)
 simp only[go_sem,c_inst_Right]
 refine VCall.of_contract (known_c op) (SleL.pure rfl) fun x hx=>?_
 subst hx
 cases hv:vOp op
 ·simp only[go_sem]
  exact ⟨_,Frz.pure rfl,by simp[okI,hv]⟩
 simp only[go_sem]
 refine VCall.of_contract (shapeOf_c op) (SleL.pure rfl) fun x hx=>?_
 obtain ⟨nm,rfl,hn⟩:=hx
 by_cases hk:cK op=2
 have hk':=eq_true hk
 rotate_left
 have hk':=eq_false hk
 all_goals
  simp only[go_sem,hk']
  refine VCall.of_contract (withinM_c a 15 (hA op)) (SleL.pure rfl) fun x hx=>?_
  subst hx
  cases h1:winB a 15 (hA op)
  ·simp only[go_sem]
   exact ⟨_,Frz.pure rfl,by simp[okI,h1]⟩
  simp only[go_sem]
  refine VCall.of_contract (withinM_c b 15 (hB op)) (SleL.pure rfl) fun x hx=>?_
  subst hx
  cases h2:winB b 15 (hB op)
  ·simp only[go_sem]
   exact ⟨_,Frz.pure rfl,by simp[okI,h2]⟩
  simp only[go_sem]
  refine VCall.of_contract (withinM_c c _ _) (SleL.pure rfl) fun x hx=>?_
  subst hx
  simp only[go_sem]
  refine ⟨_,Frz.pure rfl,?_⟩
  have hn:(cK op != 0)=decide (cK op≠0):=by simp[bne];rfl
  simp[okI,h1,h2,hv,hk,hn]
set_option maxRecDepth 10000
open Go.V
theorem flag_c (b:Bool):Contract Try.prog 50 [B b] (fun r=>r=U32 (if b then 1 else 0)):=by
 refine Contract.of_call (VCall.of_body hmix f_scref01_flag (by simp) ?_)
 cases b<;>simp only[go_sem,c_scref01_flag]<;>exact ⟨_,Frz.pure rfl,by simp⟩
section
variable {α:Type}
theorem obj_get (H:List α) (o:α) (tl:List α):(H++o::tl)[H.length]? = some o:=by simp
theorem obj_get1 (H:List α) (o t:α) (tl:List α):(H++o::t::tl)[H.length+1]? = some t:=by
 rw[List.getElem?_append_right (by omega)];simp
theorem obj_set (H:List α) (o x:α) (tl:List α):(H++o::tl).set H.length x=H++x::tl:=by
 rw[List.set_append_right _ _ (by omega)];simp
end
theorem bits_v (a:Int) (ha:In32 a) (H:List VObj) (nx:Nat) (C:AV→List VObj→Nat→Prop)
 (hC:∀ s nx' tl,nx≤s→s<nx'→C (.ref H.length s 0 32) (H++⟨s,3,1,(bitsN a.toNat 32).map I⟩::tl) nx'):VCall Try.prog 84 [U32 a] H nx C:=by
 refine VCall.of_body hmix f_scref01_Bits (by simp) ?_
 simp only[go_sem,c_scref01_Bits]
 have hmx:(2000000:Nat)≤maxLen:=by decide
 refine VW_loop (fun q:Nat × Nat × Nat=>⟨[(0,U32 ((a.toNat / 2 ^ q.1:Nat):Int)),(3,.ref H.length q.2.1 0 q.1),(4,I q.1)],H++[⟨q.2.1,3,1,(bitsN a.toNat q.1).map I⟩],q.2.2⟩)
  (fun q=>q.1≤32∧nx≤q.2.1∧q.2.1<q.2.2) (fun q=>32-q.1) (0,nx,nx+1)
  (Wk.virt 3 1 (by decide) ?_ ⟨H,rfl,rfl,fun j ob' ho=>⟨ob',ho,rfl,rfl,rfl,rfl,fun _=>rfl,fun i x y hx hy=>.inl (by rw[hx]at hy;exact Option.some.inj hy)⟩⟩ rfl) ⟨by simp,Nat.le_refl _,by simp⟩ ?_
 ·have:=ha.1
  simp[get_cons];omega
 rintro ⟨k,s,n⟩ ⟨hk,hs,hsn⟩
 simp only at hk hs hsn
 by_cases h1:k<32
 case neg =>
  have h1':=eq_false (show ¬ (k:Int)<32 by omega)
  have:k=32:=by omega
  subst this
  simp only[go_sem,h1']
  exact hC s n [] hs hsn
 have h1':=eq_true (show (k:Int)<32 by omega)
 have hl:=bitsN_length a.toNat k
 have hsu:((a.toNat / 2 ^ (k+1):Nat):Int)=((a.toNat / 2 ^ k / 2:Nat):Int):=by rw[Nat.pow_succ,Nat.div_div_eq_div_mul]
 have hqa:a.toNat / 2 ^ k≤a.toNat:=Nat.div_le_self _ _
 have hbs:=bitsN_succ a.toNat k
 have ha2:=ha.2
 have ha1:=ha.1
 generalize a.toNat / 2 ^ k=q at hsu hqa hbs
 have hw1:IntKind.i64.wrap ((q:Int).tmod 2)=((q % 2:Nat):Int):=by
  rw[Int.tmod_eq_emod_of_nonneg (by omega),i64_in (by omega) (by omega)];omega
 have hw2:IntKind.u32.wrap ((q:Int).tdiv 2)=((q / 2:Nat):Int):=by
  rw[Int.tdiv_eq_ediv_of_nonneg (by omega),w32_in ⟨by omega,by omega⟩];omega
 simp only[go_sem,h1',List.append_assoc,obj_get,obj_get1,obj_set,List.length_append,hw1,hw2]
 repeat (refine And.intro (by omega) ?_)
 rw[i64_in (by omega) (by omega)]
 refine ⟨(k+1,n+1,n+1+1),⟨by simp only;omega,by simp only;omega,by simp only;omega⟩,by simp only;omega,Wk.mk (by simp only[hsu];simp[get_cons]) ⟨[⟨n,3,1,[I ((q % 2:Nat):Int)]⟩],?_⟩ (Nat.le_refl _)⟩
 rw[List.take_of_length_le (by simp[hl]),hbs,List.map_append]
 simp
theorem numN_lt:∀ (l:List Int),(∀ b ∈ l,b=0∨b=1)→numN l<2 ^ l.length
 | [],_=>by simp[numN]
 | b::l,h=>by
  have:=numN_lt l fun c hc=>h c (by simp[hc])
  have:=h b (by simp)
  simp only[numN,List.length_cons,Nat.pow_succ]
  omega
theorem ofN_c (l:List Int) (hl:l.length≤32) (hb:∀ b ∈ l,b=0∨b=1):ContractN Try.prog 85 [ints l] (fun r=>r=U32 ((numN l:Nat):Int)):=by
 refine ContractN.of_call (VCall.of_body hmix f_scref01_Of (by simp) ?_)
 simp only[go_sem,c_scref01_Of]
 rw[i64_in (by omega) (by omega)]
 refine VW_loop (fun j:Nat=>⟨[(0,ints l),(3,.val (.int .u64 (numN (l.drop j):Nat))),(4,I ((j:Int)-1))],[],0⟩) (fun j=>j≤l.length) (fun j=>j) l.length
  (Wk.mk (by simp[get_cons,numN]) ⟨[],rfl⟩ (Nat.le_refl _)) (Nat.le_refl _) ?_
 intro j hj
 have hlt:=numN_lt (l.drop j) fun b hx=>hb b (List.mem_of_mem_drop hx)
 have hp:2 ^ (l.drop j).length≤2 ^ 32:=Nat.pow_le_pow_right (by omega) (by simp;omega)
 by_cases h1:j=0
 ·subst h1
  simp only[go_sem]
  rw[List.drop_zero]at hlt hp
  refine ⟨fun h=>by omega,fun _=>?_⟩
  have hm:IntKind.u32.wrap (((numN l:Nat):Int).tmod 4294967296)=((numN l:Nat):Int):=by
   rw[Int.tmod_eq_emod_of_nonneg (by omega),IntKind.wrap_u32];omega
  rw[hm]
  exact ⟨by omega,_,FrzN.val,rfl⟩
 ·have h1':=eq_true (show (0:Int)≤(j:Int)-1 by omega)
  have e1:((j:Int)-1).toNat=j-1:=by omega
  obtain ⟨i,rfl⟩:∃ i,j=i+1:=⟨j-1,by omega⟩
  have hi:i<l.length:=by omega
  have hd:=List.drop_eq_getElem_cons hi
  have hbit:=hb l[i] (List.getElem_mem hi)
  have eg:l.getD i default=l[i]:=by simp[List.getD,List.getElem?_eq_getElem hi]
  have hlt2:=numN_lt (l.drop (i+1)) fun b hx=>hb b (List.mem_of_mem_drop hx)
  simp only[go_sem,h1',e1,Nat.add_sub_cancel,eg]
  repeat (refine And.intro (by omega) ?_)
  have hw:IntKind.u64.wrap (IntKind.u64.wrap (2*((numN (l.drop (i+1)):Nat):Int))+IntKind.u64.wrap l[i])=((numN (l.drop i):Nat):Int):=by
   rw[hd,numN]
   simp only[IntKind.wrap_u64]
   omega
  rw[hw,i64_in (by omega) (by omega)]
  exact ⟨i,by omega,by omega,Wk.mk (by simp[get_cons]<;>omega) ⟨[],rfl⟩ (Nat.le_refl _)⟩
def shN (op a:Int) (k:Nat):Int:=if op=12 then ((a.toNat*2 ^ k % 4294967296:Nat):Int) else ((a.toNat / 2 ^ k:Nat):Int)
theorem refshift_c (op a b:Int) (ha:In32 a) (hb:In32 b):Contract Try.prog 49 [I op,U32 a,U32 b] (fun r=>r=U32 (if 31<b then 0 else shN op a b.toNat)):=by
 refine Contract.of_call (VCall.of_body hmix f_scref01_shift (by simp) ?_)
 obtain ⟨ha1,ha2⟩:=ha
 obtain ⟨hb1,hb2⟩:=hb
 by_cases h0:32≤b
 ·simp only[go_sem,c_scref01_shift,eq_true h0]
  exact ⟨_,Frz.pure rfl,by rw[if_pos (by omega)]⟩
 simp only[go_sem,c_scref01_shift,eq_false h0]
 have hshl:∀ k,shN op a k≤4294967295∧0≤shN op a k:=fun k=>by
  unfold shN
  split
  ·omega
  ·have:=Nat.div_le_self a.toNat (2 ^ k)
   generalize a.toNat / 2 ^ k=q at *
   omega
 have hs:∀ k,shN op a (k+1)=if op=12 then (2*shN op a k) % 4294967296 else shN op a k / 2:=fun k=>by
  unfold shN
  by_cases e:op=12
  ·simp only[if_pos e]
   rw[Nat.pow_succ,← Nat.mul_assoc]
   generalize a.toNat*2 ^ k=q
   omega
  ·simp only[if_neg e]
   rw[Nat.pow_succ,← Nat.div_div_eq_div_mul]
   generalize a.toNat / 2 ^ k=q
   omega
 have hz:shN op a 0=a:=by unfold shN;split<;>simp<;>omega
 refine VW_loop (fun k:Nat=>⟨[(0,I op),(2,U32 b),(7,.val (.int .u64 (shN op a k))),(8,U32 k)],[],0⟩) (fun k=>k≤b.toNat) (fun k=>b.toNat-k) 0
  (Wk.mk ?_ ⟨[],rfl⟩ (Nat.le_refl _)) (by omega) ?_
 ·have:IntKind.u64.wrap a=a:=by rw[IntKind.wrap_u64];omega
  simp[get_cons,hz,this]
 intro k hk
 have hk1:=hshl k
 by_cases h1:k<b.toNat
 case neg =>
  have h1':=eq_false (show ¬ (k:Int)<b by omega)
  simp only[go_sem,h1']
  have:k=b.toNat:=by omega
  subst this
  rw[w32_in ⟨hk1.2,by omega⟩]
  exact ⟨_,Frz.pure rfl,by rw[if_neg (by omega)]⟩
 have h1':=eq_true (show (k:Int)<b by omega)
 by_cases e:op=12
 case pos =>
  simp only[go_sem,h1',eq_true e]
  have hw:(IntKind.u64.wrap (2*shN op a k)).tmod 4294967296=shN op a (k+1):=by
   rw[hs,if_pos e,IntKind.wrap_u64,Int.tmod_eq_emod_of_nonneg (by omega)];omega
  refine ⟨by omega,?_⟩
  rw[hw,w32_in ⟨by omega,by omega⟩]
  exact ⟨k+1,by omega,by omega,Wk.mk (by simp[get_cons,e]) ⟨[],rfl⟩ (Nat.le_refl _)⟩
 case neg =>
  simp only[go_sem,h1',eq_false e]
  have hw:IntKind.u64.wrap ((shN op a k).tdiv 2)=shN op a (k+1):=by
   rw[hs,if_neg e,Int.tdiv_eq_ediv_of_nonneg (by omega),IntKind.wrap_u64];omega
  refine ⟨by omega,?_⟩
  rw[hw,w32_in ⟨by omega,by omega⟩]
  exact ⟨k+1,by omega,by omega,Wk.mk (by simp[get_cons]) ⟨[],rfl⟩ (Nat.le_refl _)⟩
def zL (x a k:Nat):List Int:=bitsN x k++(bitsN a 32).drop k
theorem zL_length {x a k:Nat} (h:k≤32):(zL x a k).length=32:=by simp[zL,bitsN_length];omega
theorem zL_get {x a k:Nat} (h:k<32):(zL x a k).getD k default=((a / 2 ^ k % 2:Nat):Int):=by
 have:(zL x a k).getD k default=(bitsN a 32).getD k default:=by
  unfold zL
  simp only[List.getD]
  rw[List.getElem?_append_right (by rw[bitsN_length];exact Nat.le_refl _),bitsN_length,Nat.sub_self,List.getElem?_drop,Nat.add_zero]
 rw[this,bitsN_get h]
theorem zL_set {x a k:Nat} (h:k<32):(zL x a k).set k ((x / 2 ^ k % 2:Nat):Int)=zL x a (k+1):=by
 have hk:k<(bitsN a 32).length:=by rw[bitsN_length];exact h
 unfold zL
 rw[bitsN_succ x k]
 generalize bitsN a 32=l at hk
 rw[List.set_append_right _ _ (by rw[bitsN_length];exact Nat.le_refl _),bitsN_length,Nat.sub_self,List.drop_eq_getElem_cons hk,List.set_cons_zero,List.append_assoc]
 rfl
theorem rboth_c (op a b:Int) (ho:op=9∨op=10∨op=11) (ha:In32 a) (hb:In32 b):Contract Try.prog 48 [I op,U32 a,U32 b] (fun r=>r=U32 (applyW op a b).1):=by
 refine Contract.of_call (VCall.of_body hmix f_scref01_both (by simp) ?_)
 simp only[go_sem,c_scref01_both]
 refine bits_v a ha _ _ _ fun s1 nx1 tl1 hs1 hn1=>?_
 simp only[go_sem]
 refine bits_v b hb _ _ _ fun s2 nx2 tl2 hs2 hn2=>?_
 simp only[go_sem]
 obtain ⟨_,hin,hbit⟩:=both_bits ha hb ho
 obtain ⟨x,hx⟩:∃ x,(applyW op a b).1.toNat=x:=⟨_,rfl⟩
 rw[hx]at hbit
 have hx2:(applyW op a b).1=(x:Int):=by have:=hin.1;omega
 rw[hx2]
 refine VW_loop (fun k:Nat=>⟨[(0,I op),(7,.ref 0 s1 0 32),(8,ints (bitsN b.toNat 32)),(9,I k)],[⟨s1,3,1,(zL x a.toNat k).map I⟩],nx2⟩) (fun k=>k≤32) (fun k=>32-k) 0
  (Wk.give ?_ ?_ (Nat.le_refl _)) (by omega) ?_
 ·intro p hp
  simp only[List.mem_cons,List.not_mem_nil,or_false]at hp
  rcases hp with rfl | rfl | rfl | rfl
  ·exact .inl rfl
  ·exact .inl rfl
  ·exact .inr (frz_ints (ty:=3) (by simp) (by simp) (bitsN_length _ _).symm)
  ·exact .inl rfl
 ·refine ⟨rfl,rfl,rfl,by simp,?_,by simp[OW]⟩
  simp only[zL,List.drop_zero]
  exact CW.refl _
 intro k hk
 have hzl:=zL_length (x:=x) (a:=a.toNat) hk
 have hbl:=bitsN_length b.toNat 32
 by_cases h1:k<32
 case neg =>
  have h1':=eq_false (show ¬ (k:Int)<32 by omega)
  have:k=32:=by omega
  subst this
  simp only[go_sem,h1']
  have ez:zL x a.toNat 32=bitsN x 32:=by simp[zL,bitsN_length]
  rw[ez]at hzl ⊢
  refine VCall.of_contractN (ofN_c (bitsN x 32) (by omega) fun b hb=>?_) ?_ fun r hr=>?_
  ·obtain ⟨i,_,rfl⟩:=List.mem_map.1 hb
   have:=Nat.mod_two_eq_zero_or_one (x / 2 ^ i)
   omega
  ·exact ⟨_,_,rfl,frz_ints (by omega) rfl hzl.symm,rfl⟩
  ·subst hr
   simp only[go_sem]
   refine ⟨_,Frz.pure rfl,?_⟩
   have:=hin.2
   rw[numN_bits,Nat.mod_eq_of_lt (by omega)]
 have h1':=eq_true (show (k:Int)<32 by omega)
 have g1:=zL_get (x:=x) (a:=a.toNat) h1
 have g2:=bitsN_get (x:=b.toNat) h1
 have hset:=zL_set (x:=x) (a:=a.toNat) h1
 have hb1:=hbit k
 have hxb:=Nat.mod_two_eq_zero_or_one (a.toNat / 2 ^ k)
 have hyb:=Nat.mod_two_eq_zero_or_one (b.toNat / 2 ^ k)
 generalize a.toNat / 2 ^ k % 2=u at *
 generalize b.toNat / 2 ^ k % 2=v at *
 have hw:IntKind.i64.wrap ((u:Int)+(v:Int))=((u+v:Nat):Int):=by rw[i64_in (by omega) (by omega)];omega
 by_cases hc:(u+v=2∧op≠11)∨(u+v=1∧op≠9)
 case pos =>
  rw[if_pos hc]at hb1
  rw[hb1]at hset
  have fin:∀ e,(∀ p ∈ [(0,I op),(7,AV.ref 0 s1 0 32),(8,ints (bitsN b.toNat 32)),(9,I ((k+1:Nat):Int))],get e p.1=p.2)→∃ q:Nat,q≤32∧32-q<32-k∧Wk ⟨e,[⟨s1,3,1,(((zL x a.toNat k).set k 0).set k 1).map I⟩],nx2⟩ ⟨[(0,I op),(7,.ref 0 s1 0 32),(8,ints (bitsN b.toNat 32)),(9,I q)],[⟨s1,3,1,(zL x a.toNat q).map I⟩],nx2⟩:=fun e he =>
   ⟨k+1,by omega,by omega,Wk.mk he ⟨[],by rw[List.set_set,show (1:Int)=((1:Nat):Int) from rfl,hset];simp⟩ (Nat.le_refl _)⟩
  rcases hc with ⟨hc1,hc2⟩ | ⟨hc1,hc2⟩
  ·have q1:=eq_true (show (((u+v:Nat):Int))=2 by omega)
   have q2:(op != 11)=true:=by simp[hc2]
   simp only[go_sem,undef,h1',Int.toNat_natCast,g1,g2,hw,q1,q2,set_map,hzl,List.length_set,hbl]
   repeat (refine And.intro (by omega) ?_)
   rw[i64_in (by omega) (by omega)]
   exact fin _ (by simp[get_cons])
  ·have q1:=eq_false (show ¬ (((u+v:Nat):Int))=2 by omega)
   have q3:=eq_true (show (((u+v:Nat):Int))=1 by omega)
   have q2:(op != 9)=true:=by simp[hc2]
   simp only[go_sem,undef,h1',Int.toNat_natCast,g1,g2,hw,q1,q2,q3,set_map,hzl,List.length_set,hbl]
   repeat (refine And.intro (by omega) ?_)
   rw[i64_in (by omega) (by omega)]
   exact fin _ (by simp[get_cons])
 case neg =>
  rw[if_neg hc]at hb1
  rw[hb1]at hset
  have fin:∀ e,(∀ p ∈ [(0,I op),(7,AV.ref 0 s1 0 32),(8,ints (bitsN b.toNat 32)),(9,I ((k+1:Nat):Int))],get e p.1=p.2)→∃ q:Nat,q≤32∧32-q<32-k∧Wk ⟨e,[⟨s1,3,1,((zL x a.toNat k).set k 0).map I⟩],nx2⟩ ⟨[(0,I op),(7,.ref 0 s1 0 32),(8,ints (bitsN b.toNat 32)),(9,I q)],[⟨s1,3,1,(zL x a.toNat q).map I⟩],nx2⟩:=fun e he =>
   ⟨k+1,by omega,by omega,Wk.mk he ⟨[],by rw[show (0:Int)=((0:Nat):Int) from rfl,hset];simp⟩ (Nat.le_refl _)⟩
  have hsum:u+v=0∨(u+v=1∧op=9)∨(u+v=2∧op=11):=by omega
  rcases hsum with hc1 | ⟨hc1,hc2⟩ | ⟨hc1,hc2⟩
  ·have q1:=eq_false (show ¬ (((u+v:Nat):Int))=2 by omega)
   have q3:=eq_false (show ¬ (((u+v:Nat):Int))=1 by omega)
   simp only[go_sem,undef,h1',Int.toNat_natCast,g1,g2,hw,q1,q3,set_map,hzl,List.length_set,hbl]
   repeat (refine And.intro (by omega) ?_)
   rw[i64_in (by omega) (by omega)]
   exact fin _ (by simp[get_cons])
  ·have q1:=eq_false (show ¬ (((u+v:Nat):Int))=2 by omega)
   have q3:=eq_true (show (((u+v:Nat):Int))=1 by omega)
   have q2:(op != 9)=false:=by simp[hc2]
   simp only[go_sem,undef,h1',Int.toNat_natCast,g1,g2,hw,q1,q2,q3,set_map,hzl,List.length_set,hbl]
   repeat (refine And.intro (by omega) ?_)
   rw[i64_in (by omega) (by omega)]
   exact fin _ (by simp[get_cons])
  ·have q1:=eq_true (show (((u+v:Nat):Int))=2 by omega)
   have q3:=eq_false (show ¬ (((u+v:Nat):Int))=1 by omega)
   have q2:(op != 11)=false:=by simp[hc2]
   simp only[go_sem,undef,h1',Int.toNat_natCast,g1,g2,hw,q1,q2,q3,set_map,hzl,List.length_set,hbl]
   repeat (refine And.intro (by omega) ?_)
   rw[i64_in (by omega) (by omega)]
   exact fin _ (by simp[get_cons])
set_option maxRecDepth 10000
open Go.V
theorem refapply_c (op a b:Int) (ha:In32 a) (hb:In32 b):Contract Try.prog 36 [I op,U32 a,U32 b] (fun r=>r=tup2 (applyW op a b)):=by
 refine Contract.of_call (VCall.of_body hmix f_scref01_Apply (by simp) ?_)
 have ha':=ha
 have hb':=hb
 obtain ⟨ha1,ha2⟩:=ha
 obtain ⟨hb1,hb2⟩:=hb
 have ea:IntKind.u64.wrap a=a:=by rw[IntKind.wrap_u64];omega
 have eb:IntKind.u64.wrap b=b:=by rw[IntKind.wrap_u64];omega
 have hop:op=4∨op=5∨op=6∨op=7∨op=8∨op=9∨op=10∨op=11∨op=12∨op=13∨op=14∨op=15∨(op≠4∧op≠5∧op≠6∧op≠7∧op≠8∧op≠9∧op≠10∧op≠11∧op≠12∧op≠13∧op≠14∧op≠15):=by omega
 rcases hop with rfl | rfl | rfl | rfl | rfl | rfl | rfl | rfl | rfl | rfl | rfl | rfl | ⟨h1,h2,h3,h4,h5,h6,h7,h8,h9,h10,h11,h12⟩
 ·simp only[go_sem,c_scref01_Apply,Int.reduceEq,Int.reduceBEq,ea,eb]
  have e:IntKind.u32.wrap ((IntKind.u64.wrap (a+b)).tmod 4294967296)=w32 (a+b):=by
   rw[IntKind.wrap_u64,Int.tmod_eq_emod_of_nonneg (by omega),IntKind.wrap_u32,w32,IntKind.wrap_u32];omega
  exact ⟨_,Frz.pure rfl,by rw[e];rfl⟩
 ·simp only[go_sem,c_scref01_Apply,Int.reduceEq,Int.reduceBEq,ea,eb]
  have e:IntKind.u32.wrap ((IntKind.u64.wrap (IntKind.u64.wrap (a+4294967296)-b)).tmod 4294967296)=w32 (a-b):=by
   rw[IntKind.wrap_u64,IntKind.wrap_u64,Int.tmod_eq_emod_of_nonneg (by omega),IntKind.wrap_u32,w32,IntKind.wrap_u32];omega
  exact ⟨_,Frz.pure rfl,by rw[e];rfl⟩
 ·simp only[go_sem,c_scref01_Apply,Int.reduceEq,Int.reduceBEq,ea,eb]
  have hp:=Int.mul_nonneg ha1 hb1
  have e:∀ p:Int,0≤p→IntKind.u32.wrap ((IntKind.u64.wrap p).tmod 4294967296)=w32 p:=fun p hp=>by
   rw[IntKind.wrap_u64,Int.tmod_eq_emod_of_nonneg (by omega),IntKind.wrap_u32,w32,IntKind.wrap_u32];omega
  exact ⟨_,Frz.pure rfl,by rw[e _ hp];rfl⟩
 ·simp only[go_sem,c_scref01_Apply,Int.reduceEq,Int.reduceBEq,ea,eb]
  refine ⟨fun h0=>⟨_,Frz.pure rfl,?_⟩,fun h0=>⟨h0,_,Frz.pure rfl,?_⟩⟩
  ·show _=tup2 (if b=0 then (0,14) else _);rw[if_pos h0]
  ·show _=tup2 (if b=0 then (0,14) else (IntKind.u32.wrap (a.tdiv b),0))
   rw[if_neg h0,Int.tdiv_eq_ediv_of_nonneg ha1]
   have h1:0≤a / b:=Int.ediv_nonneg ha1 hb1
   have h2:a / b≤a:=Int.ediv_le_self _ ha1
   rw[IntKind.wrap_u64,show (a / b) % 18446744073709551616=a / b by omega]
 ·simp only[go_sem,c_scref01_Apply,Int.reduceEq,Int.reduceBEq,ea,eb]
  refine ⟨fun h0=>⟨_,Frz.pure rfl,?_⟩,fun h0=>⟨h0,_,Frz.pure rfl,?_⟩⟩
  ·show _=tup2 (if b=0 then (0,14) else _);rw[if_pos h0]
  ·show _=tup2 (if b=0 then (0,14) else (a.tmod b,0))
   rw[if_neg h0,Int.tmod_eq_emod_of_nonneg ha1]
   have h1:0≤a % b:=Int.emod_nonneg _ h0
   have h2:a % b<b:=Int.emod_lt_of_pos _ (by omega)
   rw[w32_in ⟨h1,by omega⟩]
 iterate 3
  ·simp only[go_sem,c_scref01_Apply,Int.reduceEq,Int.reduceBEq,ea,eb]
   refine VCall.of_contract (rboth_c _ a b (by simp) ha' hb') (SleL.pure rfl) fun x hx=>?_
   subst hx
   simp only[go_sem]
   refine ⟨_,Frz.pure rfl,?_⟩
   have:=(both_bits (op:=_) ha' hb' (by first | exact .inl rfl | exact .inr (.inl rfl) | exact .inr (.inr rfl))).1
   rfl
 ·simp only[go_sem,c_scref01_Apply,Int.reduceEq,Int.reduceBEq,ea,eb]
  refine VCall.of_contract (refshift_c _ a b ha' hb') (SleL.pure rfl) fun x hx=>?_
  subst hx
  simp only[go_sem]
  have e:(if 31<b then 0 else shN 12 a b.toNat)=if 31<b then 0 else shlW a b:=by
   by_cases h:31<b
   ·rw[if_pos h,if_pos h]
   ·rw[if_neg h,if_neg h]
    unfold shlW shN
    rw[if_pos rfl,show min b.toNat IntKind.u32.bits=b.toNat from Nat.min_eq_left (by show b.toNat≤32;omega),w32,IntKind.wrap_u32]
    conv=>rhs;rw[show a=((a.toNat:Nat):Int) by omega]
    simp
  exact ⟨_,Frz.pure rfl,by rw[e];rfl⟩
 ·simp only[go_sem,c_scref01_Apply,Int.reduceEq,Int.reduceBEq,ea,eb]
  refine VCall.of_contract (refshift_c _ a b ha' hb') (SleL.pure rfl) fun x hx=>?_
  subst hx
  simp only[go_sem]
  have e:(if 31<b then 0 else shN 13 a b.toNat)=if 31<b then 0 else shrW a b:=by
   by_cases h:31<b
   ·rw[if_pos h,if_pos h]
   ·rw[if_neg h,if_neg h]
    unfold shN
    rw[if_neg (by decide)]
    have:=shrW_eq ha' b.toNat (by omega)
    rw[show ((b.toNat:Nat):Int)=b by omega]at this
    rw[this]
  exact ⟨_,Frz.pure rfl,by rw[e];rfl⟩
 iterate 2
  ·simp only[go_sem,c_scref01_Apply,Int.reduceEq,Int.reduceBEq,ea,eb]
   refine VCall.of_contract (flag_c _) (SleL.pure rfl) fun x hx=>?_
   subst hx
   simp only[go_sem]
   exact ⟨_,Frz.pure rfl,by simp[applyW,tup2]⟩
 ·simp only[go_sem,c_scref01_Apply,eq_false h1,eq_false h2,eq_false h3,eq_false h4,eq_false h5,eq_false h6,eq_false h7,eq_false h8,eq_false h9,eq_false h10,eq_false h11,eq_false h12]
  exact ⟨_,Frz.pure rfl,by simp[applyW,tup2,h1,h2,h3,h4,h5,h6,h7,h8,h9,h10,h11,h12]⟩
set_option maxRecDepth 10000
open Go.V
abbrev Y8M (n:Int):AV:=.val (.int .u8 n)
def hasB (s:ByteArray) (c:Int):Bool:=s.data.toList.any fun b=>((b.toNat:Nat):Int) == c
theorem hasB_step (s:ByteArray) (c:Int) {k:Nat} (h:k<s.size):(s.data.toList.drop k).any (fun b=>((b.toNat:Nat):Int) == c)=((byteAt s k == c) || (s.data.toList.drop (k+1)).any fun b=>((b.toNat:Nat):Int) == c):=by
 have hk:k<s.data.toList.length:=by simpa using h
 rw[List.drop_eq_getElem_cons hk,List.any_cons]
 congr 1
 simp only[byteAt,List.getD,List.getElem?_eq_getElem hk,Option.getD_some]
theorem has_c (s:ByteArray) (c:Int) (hs:s.size≤1000):Contract Try.prog 94 [strv s,Y8M c] (fun r=>r=B (hasB s c)):=by
 refine Contract.of_call (VCall.of_body hmix f_scref07_has (by simp) ?_)
 simp only[go_sem,c_scref07_has]
 refine VW_loop (fun k:Nat=>⟨[(0,strv s),(1,Y8M c),(5,I k)],[],0⟩) (fun k=>k≤s.size∧hasB s c=(s.data.toList.drop k).any fun b=>((b.toNat:Nat):Int) == c) (fun k=>s.size-k) 0
  (Wk.mk (by simp[get_cons]) ⟨[],rfl⟩ (Nat.le_refl _)) ⟨by omega,rfl⟩ ?_
 rintro k ⟨hk,he⟩
 simp only[go_sem]
 refine ⟨fun h=>⟨by omega,fun h2=>?_,fun h2=>?_⟩,fun h=>?_⟩
 ·refine ⟨_,Frz.pure rfl,?_⟩
  rw[he,hasB_step s c (by omega)]
  simp[h2]
 ·rw[i64_in (by omega) (by omega)]
  refine ⟨k+1,⟨by omega,?_⟩,by omega,Wk.mk (by simp[get_cons]) ⟨[],rfl⟩ (Nat.le_refl _)⟩
  rw[he,hasB_step s c (by omega)]
  simp[h2]
 ·refine ⟨_,Frz.pure rfl,?_⟩
  rw[he,List.drop_eq_nil_of_le (by simp;omega)];rfl
def PS (op:Int):ByteArray :=
 if op=1∨op=2∨op=19∨op=20∨op=21∨op=25 then ⟨#[97,99]⟩ else if op=3 then ⟨#[97,98]⟩ else if op=16∨op=17∨op=27 then ⟨#[97,98,99]⟩
 else if op=18 then ⟨#[99]⟩ else if op=22∨op=23∨op=24 then ⟨#[97]⟩ else if op=26 then ⟨#[]⟩ else if 4≤op∧op≤15 then ⟨#[97,98,114]⟩ else ⟨#[63]⟩
theorem PS_size (op:Int):(PS op).size≤3:=by
 unfold PS
 repeat' split
 all_goals decide
theorem parts_c (op:Int):Contract Try.prog 93 [I op] (fun r=>r=strv (PS op)):=by
 refine Contract.of_call (VCall.of_body hmix f_scref07_Parts (by simp) ?_)
 by_cases hv:1≤op∧op≤27
 ·have hop:op=1∨op=2∨op=3∨op=4∨op=5∨op=6∨op=7∨op=8∨op=9∨op=10∨op=11∨op=12∨op=13∨op=14∨op=15∨op=16∨op=17∨op=18∨op=19∨op=20∨op=21∨op=22∨op=23∨op=24∨op=25∨op=26∨op=27:=by omega
  rcases hop with rfl | rfl | rfl | rfl | rfl | rfl | rfl | rfl | rfl | rfl | rfl | rfl | rfl | rfl | rfl | rfl | rfl | rfl | rfl | rfl | rfl | rfl | rfl | rfl | rfl | rfl | rfl
  all_goals
   simp only[go_sem,c_scref07_Parts,Int.reduceEq,Int.reduceBEq]
   exact ⟨_,Frz.pure rfl,rfl⟩
 ·have n:∀ k:Int,1≤k→k≤27→(op=k)=False:=fun k h1 h2=>eq_false (by omega)
  have n1:=n 1 (by omega) (by omega)
  have n2:=n 2 (by omega) (by omega)
  have n3:=n 3 (by omega) (by omega)
  have n16:=n 16 (by omega) (by omega)
  have n17:=n 17 (by omega) (by omega)
  have n18:=n 18 (by omega) (by omega)
  have n19:=n 19 (by omega) (by omega)
  have n20:=n 20 (by omega) (by omega)
  have n21:=n 21 (by omega) (by omega)
  have n22:=n 22 (by omega) (by omega)
  have n23:=n 23 (by omega) (by omega)
  have n24:=n 24 (by omega) (by omega)
  have n25:=n 25 (by omega) (by omega)
  have n26:=n 26 (by omega) (by omega)
  have n27:=n 27 (by omega) (by omega)
  have e:PS op=⟨#[63]⟩:=by
   unfold PS
   rw[if_neg (by omega),if_neg (by omega),if_neg (by omega),if_neg (by omega),if_neg (by omega),if_neg (by omega),if_neg (by omega)]
  rw[e]
  by_cases h4:4≤op
  ·simp only[go_sem,c_scref07_Parts,n1,n2,n3,n16,n17,n18,n19,n20,n21,n22,n23,n24,n25,n26,n27,eq_true h4,eq_false (show ¬ op≤15 by omega)]
   exact ⟨_,Frz.pure rfl,rfl⟩
  ·simp only[go_sem,c_scref07_Parts,n1,n2,n3,n16,n17,n18,n19,n20,n21,n22,n23,n24,n25,n26,n27,eq_false h4]
   exact ⟨_,Frz.pure rfl,rfl⟩
theorem refwithin_c (v most:Int) (named:Bool):Contract Try.prog 95 [B named,I v,I most] (fun r=>r=B (winB v most named)):=by
 refine Contract.of_call (VCall.of_body hmix f_scref07_within (by simp) ?_)
 cases named with
 | false =>
  simp only[go_sem,c_scref07_within]
  exact ⟨_,Frz.pure rfl,by simp[winB];rfl⟩
 | true =>
  by_cases h:0≤v
  ·simp only[go_sem,c_scref07_within,eq_true h]
   exact ⟨_,Frz.pure rfl,by simp[winB,h]⟩
  ·simp only[go_sem,c_scref07_within,eq_false h]
   exact ⟨_,Frz.pure rfl,by simp[winB,h]⟩
def rightR (op a b c:Int):Bool:=!((PS op).toList == ByteArray.toList ⟨#[63]⟩) && winB a 15 (hasB (PS op) 97) && winB b 15 (hasB (PS op) 98) && winB c (if hasB (PS op) 114 then 15 else 65535) (hasB (PS op) 99 || hasB (PS op) 114)
theorem rightR_eq (op a b c:Int):rightR op a b c=okI op a b c:=by
 by_cases hv:1≤op∧op≤27
 ·have hop:op=1∨op=2∨op=3∨op=4∨op=5∨op=6∨op=7∨op=8∨op=9∨op=10∨op=11∨op=12∨op=13∨op=14∨op=15∨op=16∨op=17∨op=18∨op=19∨op=20∨op=21∨op=22∨op=23∨op=24∨op=25∨op=26∨op=27:=by omega
  unfold rightR
  rw[ba_toList,ba_toList]
  rcases hop with rfl | rfl | rfl | rfl | rfl | rfl | rfl | rfl | rfl | rfl | rfl | rfl | rfl | rfl | rfl | rfl | rfl | rfl | rfl | rfl | rfl | rfl | rfl | rfl | rfl | rfl | rfl
  all_goals rfl
 ·have e:PS op=⟨#[63]⟩:=by
   unfold PS
   rw[if_neg (by omega),if_neg (by omega),if_neg (by omega),if_neg (by omega),if_neg (by omega),if_neg (by omega),if_neg (by omega)]
  have h1:vOp op=false:=by simp[vOp];omega
  unfold rightR okI
  rw[e,h1];simp
set_option maxRecDepth 10000
open Go.V
theorem refright_c (op a b c:Int):Contract Try.prog 92 [insA op a b c] (fun r=>r=B (okI op a b c)):=by
 refine Contract.of_call (VCall.of_body hmix f_scref07_Right (by simp) ?_)
 have hps:(PS op).size≤1000:=by have:=PS_size op;omega
 rw[← rightR_eq]
 unfold rightR
 simp only[go_sem,c_scref07_Right]
 refine VCall.of_contract (parts_c op) (SleL.pure rfl) fun x hx=>?_
 subst hx
 generalize PS op=p at *
 simp only[go_sem]
 refine VCall.of_contract (has_c p 114 hps) (SleL.pure rfl) fun x hx=>?_
 subst hx
 cases h1:hasB p 114
 all_goals
  cases h2:(p.toList == ByteArray.toList ⟨#[63]⟩)
  rotate_left
  ·simp only[go_sem,h2]
   exact ⟨_,Frz.pure rfl,by simp⟩
  simp only[go_sem,h2]
  refine ECall.of (has_c p 97 hps) (SleL.pure rfl) ⟨_,fun _=>Iff.rfl⟩ fun x hx=>?_
  subst hx
  simp only[go_sem]
  refine ECall.of (refwithin_c a 15 _) (SleL.pure rfl) ⟨_,fun _=>Iff.rfl⟩ fun x hx=>?_
  subst hx
  cases h3:winB a 15 (hasB p 97)
  ·simp only[go_sem]
   exact ⟨_,Frz.pure rfl,by simp⟩
  simp only[go_sem]
  refine ECall.of (has_c p 98 hps) (SleL.pure rfl) ⟨_,fun _=>Iff.rfl⟩ fun x hx=>?_
  subst hx
  simp only[go_sem]
  refine ECall.of (refwithin_c b 15 _) (SleL.pure rfl) ⟨_,fun _=>Iff.rfl⟩ fun x hx=>?_
  subst hx
  cases h4:winB b 15 (hasB p 98)
  ·simp only[go_sem]
   exact ⟨_,Frz.pure rfl,by simp⟩
  simp only[go_sem]
  refine ECall.of (has_c p 99 hps) (SleL.pure rfl) ⟨_,fun _=>Iff.rfl⟩ fun x hx=>?_
  subst hx
  cases h5:hasB p 99
  all_goals
   simp only[go_sem]
   try
    refine ECall.of (has_c p 114 hps) (SleL.pure rfl) ⟨_,fun _=>Iff.rfl⟩ fun x hx=>?_
    subst hx
    simp only[go_sem,h1]
   refine ECall.of (refwithin_c c _ _) (SleL.pure rfl) ⟨_,fun _=>Iff.rfl⟩ fun x hx=>?_
   subst hx
   simp only[go_sem]
   exact ⟨_,Frz.pure rfl,by simp⟩
set_option maxRecDepth 10000
open Go.V
def opW (w:Int):Int:=w / 16777216
def raW (w:Int):Int:=w / 1048576 % 16
def rbW (w:Int):Int:=w / 65536 % 16
def kW (w:Int):Int:=w % 65536
def okW (w:Int):Bool:=okI (opW w) (raW w) (rbW w) (kW w)
def decA (w:Int):AV:=if okW w then .tup [insA (opW w) (raW w) (rbW w) (kW w),I 0] else .tup [insA 0 0 0 0,I 7]
theorem Frz.ins {n:Nat} {H:List VObj} {nx:Nat} {op a b c e:Int}:Frz n H nx (.tup [.agg [I op,I a,I b,I c],I e]) (.tup [insA op a b c,I e]):=Frz.pure rfl
theorem refdecode_c (w:Int) (hw:In32 w):Contract Try.prog 87 [U32 w] (fun r=>r=decA w):=by
 refine Contract.of_call (VCall.of_body hmix f_scref07_Decode (by simp) ?_)
 obtain ⟨h0,h1⟩:=hw
 have q:∀ k:Int,1≤k→IntKind.u32.wrap (w.tdiv k)=w / k:=fun k hk=>by
  rw[Int.tdiv_eq_ediv_of_nonneg h0]
  refine w32_in ⟨Int.ediv_nonneg h0 (by omega),?_⟩
  have:=Int.ediv_le_self k h0
  omega
 have q24:=q 16777216 (by omega)
 have q20:=q 1048576 (by omega)
 have q16:=q 65536 (by omega)
 have r20:(w / 1048576).tmod 16=w / 1048576 % 16:=Int.tmod_eq_emod_of_nonneg (by omega)
 have r16:(w / 65536).tmod 16=w / 65536 % 16:=Int.tmod_eq_emod_of_nonneg (by omega)
 have r0:w.tmod 65536=w % 65536:=Int.tmod_eq_emod_of_nonneg h0
 have e1:IntKind.i64.wrap (w / 16777216)=opW w:=i64_in (by omega) (by omega)
 have e2:IntKind.i64.wrap (w / 1048576 % 16)=raW w:=i64_in (by omega) (by omega)
 have e3:IntKind.i64.wrap (w / 65536 % 16)=rbW w:=i64_in (by omega) (by omega)
 have e4:IntKind.i64.wrap (w % 65536)=kW w:=i64_in (by omega) (by omega)
 simp only[go_sem,c_scref07_Decode,q24,q20,q16,r20,r16,r0,e1,e2,e3,e4,Int.reduceEq]
 refine VCall.of_contract (refright_c _ _ _ _) (SleL.pure rfl) fun x hx=>?_
 subst hx
 unfold decA okW
 cases h:okI (opW w) (raW w) (rbW w) (kW w)
 ·simp only[go_sem]
  exact ⟨_,Frz.ins,rfl⟩
 ·simp only[go_sem]
  exact ⟨_,Frz.ins,rfl⟩
theorem winB_in {v most:Int} {named:Bool} (h:winB v most named=true) (hm:0≤most):0≤v∧v≤most:=by
 unfold winB at h
 split at h
 ·simp at h;exact h
 ·simp at h;omega
theorem okI_in {op a b c:Int} (h:okI op a b c=true):1≤op∧op≤27∧0≤a∧a≤15∧0≤b∧b≤15∧0≤c∧c≤65535∧(cK op=2→c≤15):=by
 unfold okI at h
 simp only[Bool.and_eq_true]at h
 obtain ⟨⟨⟨h1,h2⟩,h3⟩,h4⟩:=h
 have h2:=winB_in h2 (by omega)
 have h3:=winB_in h3 (by omega)
 have h5:=winB_in h4 (by split<;>omega)
 simp[vOp]at h1
 split at h5<;>omega
set_option maxRecDepth 10000
open Go.V
def encI (op a b c:Int):Int:=op*16777216+a*1048576+b*65536+c
theorem or_hi {x y:Int} (i:Nat) (hi:i≤24) (hx:0≤x) (hx2:x*((2 ^ i:Nat):Int)<4294967296) (hy:0≤y) (hy2:y<((2 ^ i:Nat):Int)) (hy3:y<4294967296) :
 IntKind.u32.wrap (((BitVec.ofInt 32 (x*((2 ^ i:Nat):Int)) ||| BitVec.ofInt 32 y).toNat:Nat):Int)=x*((2 ^ i:Nat):Int)+y:=by
 obtain ⟨a,rfl⟩:=Int.eq_ofNat_of_zero_le hx
 obtain ⟨b,rfl⟩:=Int.eq_ofNat_of_zero_le hy
 have e:(a:Int)*((2 ^ i:Nat):Int)=((a*2 ^ i:Nat):Int):=by simp
 rw[e]at hx2 ⊢
 have h3:=orW_eq (a:=((a*2 ^ i:Nat):Int)) (b:=(b:Int)) ⟨by omega,by omega⟩ ⟨by omega,by omega⟩
 unfold orW at h3
 rw[w32]at h3
 have h4:IntKind.u32.wrap (((BitVec.ofInt 32 ((a*2 ^ i:Nat):Int) ||| BitVec.ofInt 32 (b:Int)).toNat:Nat):Int)=_:=h3
 rw[h4,Int.toNat_natCast,Int.toNat_natCast,Nat.mul_comm a,← Nat.two_pow_add_eq_or_of_lt (by omega) a]
 omega
theorem encI_c (op a b c:Int) (h:okI op a b c=true):Contract Try.prog 27 [insA op a b c] (fun r=>r = .tup [U32 (encI op a b c),I 0]):=by
 refine Contract.of_call (VCall.of_body hmix f_inst_Encode (by simp) ?_)
 have hb:=okI_in h
 have c1:IntKind.u32.wrap op=op:=w32_in ⟨by omega,by omega⟩
 have c2:IntKind.u32.wrap a=a:=w32_in ⟨by omega,by omega⟩
 have c3:IntKind.u32.wrap b=b:=w32_in ⟨by omega,by omega⟩
 have c4:IntKind.u32.wrap c=c:=w32_in ⟨by omega,by omega⟩
 have s1:IntKind.u32.wrap (op*2 ^ min 24 32)=op*16777216:=w32_in (n:=op*16777216) ⟨by omega,by omega⟩
 have s2:IntKind.u32.wrap (a*2 ^ min 20 32)=a*1048576:=w32_in (n:=a*1048576) ⟨by omega,by omega⟩
 have s3:IntKind.u32.wrap (b*2 ^ min 16 32)=b*65536:=w32_in (n:=b*65536) ⟨by omega,by omega⟩
 have o1:IntKind.u32.wrap (((BitVec.ofInt 32 (op*16777216) ||| BitVec.ofInt 32 (a*1048576)).toNat:Nat):Int)=op*16777216+a*1048576:=or_hi (x:=op) 24 (by omega) (by omega) (by omega) (by omega) (by omega) (by omega)
 have o2:IntKind.u32.wrap (((BitVec.ofInt 32 (op*16777216+a*1048576) ||| BitVec.ofInt 32 (b*65536)).toNat:Nat):Int)=op*16777216+a*1048576+b*65536:=by
  have:=or_hi (x:=op*16+a) (y:=b*65536) 20 (by omega) (by omega) (by omega) (by omega) (by omega) (by omega)
  rw[show (op*16+a)*((2 ^ 20:Nat):Int)=op*16777216+a*1048576 by omega]at this
  exact this
 have o3:IntKind.u32.wrap (((BitVec.ofInt 32 (op*16777216+a*1048576+b*65536) ||| BitVec.ofInt 32 c).toNat:Nat):Int)=op*16777216+a*1048576+b*65536+c:=by
  have:=or_hi (x:=op*256+a*16+b) (y:=c) 16 (by omega) (by omega) (by omega) (by omega) (by omega) (by omega)
  rw[show (op*256+a*16+b)*((2 ^ 16:Nat):Int)=op*16777216+a*1048576+b*65536 by omega]at this
  exact this
 simp only[go_sem,c_inst_Encode]
 refine VCall.of_contract (right_c _ _ _ _) (SleL.pure rfl) fun x hx=>?_
 subst hx
 simp only[go_sem,h,c1,c2,c3,c4,s1,s2,s3]
 refine ⟨_,Frz.pure rfl,?_⟩
 unfold encI
 rw[← o3,← o2,← o1]
 rfl
set_option maxRecDepth 10000
open Go.V
abbrev ciL (i:Ci):List AV:=[I i.op,I i.a,I i.b,I i.c]
abbrev spL (s:Sp):List AV:=[I s.1,I s.2.1,I s.2.2]
def KeepT (tys:List Nat) (H H':List VObj):Prop:=∀ (k:Nat) (ob:VObj),H[k]? = some ob→ob.ty ∉ tys→H'[k]? = some ob
theorem KeepT.refl (tys:List Nat) (H:List VObj):KeepT tys H H:=fun _ _ h _=>h
theorem KeepT.trans {ts:List Nat} {A B C:List VObj} (h:KeepT ts A B) (k:KeepT ts B C):KeepT ts A C:=fun i ob h1 h2=>k i ob (h i ob h1 h2) h2
theorem KeepT.mono {ts us:List Nat} {A B:List VObj} (h:KeepT ts A B) (hs:∀ t ∈ ts,t ∈ us):KeepT us A B:=fun i ob h1 h2=>h i ob h1 fun e=>h2 (hs _ e)
theorem KeepT.app (ts:List Nat) (H R:List VObj):KeepT ts H (H++R):=fun k ob h _=>by rw[List.getElem?_append_left (List.getElem?_eq_some_iff.1 h).1];exact h
theorem KeepT.set {ts:List Nat} {H:List VObj} {k:Nat} {ob ob':VObj} (h:H[k]? = some ob) (ht:ob.ty ∈ ts):KeepT ts H (H.set k ob'):=fun i o h1 h2=>by
 have hne:k≠i:=fun e=>by subst e;rw[h]at h1;cases h1;exact h2 ht
 rw[List.getElem?_set,if_neg hne];exact h1
theorem ty_ne {H:List VObj} {i j:Nat} {a b:VObj} (h:H[i]? = some a) (k:H[j]? = some b) (ht:a.ty≠b.ty):(i=j)=False:=eq_false fun e=>by subst e;rw[h]at k;cases k;exact ht rfl
theorem lt_of {H:List VObj} {i:Nat} {a:VObj} (h:H[i]? = some a):(i<H.length)=True:=eq_true (List.getElem?_eq_some_iff.1 h).1
theorem ne_len {H:List VObj} {i:Nat} {a:VObj} (h:H[i]? = some a):(H.length=i)=False:=eq_false fun e=>by have:=(List.getElem?_eq_some_iff.1 h).1;omega
theorem ne_len' {H:List VObj} {i:Nat} {a:VObj} (h:H[i]? = some a):(H.length+1=i)=False:=eq_false fun e=>by have:=(List.getElem?_eq_some_iff.1 h).1;omega
theorem set_get {H:List VObj} {k:Nat} {a x:VObj} (h:H[k]? = some a):(H.set k x)[k]? = some x:=by
 rw[List.getElem?_set_self (List.getElem?_eq_some_iff.1 h).1]
theorem set_ne {H:List VObj} {k j:Nat} {x:VObj} (h:k≠j):(H.set k x)[j]? = H[j]?:=by rw[List.getElem?_set_ne h]
section
variable {H R:List VObj} {i:Nat} {x:VObj}
end
def CV (H:List VObj) (ty sz:Nat) (cv:AV) (cs:List AV) (n:Nat):Prop:=∃ k s,cv = .ref k s 0 n∧H[k]? = some ⟨s,ty,sz,cs⟩
theorem CV.keep {H H':List VObj} {ty sz:Nat} {cv:AV} {cs:List AV} {n:Nat} {ts:List Nat} (h:CV H ty sz cv cs n) (k:KeepT ts H H') (ht:ty ∉ ts):CV H' ty sz cv cs n:=by
 obtain ⟨i,s,h1,h2⟩:=h
 exact ⟨i,s,h1,k _ _ h2 ht⟩
theorem CV.one {H:List VObj} {ty sz:Nat} {cv:AV} {cs:List AV} {n:Nat} (h:CV H ty sz cv cs n):cv.one=true:=by
 obtain ⟨_,_,h,_⟩:=h;rw[h];rfl
theorem sz_flat {α:Type} (f:α→List AV) (n:Nat) (hf:∀ a,(f a).length=n):∀ l:List α,(l.map f).flatten.length=l.length*n
 | []=>by simp
 | a::l=>by simp only[List.map_cons,List.flatten_cons,List.length_append,hf,sz_flat f n hf l,List.length_cons];rw[Nat.add_mul];omega
theorem ap_old {H:List VObj} {k:Nat} {a:VObj} (h:H[k]? = some a) (R:List VObj):(H++R)[k]? = some a:=by rw[List.getElem?_append_left (List.getElem?_eq_some_iff.1 h).1];exact h
theorem ap_new (H:List VObj) (x y:VObj):(H++[x]++[y])[H.length+1]? = some y:=by rw[List.getElem?_append_right (by simp)];simp
theorem grow_old {H:List VObj} {kW k:Nat} {w w' x y z:VObj} (hw:H[kW]? = some w) (hk:H[k]? = some z) (hn:k≠kW) {ts:List Nat} (ht:w.ty ∈ ts) (hz:z.ty ∈ ts) :
 (((H++[x]).set k y).set kW w')[kW]? = some w'∧(((H++[x]).set k y).set kW w')[k]? = some y∧KeepT ts H (((H++[x]).set k y).set kW w'):=by
 have h1:(H++[x])[k]? = some z:=ap_old hk _
 have h2:((H++[x]).set k y)[kW]? = some w:=by rw[set_ne hn];exact ap_old hw _
 refine ⟨set_get h2,?_,((KeepT.app _ _ _).trans (KeepT.set h1 hz)).trans (KeepT.set h2 ht)⟩
 rw[set_ne (fun e=>hn e.symm)];exact set_get h1
theorem CV.at {H:List VObj} {ty sz k s n:Nat} {cs:List AV} (h:H[k]? = some ⟨s,ty,sz,cs⟩):CV H ty sz (.ref k s 0 n) cs n:=⟨k,s,rfl,h⟩
theorem flat_at {α:Type} [Inhabited α] (f:α→List AV) (n:Nat) (hf:∀ a,(f a).length=n):∀ (l:List α) (k:Nat),k<l.length→(((l.map f).flatten).drop (k*n)).take n=f (l.getD k default)
 | [],k,h=>absurd h (Nat.not_lt_zero _)
 | a::l,0,_=>by simp[hf,List.take_append_of_le_length (Nat.le_of_eq (hf a).symm),List.take_of_length_le (Nat.le_of_eq (hf a))]
 | a::l,k+1,h=>by
  have:=flat_at f n hf l k (by simpa using h)
  simp only[List.map_cons,List.flatten_cons,List.getD_cons_succ]
  rw[← this,List.drop_append,show (k+1)*n-(f a).length=k*n by rw[hf,Nat.add_mul];omega,List.drop_eq_nil_of_le (by rw[hf,Nat.add_mul];omega),List.nil_append]
theorem cellT_flat {α:Type} [Inhabited α] {f:α→List AV} {n:Nat} (hf:∀ a,(f a).length=n) {l:List α} {k:Nat} {C:AV→Prop} (hk:k<l.length):cellT (l.map f).flatten (k*n) true n C .mk=C (.agg (f (l.getD k default))):=by
 show (partOK _ _ _ _∧C (partA _ _ _ _))=_
 have hl:(l.map f).flatten.length=l.length*n:=sz_flat f n hf l
 have:partOK (l.map f).flatten (k*n) true n:=⟨by rw[hl];have:=Nat.mul_le_mul_right n (show k+1≤l.length by omega);rw[Nat.add_mul]at this;omega,.inl rfl⟩
 rw[show partA (l.map f).flatten (k*n) true n = .agg (f (l.getD k default)) by unfold partA;rw[if_pos rfl,flat_at f n hf l k hk]]
 simp[this]
theorem ci_set:∀ (l:List Ci) (k:Nat) (x:Int),k<l.length→((l.map ciL).flatten).set (k*4+3) (I x)=((l.set k { l.getD k default with c:=x }).map ciL).flatten
 | [],k,x,h=>absurd h (Nat.not_lt_zero _)
 | i::l,0,x,_=>by simp
 | i::l,k+1,x,h=>by
  have:=ci_set l k x (by simpa using h)
  simp only[List.map_cons,List.flatten_cons,List.getD_cons_succ,List.set_cons_succ]
  rw[← this,List.set_append_right _ _ (by simp only[List.length_cons,List.length_nil];omega)]
  simp only[List.length_cons,List.length_nil]
  rw[show (k+1)*4+3-(0+1+1+1+1)=k*4+3 by omega]
def tgt (en:List Int) (rows:List (List Int)) (p:Int × Int):Int:=if 0≤p.2 then (rows.getD p.1.toNat []).getD p.2.toNat default else en.getD p.1.toNat default
def patch (en:List Int) (rows:List (List Int)):List Ci→List Sp→List Ci
 | code,[]=>code
 | code,s::t=>patch en rows (code.set s.1.toNat { code.getD s.1.toNat default with c:=tgt en rows s.2 }) t
def fixY (en:List Int) (rows:List (List Int)) (l:List Sy):List Ci:=l.map fun y=>match y.2 with
 | none=>y.1
 | some p=>{ y.1 with c:=tgt en rows p }
theorem patch_spot (en:List Int) (rows:List (List Int)):∀ (l:List Sy) (pre:List Ci),patch en rows (pre++l.map (·.1)) (spotL pre.length l)=pre++fixY en rows l
 | [],pre=>by simp[spotL,patch,fixY]
 | (i,none)::l,pre=>by
  have:=patch_spot en rows l (pre++[i])
  simp only[List.length_append,List.length_cons,List.length_nil,List.append_assoc,List.cons_append,List.nil_append,Nat.zero_add]at this
  simpa [spotL,fixY] using this
 | (i,some p)::l,pre=>by
  have:=patch_spot en rows l (pre++[{ i with c:=tgt en rows p }])
  simp only[List.length_append,List.length_cons,List.length_nil,List.append_assoc,List.cons_append,List.nil_append,Nat.zero_add]at this
  simp only[List.map_cons,spotL,patch,fixY]at this ⊢
  rw[Int.toNat_natCast,show (pre++i::l.map (·.1)).getD pre.length default=i by simp[List.getD],show (pre++i::l.map (·.1)).set pre.length { i with c:=tgt en rows (p.1,p.2) }=pre++{ i with c:=tgt en rows p }::l.map (·.1) by simp]
  exact this
theorem spotL_mem:∀ (l:List Sy) (n:Nat) (s:Sp),s ∈ spotL n l→(n:Int)≤s.1∧s.1<((n+l.length:Nat):Int)∧∃ i,(i,some s.2) ∈ l
 | [],n,s,h=>by simp[spotL]at h
 | (i,none)::l,n,s,h=>by
  obtain ⟨h1,h2,j,h3⟩:=spotL_mem l (n+1) s h
  exact ⟨by omega,by simp only[List.length_cons];omega,j,List.mem_cons_of_mem _ h3⟩
 | (i,some p)::l,n,s,h=>by
  simp only[spotL,List.mem_cons]at h
  rcases h with rfl | h
  ·exact ⟨by simp,by simp only[List.length_cons];omega,i,List.mem_cons_self⟩
  ·obtain ⟨h1,h2,j,h3⟩:=spotL_mem l (n+1) s h
   exact ⟨by omega,by simp only[List.length_cons];omega,j,List.mem_cons_of_mem _ h3⟩
def JOk (en:List Int) (rows:List (List Int)) (l:List Sy):Prop:=∀ i p,(i,some p) ∈ l→0≤p.1∧p.1<en.length∧p.1<rows.length∧p.2<(rows.getD p.1.toNat []).length
def wlJ (fx:List Ci) (i:Nat):List Int:=(List.range fx.length).map fun j=>if j<i then encI (fx.getD j default).op (fx.getD j default).a (fx.getD j default).b (fx.getD j default).c else 0
theorem wlJ_zero (fx:List Ci):wlJ fx 0=List.replicate fx.length 0:=List.ext_getElem (by simp[wlJ]) fun i h1 h2=>by simp[wlJ]
theorem wlJ_len (fx:List Ci) (i:Nat):(wlJ fx i).length=fx.length:=by simp[wlJ]
theorem wlJ_set (fx:List Ci) {i:Nat} (hi:i<fx.length):(wlJ fx i).set i (encI (fx.getD i default).op (fx.getD i default).a (fx.getD i default).b (fx.getD i default).c)=wlJ fx (i+1):=by
 refine List.ext_getElem (by simp[wlJ]) fun j h1 h2=>?_
 rw[List.getElem_set]
 simp only[wlJ,List.getElem_map,List.getElem_range]
 by_cases e:i=j
 ·subst e;rw[if_pos rfl,if_pos (by omega)]
 ·rw[if_neg e]
  by_cases h:j<i
  ·rw[if_pos h,if_pos (by omega)]
  ·rw[if_neg h,if_neg (by omega)]
theorem wlJ_all (fx:List Ci) {i:Nat} (hi:fx.length≤i):wlJ fx i=fx.map fun t=>encI t.op t.a t.b t.c:=by
 refine List.ext_getElem (by simp[wlJ]) fun j h1 h2=>?_
 have hj:j<fx.length:=by simpa [wlJ] using h1
 simp only[wlJ,List.getElem_map,List.getElem_range]
 rw[if_pos (by omega)]
 simp[List.getD,List.getElem?_eq_getElem hj]
abbrev encW (i:Ci):Int:=encI i.op i.a i.b i.c
theorem virt_at {env:List (Nat × AV)} {H:List VObj} {nx i:Nat} {ob:VObj} {cs':List AV} (ty sz:Nat) (hsz:sz≠0) (he:∀ p ∈ env,get env p.1=p.2) (ho:H[i]? = some ob) (hz:ob.sz≠0) (hl:ob.cs.length=cs'.length)
 (hc:∀ (j:Nat) x y,ob.cs[j]? = some x→cs'[j]? = some y→x=y∨(x = .val (.slice none 0 0)∧y = .ref H.length nx 0 0)):Wk ⟨env,H,nx⟩ ⟨env,H.set i ⟨ob.s,ob.ty,ob.sz,cs'⟩++[⟨nx,ty,sz,[]⟩],nx+1⟩:=by
 refine Wk.virt ty sz hsz (fun p hp=>.inl (he p hp)) ⟨H.set i ⟨ob.s,ob.ty,ob.sz,cs'⟩,rfl,by simp,fun j ob' h=>?_⟩ rfl
 rw[List.getElem?_set]at h
 by_cases e:i=j
 ·subst e
  rw[if_pos rfl,if_pos (List.getElem?_eq_some_iff.1 ho).1]at h
  cases h
  exact ⟨ob,ho,rfl,rfl,rfl,hl,fun h=>absurd h hz,hc⟩
 ·rw[if_neg e]at h
  exact ⟨ob',h,rfl,rfl,rfl,rfl,fun _=>rfl,fun _ x y hx hy=>.inl (by rw[hx]at hy;exact Option.some.inj hy)⟩
theorem frzN_words {H:List VObj} {nx id s ty:Nat} {l:List Int} {len:Nat} (ho:H[id]? = some ⟨s,ty,1,l.map U32⟩) (hlen:len=l.length):FrzN H nx (.ref id s 0 len) (.imm 1 (l.map U32)) :=
 frzN_map (f:=fun n=>.int .u32 n) ho hlen fun _=>rfl
theorem cellT_at {cs:List AV} {i:Nat} {v:AV} (hi:i<cs.length) (hv:v.one=true) (e:cs.getD i .dead=v) {C:AV→Prop}:cellT cs i false 1 C .mk=C v:=by
 show (partOK cs i false 1∧C (partA cs i false 1))=C v
 unfold partOK partA
 rw[e]
 simp[hv]
 intro _;omega
structure LQ where
 j:Nat
 H:List VObj
 nx:Nat
def KeepR (ts:List Nat) (kr:Nat) (H H':List VObj):Prop:=∀ (i:Nat) (ob:VObj),H[i]? = some ob→ob.ty ∉ ts→i≠kr→H'[i]? = some ob
theorem KeepR.refl (ts:List Nat) (kr:Nat) (H:List VObj):KeepR ts kr H H:=fun _ _ h _ _=>h
theorem KeepR.trans {ts:List Nat} {kr:Nat} {A B C:List VObj} (h:KeepR ts kr A B) (k:KeepR ts kr B C):KeepR ts kr A C:=fun i ob h1 h2 h3=>k i ob (h i ob h1 h2 h3) h2 h3
theorem KeepR.of {ts:List Nat} {kr:Nat} {H H':List VObj} (h:KeepT ts H H'):KeepR ts kr H H':=fun i ob h1 h2 _=>h i ob h1 h2
theorem KeepR.set (ts:List Nat) (kr:Nat) (H:List VObj) (o:VObj):KeepR ts kr H (H.set kr o):=fun i ob h1 _ h3=>by rw[set_ne (fun e=>h3 e.symm)];exact h1
set_option maxRecDepth 10000
open Go.V
structure PL where
 dls:List (List Int)
 backs:List Int
 bases:List Int
 data:Int
abbrev dlsA (l:List (List Int)):AV:=.imm 1 (l.map ints)
abbrev planA (P:PL):AV:=.agg [dlsA P.dls,ints P.backs,ints P.bases,I P.data]
structure GI where
 kG:Nat
 sG:Nat
 kE:Nat
 sE:Nat
 kB:Nat
 sB:Nat
abbrev genL (s:SP) (P:PL) (q:GI) (cv hv:AV) (f d:Int):List AV :=
 [I s.words,fnsA s.funcs,dlsA P.dls,ints P.backs,ints P.bases,I P.data,cv,.ref q.kE q.sE 0 s.funcs.length,.ref q.kB q.sB 0 s.funcs.length,hv,I f,I d]
structure GH (s:SP) (P:PL) (f d:Int) (q:GI) (H:List VObj) (code:List Ci) (sp:List Sp) (en:List Int) (bl:List AV):Prop where
 w:∃ cv hv,H[q.kG]? = some ⟨q.sG,83,1,genL s P q cv hv f d⟩∧CV H 86 4 cv (code.map ciL).flatten code.length∧CV H 110 3 hv (sp.map spL).flatten sp.length
 e:H[q.kE]? = some ⟨q.sE,3,1,en.map I⟩
 b:H[q.kB]? = some ⟨q.sB,75,1,bl⟩
abbrev gT:List Nat:=[83,86,110]
theorem GH.grown {s:SP} {P:PL} {f d f' d':Int} {q:GI} {H H':List VObj} {code code':List Ci} {sp sp':List Sp} {en:List Int} {bl:List AV} (h:GH s P f d q H code sp en bl) {cv pv:AV} {ts:List Nat}
 (hw:H'[q.kG]? = some ⟨q.sG,83,1,genL s P q cv pv f' d'⟩) (hc:CV H' 86 4 cv (code'.map ciL).flatten code'.length) (hp:CV H' 110 3 pv (sp'.map spL).flatten sp'.length)
 (k:KeepT ts H H') (h1:3 ∉ ts) (h2:75 ∉ ts):GH s P f' d' q H' code' sp' en bl :=
 ⟨⟨_,_,hw,hc,hp⟩,k _ _ h.e h1,k _ _ h.b h2⟩
theorem GH.keep {s:SP} {P:PL} {f d:Int} {q:GI} {H H':List VObj} {code:List Ci} {sp:List Sp} {en:List Int} {bl:List AV} (h:GH s P f d q H code sp en bl) (k:KeepT [] H H'):GH s P f d q H' code sp en bl:=by
 obtain ⟨cv,pv,hw,hc,hp⟩:=h.w
 exact ⟨⟨cv,pv,k _ _ hw (by simp),hc.keep k (by simp),hp.keep k (by simp)⟩,k _ _ h.e (by simp),k _ _ h.b (by simp)⟩
theorem put_v {s:SP} {P:PL} {f d:Int} {q:GI} {H:List VObj} {code:List Ci} {sp:List Sp} {en:List Int} {bl:List AV} (h:GH s P f d q H code sp en bl) (nx:Nat) (op a bb c:Int) (hl:code.length≤1000000)
 (C:AV→List VObj→Nat→Prop) (hC:∀ r H' nx',GH s P f d q H' (code++[⟨op,a,bb,c⟩]) sp en bl→KeepT gT H H'→C r H' nx') :
 VCall Try.prog 41 [.ptr q.kG q.sG 0,I op,I a,I bb,I c] H nx C:=by
 refine VCall.of_body hmix f_emit_generator_put (by simp) ?_
 have hmx:(200000000:Nat)≤maxLen:=by decide
 obtain ⟨cv,pv,hw,hc,hp⟩:=h.w
 have l1:=lt_of hw
 have n1:=ne_len hw
 have n2:=ne_len' hw
 obtain ⟨k,s0,rfl,hk⟩:=hc
 have e1:=ty_ne hk hw (by simp)
 have e2:=ty_ne hw hk (by simp)
 have l2:=lt_of hk
 simp only[go_sem,c_emit_generator_put,hw,hk,hp.one,n1,n2,l1,l2,e1,e2,List.getElem?_set,List.getElem?_append,List.length_set,List.length_append,Nat.lt_irrefl,Nat.sub_self]
 refine ⟨by omega,by omega,?_⟩
 have e:List.take (code.length*4) (code.map ciL).flatten++[I op,I a,I bb,I c]=((code++[(⟨op,a,bb,c⟩:Ci)]).map ciL).flatten:=by
  rw[List.take_of_length_le (by rw[sz_flat _ 4 (fun _=>rfl)];exact Nat.le_refl _),List.map_append,List.flatten_append];rfl
 rw[e]
 obtain ⟨g1,g2,g3⟩:=grow_old (ts:=[83,86]) (x:=⟨nx,86,4,[I op,I a,I bb,I c]⟩) (y:=⟨nx+1,86,4,((code++[(⟨op,a,bb,c⟩:Ci)]).map ciL).flatten⟩) (w':=⟨q.sG,83,1,genL s P q (.ref k (nx+1) 0 (code.length+1)) pv f d⟩) hw hk (by simpa using e1) (by simp) (by simp)
 exact hC _ _ _ (h.grown (code':=code++[⟨op,a,bb,c⟩]) g1 (by rw[List.length_append];exact CV.at g2) (hp.keep g3 (by simp)) g3 (by simp) (by simp)) (g3.mono (by simp))
theorem hole_v {s:SP} {P:PL} {f d:Int} {q:GI} {H:List VObj} {code:List Ci} {sp:List Sp} {en:List Int} {bl:List AV} (h:GH s P f d q H code sp en bl) (nx:Nat) (op a ff to:Int) (hl:code.length≤1000000) (hsl:sp.length≤1000000)
 (C:AV→List VObj→Nat→Prop) (hC:∀ r H' nx',GH s P f d q H' (code++[⟨op,a,0,0⟩]) (sp++[((code.length:Int),ff,to)]) en bl→KeepT gT H H'→C r H' nx') :
 VCall Try.prog 67 [.ptr q.kG q.sG 0,I op,I a,I ff,I to] H nx C:=by
 refine VCall.of_body hmix f_emit_generator_hole (by simp) ?_
 have hmx:(200000000:Nat)≤maxLen:=by decide
 obtain ⟨cv,pv,hw,hc,hp⟩:=h.w
 have l1:=lt_of hw
 have n1:=ne_len hw
 have n2:=ne_len' hw
 have main:∀ H' nx' (C':AV→List VObj→Nat→Prop),GH s P f d q H' code (sp++[((code.length:Int),ff,to)]) en bl→KeepT gT H H' →
  (∀ r H2 nx2,GH s P f d q H2 (code++[⟨op,a,0,0⟩]) (sp++[((code.length:Int),ff,to)]) en bl→KeepT gT H H2→C' r H2 nx2) →
  VCall Try.prog 41 [.ptr q.kG q.sG 0,I op,I a,I 0,I 0] H' nx' C':=fun H' nx' C' h' k' hh =>
  put_v h' nx' op a 0 0 hl C' fun r H2 nx2 h2 k2=>hh r H2 nx2 h2 (k'.trans k2)
 obtain ⟨k,s0,rfl,hk⟩:=hp
 have e1:=ty_ne hk hw (by simp)
 have e2:=ty_ne hw hk (by simp)
 have l2:=lt_of hk
 have e:List.take (sp.length*3) (sp.map spL).flatten++[I (code.length:Int),I ff,I to]=((sp++[((code.length:Int),ff,to)]).map spL).flatten:=by
  rw[List.take_of_length_le (by rw[sz_flat _ 3 (fun _=>rfl)];exact Nat.le_refl _),List.map_append,List.flatten_append];rfl
 have old:∀ cv',H[q.kG]? = some ⟨q.sG,83,1,genL s P q cv' (.ref k s0 0 sp.length) f d⟩→CV H 86 4 cv' (code.map ciL).flatten code.length→∀ (x y:VObj) s',y=⟨s',110,3,((sp++[((code.length:Int),ff,to)]).map spL).flatten⟩ →
  GH s P f d q (((H++[x]).set k y).set q.kG ⟨q.sG,83,1,genL s P q cv' (.ref k s' 0 (sp.length+1)) f d⟩) code (sp++[((code.length:Int),ff,to)]) en bl∧KeepT gT H (((H++[x]).set k y).set q.kG ⟨q.sG,83,1,genL s P q cv' (.ref k s' 0 (sp.length+1)) f d⟩):=fun cv' hw' hc' x y s' hy=>by
  subst hy
  obtain ⟨g1,g2,g3⟩:=grow_old (ts:=[83,110]) (x:=x) (y:=⟨s',110,3,((sp++[((code.length:Int),ff,to)]).map spL).flatten⟩) (w':=⟨q.sG,83,1,genL s P q cv' (.ref k s' 0 (sp.length+1)) f d⟩) hw' hk (by simpa using e1) (by simp) (by simp)
  exact ⟨h.grown (sp':=sp++[((code.length:Int),ff,to)]) g1 (hc'.keep g3 (by simp)) (by rw[List.length_append];exact CV.at g2) g3 (by simp) (by simp),g3.mono (by simp)⟩
 obtain ⟨k2,s2,rfl,hk2⟩:=hc
 simp only[go_sem,c_emit_generator_hole,hw,hk,hk2,n1,n2,l1,l2,e1,e2,List.getElem?_set,List.getElem?_append,List.length_set,List.length_append,Nat.lt_irrefl,Nat.sub_self]
 refine ⟨by omega,by omega,?_⟩
 obtain ⟨g1,g2⟩:=old _ hw (CV.at hk2) ⟨nx,110,3,[I (code.length:Int),I ff,I to]⟩ ⟨nx+1,110,3,List.take (sp.length*3) (sp.map spL).flatten++[I (code.length:Int),I ff,I to]⟩ (nx+1) (by rw[← e])
 refine main _ _ _ g1 g2 fun r H2 nx2 h2 k2=>?_
 simp only[go_sem]
 exact hC _ _ _ h2 k2
set_option maxRecDepth 10000
open Go.V
section
variable {α:Type}
theorem ponx (T:List α) (x:α):(T++[x]).length=T.length+1:=by simp
theorem pg0 (T:List α) (x:α):(T++[x])[T.length]? = some x:=by simp
theorem pg01 (T:List α) (x y:α):(T++[x]++[y])[T.length]? = some x:=by simp
theorem pg1 (T:List α) (x y:α):(T++[x]++[y])[T.length+1]? = some y:=by simp
theorem ps0 (T:List α) (x y:α):(T++[x]).set T.length y=T++[y]:=by simp
theorem ps1 (T:List α) (x y z:α):(T++[x]++[y]).set (T.length+1) z=T++[x]++[z]:=by
 rw[List.set_append_right _ _ (by simp)];simp
end
def PW (T:List VObj) (v:AV) (l:List Int):Prop :=
 (v=nilv∧l=[])∨∃ k s rest,v = .ref (k+5) s 0 l.length∧T[k]? = some ⟨s,30,1,l.reverse.map U32++rest⟩∧rest.all AV.one=true
def PO (T:List VObj) (v:AV) (l:List UInt8):Prop :=
 (v=nilv∧l=[])∨∃ k s,v = .ref (k+5) s 0 l.length∧T[k]? = some ⟨s,5,1,l.map U8⟩
def Kp (ty:Nat) (T T':List VObj):Prop:=∀ (k:Nat) (ob:VObj),T[k]? = some ob→ob.ty≠ty→T'[k]? = some ob
theorem Kp.refl (ty:Nat) (T:List VObj):Kp ty T T:=fun _ _ h _=>h
theorem Kp.add {ty:Nat} {T:List VObj} (R:List VObj):Kp ty T (T++R):=fun k ob h _=>by rw[List.getElem?_append_left (List.getElem?_eq_some_iff.1 h).1];exact h
theorem Kp.put {ty:Nat} {T:List VObj} {k:Nat} {ob ob':VObj} (h:T[k]? = some ob) (ht:ob.ty=ty):Kp ty T (T.set k ob'):=fun i o h1 h2=>by
 have hne:k≠i:=fun e=>by subst e;rw[h]at h1;cases h1;exact h2 ht
 rw[List.getElem?_set,if_neg hne];exact h1
theorem Kp.trans {ty:Nat} {T T' T'':List VObj} (h:Kp ty T T') (k:Kp ty T' T''):Kp ty T T'':=fun i ob h1 h2=>k i ob (h i ob h1 h2) h2
theorem PW.kp {ty:Nat} {T T':List VObj} {v:AV} {l:List Int} (h:PW T v l) (k:Kp ty T T') (ht:30≠ty):PW T' v l:=by
 rcases h with h | ⟨k0,s,rest,h1,h2,h3⟩
 ·exact .inl h
 ·exact .inr ⟨k0,s,rest,h1,k _ _ h2 ht,h3⟩
theorem PO.kp {ty:Nat} {T T':List VObj} {v:AV} {l:List UInt8} (h:PO T v l) (k:Kp ty T T') (ht:5≠ty):PO T' v l:=by
 rcases h with h | ⟨k0,s,h1,h2⟩
 ·exact .inl h
 ·exact .inr ⟨k0,s,h1,k _ _ h2 ht⟩
theorem PW.one {T:List VObj} {v:AV} {l:List Int} (h:PW T v l):v.one=true:=by
 rcases h with ⟨h,_⟩ | ⟨_,_,_,h,_,_⟩<;>rw[h]<;>rfl
theorem PO.one {T:List VObj} {v:AV} {l:List UInt8} (h:PO T v l):v.one=true:=by
 rcases h with ⟨h,_⟩ | ⟨_,_,h,_⟩<;>rw[h]<;>rfl
theorem Stab.put {H:List VObj} {k:Nat} {ob ob':VObj} (h:H[k]? = some ob) (hs:ob'.s=ob.s) (hz:ob'.sz=ob.sz):Stab (fun _=>True) 1 H (H.set k ob'):=fun id o _ ho=>by
 rw[List.getElem?_set]
 by_cases e:k=id
 ·subst e
  rw[h]at ho;cases ho
  rw[if_pos rfl,if_pos (List.getElem?_eq_some_iff.1 h).1];exact ⟨_,rfl,hs,hz⟩
 ·rw[if_neg e];exact ⟨o,ho,rfl,rfl⟩
section
variable (c0 c1 c2 vs vc c5 c6 c7:AV) (o0 o1 o2 o4:VObj) (T:List VObj) (sm nx:Nat)
end
set_option maxRecDepth 10000
open Go.V
structure InP (s:SP):Prop where
 fn:s.funcs.length≤1000000
 code:∀ f,(s.fn f).code.length≤1000000
 par:∀ f,Int64 (s.fn f).params
theorem op_cases (op:Int):op=1∨op=2∨op=3∨op=4∨op=5∨op=6∨op=7∨op=8∨op=9∨op=10∨op=11∨op=12∨op=13∨(op≠1∧op≠2∧op≠3∧op≠4∧op≠5∧op≠6∧op≠7∧op≠8∧op≠9∧op≠10∧op≠11∧op≠12∧op≠13):=by
 by_cases h1:op=1
 ·exact .inl h1
 by_cases h2:op=2
 ·exact .inr (.inl h2)
 by_cases h3:op=3
 ·exact .inr (.inr (.inl h3))
 by_cases h4:op=4
 ·exact .inr (.inr (.inr (.inl h4)))
 by_cases h5:op=5
 ·exact .inr (.inr (.inr (.inr (.inl h5))))
 by_cases h6:op=6
 ·exact .inr (.inr (.inr (.inr (.inr (.inl h6)))))
 by_cases h7:op=7
 ·exact .inr (.inr (.inr (.inr (.inr (.inr (.inl h7))))))
 by_cases h8:op=8
 ·exact .inr (.inr (.inr (.inr (.inr (.inr (.inr (.inl h8)))))))
 by_cases h9:op=9
 ·exact .inr (.inr (.inr (.inr (.inr (.inr (.inr (.inr (.inl h9))))))))
 by_cases h10:op=10
 ·exact .inr (.inr (.inr (.inr (.inr (.inr (.inr (.inr (.inr (.inl h10)))))))))
 by_cases h11:op=11
 ·exact .inr (.inr (.inr (.inr (.inr (.inr (.inr (.inr (.inr (.inr (.inl h11))))))))))
 by_cases h12:op=12
 ·exact .inr (.inr (.inr (.inr (.inr (.inr (.inr (.inr (.inr (.inr (.inr (.inl h12)))))))))))
 by_cases h13:op=13
 ·exact .inr (.inr (.inr (.inr (.inr (.inr (.inr (.inr (.inr (.inr (.inr (.inr (.inl h13))))))))))))
 exact .inr (.inr (.inr (.inr (.inr (.inr (.inr (.inr (.inr (.inr (.inr (.inr (.inr (⟨h1,h2,h3,h4,h5,h6,h7,h8,h9,h10,h11,h12,h13⟩)))))))))))))
theorem behind_c (s:SP) (hs:InP s) (f:Nat) (hf:f<s.funcs.length) (x:SI) (d:Int) (hd:0≤d∧d≤1000000):Contract Try.prog 54 [spA s,I f,siA x,I d] (fun r=>∃ e ok,r = .tup [I e,B ok]∧(match effD s f x d with | some e'=>ok=true∧e=e' | none=>ok=false)):=by
 obtain ⟨op,a,b,n⟩:=x
 have hfn:s.funcs.getD f default=s.fn f:=rfl
 have hfa:s.funcs.getD a.toNat default=s.fn a.toNat:=rfl
 obtain ⟨hd1,hd2⟩:=hd
 have hcnt:∀ b:Bool,Contract Try.prog 86 [B b] (fun r=>r=I (cntB b:Nat)):=fun b=>by
  refine Contract.of_call (VCall.of_body hmix f_stack_count (by simp) ?_)
  cases b
  ·simp only[go_sem,Int.reduceEq,Int.reduceBEq,c_stack_count];exact ⟨_,Frz.pure rfl,rfl⟩
  ·simp only[go_sem,Int.reduceEq,Int.reduceBEq,c_stack_count];exact ⟨_,Frz.pure rfl,rfl⟩
 refine Contract.of_call (VCall.of_body hmix f_stack_behind (by simp) ?_)
 rcases op_cases op with rfl | rfl | rfl | rfl | rfl | rfl | rfl | rfl | rfl | rfl | rfl | rfl | rfl | ⟨h1,h2,h3,h4,h5,h6,h7,h8,h9,h10,h11,h12,h13⟩
 ·
  have ht:tkS s f ⟨1,a,b,n⟩=some (0,1):=by simp[tkS]
  have e1:IntKind.i64.wrap (d-0)=d-0:=i64_in (by omega) (by omega)
  have e2:IntKind.i64.wrap (d-0+1)=d-0+1:=i64_in (by omega) (by omega)
  simp only[go_sem,Int.reduceEq,Int.reduceBEq,c_stack_behind,e1,e2]
  refine ⟨_,Frz.pure rfl,_,_,rfl,?_⟩
  by_cases h4:d<0
  ·simp[effD,ht,h4]<;>omega
  ·simp[effD,ht,h4]<;>omega
 ·
  have ht:tkS s f ⟨2,a,b,n⟩=some (0,1):=by simp[tkS]
  have e1:IntKind.i64.wrap (d-0)=d-0:=i64_in (by omega) (by omega)
  have e2:IntKind.i64.wrap (d-0+1)=d-0+1:=i64_in (by omega) (by omega)
  simp only[go_sem,Int.reduceEq,Int.reduceBEq,c_stack_behind,e1,e2]
  refine ⟨_,Frz.pure rfl,_,_,rfl,?_⟩
  by_cases h4:d<0
  ·simp[effD,ht,h4]<;>omega
  ·simp[effD,ht,h4]<;>omega
 ·
  have ht:tkS s f ⟨3,a,b,n⟩=some (1,0):=by simp[tkS]
  have e1:IntKind.i64.wrap (d-1)=d-1:=i64_in (by omega) (by omega)
  have e2:IntKind.i64.wrap (d-1+0)=d-1+0:=i64_in (by omega) (by omega)
  simp only[go_sem,Int.reduceEq,Int.reduceBEq,c_stack_behind,e1,e2]
  refine ⟨_,Frz.pure rfl,_,_,rfl,?_⟩
  by_cases h4:d<1
  ·simp[effD,ht,h4]<;>omega
  ·simp[effD,ht,h4]<;>omega
 ·
  have ht:tkS s f ⟨4,a,b,n⟩=some (1,1):=by simp[tkS]
  have e1:IntKind.i64.wrap (d-1)=d-1:=i64_in (by omega) (by omega)
  have e2:IntKind.i64.wrap (d-1+1)=d-1+1:=i64_in (by omega) (by omega)
  simp only[go_sem,Int.reduceEq,Int.reduceBEq,c_stack_behind,e1,e2]
  refine ⟨_,Frz.pure rfl,_,_,rfl,?_⟩
  by_cases h4:d<1
  ·simp[effD,ht,h4]<;>omega
  ·simp[effD,ht,h4]<;>omega
 ·
  have ht:tkS s f ⟨5,a,b,n⟩=some (2,0):=by simp[tkS]
  have e1:IntKind.i64.wrap (d-2)=d-2:=i64_in (by omega) (by omega)
  have e2:IntKind.i64.wrap (d-2+0)=d-2+0:=i64_in (by omega) (by omega)
  simp only[go_sem,Int.reduceEq,Int.reduceBEq,c_stack_behind,e1,e2]
  refine ⟨_,Frz.pure rfl,_,_,rfl,?_⟩
  by_cases h4:d<2
  ·simp[effD,ht,h4]<;>omega
  ·simp[effD,ht,h4]<;>omega
 ·
  have ht:tkS s f ⟨6,a,b,n⟩=some (2,1):=by simp[tkS]
  have e1:IntKind.i64.wrap (d-2)=d-2:=i64_in (by omega) (by omega)
  have e2:IntKind.i64.wrap (d-2+1)=d-2+1:=i64_in (by omega) (by omega)
  simp only[go_sem,Int.reduceEq,Int.reduceBEq,c_stack_behind,e1,e2]
  refine ⟨_,Frz.pure rfl,_,_,rfl,?_⟩
  by_cases h4:d<2
  ·simp[effD,ht,h4]<;>omega
  ·simp[effD,ht,h4]<;>omega
 ·
  have ht:tkS s f ⟨7,a,b,n⟩=some (1,1):=by simp[tkS]
  have e1:IntKind.i64.wrap (d-1)=d-1:=i64_in (by omega) (by omega)
  have e2:IntKind.i64.wrap (d-1+1)=d-1+1:=i64_in (by omega) (by omega)
  simp only[go_sem,Int.reduceEq,Int.reduceBEq,c_stack_behind,e1,e2]
  refine ⟨_,Frz.pure rfl,_,_,rfl,?_⟩
  by_cases h4:d<1
  ·simp[effD,ht,h4]<;>omega
  ·simp[effD,ht,h4]<;>omega
 ·
  have ht:tkS s f ⟨8,a,b,n⟩=some (0,0):=by simp[tkS]
  have e1:IntKind.i64.wrap (d-0)=d-0:=i64_in (by omega) (by omega)
  have e2:IntKind.i64.wrap (d-0+0)=d-0+0:=i64_in (by omega) (by omega)
  simp only[go_sem,Int.reduceEq,Int.reduceBEq,c_stack_behind,e1,e2]
  refine ⟨_,Frz.pure rfl,_,_,rfl,?_⟩
  by_cases h4:d<0
  ·simp[effD,ht,h4]<;>omega
  ·simp[effD,ht,h4]<;>omega
 ·
  have ht:tkS s f ⟨9,a,b,n⟩=some (1,0):=by simp[tkS]
  have e1:IntKind.i64.wrap (d-1)=d-1:=i64_in (by omega) (by omega)
  have e2:IntKind.i64.wrap (d-1+0)=d-1+0:=i64_in (by omega) (by omega)
  simp only[go_sem,Int.reduceEq,Int.reduceBEq,c_stack_behind,e1,e2]
  refine ⟨_,Frz.pure rfl,_,_,rfl,?_⟩
  by_cases h4:d<1
  ·simp[effD,ht,h4]<;>omega
  ·simp[effD,ht,h4]<;>omega
 ·
  by_cases h1:a<0
  ·simp only[go_sem,Int.reduceEq,Int.reduceBEq,c_stack_behind,eq_true h1]
   exact ⟨_,Frz.pure rfl,_,_,rfl,by simp[effD,tkS,show ¬ 0≤a by omega]⟩
  by_cases h2:(s.funcs.length:Int)≤a
  ·simp only[go_sem,Int.reduceEq,Int.reduceBEq,c_stack_behind,eq_false h1,eq_true h2]
   exact ⟨_,Frz.pure rfl,_,_,rfl,by simp[effD,tkS,show ¬ a<(s.funcs.length:Int) by omega]⟩
  have ht:tkS s f ⟨10,a,b,n⟩=some ((s.fn a.toNat).params,((cntB (s.fn a.toNat).word:Nat):Int)):=by simp[tkS,show 0≤a by omega,show a<(s.funcs.length:Int) by omega]
  have hp:=hs.par a.toNat
  have hc0:((cntB (s.fn a.toNat).word:Nat):Int)≤1:=by cases (s.fn a.toNat).word<;>decide
  by_cases h3:(s.fn a.toNat).params<0
  ·simp only[go_sem,Int.reduceEq,Int.reduceBEq,c_stack_behind,eq_false h1,eq_false h2,hfa,eq_true h3]
   repeat (refine And.intro (by omega) ?_)
   exact ⟨_,Frz.pure rfl,_,_,rfl,by simp[effD,ht,h3]⟩
  have e1:IntKind.i64.wrap (d-(s.fn a.toNat).params)=d-(s.fn a.toNat).params:=i64_in (by have:=hp.2;omega) (by omega)
  have e2:IntKind.i64.wrap (d-(s.fn a.toNat).params+(cntB (s.fn a.toNat).word:Nat))=d-(s.fn a.toNat).params+(cntB (s.fn a.toNat).word:Nat):=i64_in (by have:=hp.2;omega) (by omega)
  simp only[go_sem,Int.reduceEq,Int.reduceBEq,c_stack_behind,eq_false h1,eq_false h2,hfa,eq_false h3]
  repeat' (with_reducible apply And.intro)
  all_goals first
   | omega
   | (refine VCall.of_contract (hcnt (s.fn a.toNat).word) (SleL.pure rfl) fun r hr=>?_
      subst hr
      refine ⟨Stab.refl _ _ _,?_⟩
      simp only[go_sem,Int.reduceEq,Int.reduceBEq,hfa,e1,e2]
      repeat (refine And.intro (by omega) ?_)
      refine ⟨_,Frz.pure rfl,_,_,rfl,?_⟩
      by_cases h4:d<(s.fn a.toNat).params
      ·simp[effD,ht,h3,h4]
      ·simp[effD,ht,h3,h4];omega)
 ·
  have ht:tkS s f ⟨11,a,b,n⟩=some (((cntB (s.fn f).word:Nat):Int),0):=by simp[tkS]
  simp only[go_sem,Int.reduceEq,Int.reduceBEq,c_stack_behind,hfn]
  repeat (refine And.intro (by omega) ?_)
  refine VCall.of_contract (hcnt (s.fn f).word) (SleL.pure rfl) fun r hr=>?_
  subst hr
  simp only[go_sem,Int.reduceEq,Int.reduceBEq,hfn]
  refine ⟨_,Frz.pure rfl,_,_,rfl,?_⟩
  have hc0:(0:Int)≤((cntB (s.fn f).word:Nat):Int):=by omega
  generalize ((cntB (s.fn f).word:Nat):Int)=c at *
  by_cases h4:d=c
  ·subst h4
   have h5:¬ d<0:=by omega
   simp[effD,ht,h5]
  ·have h5:¬ c<0:=by omega
   simp[effD,ht,h4,h5]
 ·
  have ht:tkS s f ⟨12,a,b,n⟩=some (0,1):=by simp[tkS]
  have e1:IntKind.i64.wrap (d-0)=d-0:=i64_in (by omega) (by omega)
  have e2:IntKind.i64.wrap (d-0+1)=d-0+1:=i64_in (by omega) (by omega)
  simp only[go_sem,Int.reduceEq,Int.reduceBEq,c_stack_behind,e1,e2]
  refine ⟨_,Frz.pure rfl,_,_,rfl,?_⟩
  by_cases h4:d<0
  ·simp[effD,ht,h4]<;>omega
  ·simp[effD,ht,h4]<;>omega
 ·
  have ht:tkS s f ⟨13,a,b,n⟩=some (1,0):=by simp[tkS]
  have e1:IntKind.i64.wrap (d-1)=d-1:=i64_in (by omega) (by omega)
  have e2:IntKind.i64.wrap (d-1+0)=d-1+0:=i64_in (by omega) (by omega)
  simp only[go_sem,Int.reduceEq,Int.reduceBEq,c_stack_behind,e1,e2]
  refine ⟨_,Frz.pure rfl,_,_,rfl,?_⟩
  by_cases h4:d<1
  ·simp[effD,ht,h4]<;>omega
  ·simp[effD,ht,h4]<;>omega
 ·
  simp only[go_sem,Int.reduceEq,Int.reduceBEq,c_stack_behind,eq_false h1,eq_false h2,eq_false h3,eq_false h4,eq_false h5,eq_false h6,eq_false h7,eq_false h8,eq_false h9,eq_false h10,eq_false h11,eq_false h12,eq_false h13]
  exact ⟨_,Frz.pure rfl,_,_,rfl,by simp[effD,tkS,h1,h2,h3,h4,h5,h6,h7,h8,h9,h10,h11,h12,h13]⟩
theorem nextS_c (x:SI) (k:Nat) (hk:k≤1000000):Contract Try.prog 55 [siA x,I k] (fun r=>r=ints (nextL x k)):=by
 obtain ⟨op,a,b,n⟩:=x
 have e1:IntKind.i64.wrap ((k:Int)+1)=(k:Int)+1:=i64_in (by omega) (by omega)
 refine Contract.of_call (VCall.of_body hmix f_stack_next (by simp) ?_)
 by_cases h8:op=8
 ·subst h8
  simp only[go_sem,Int.reduceEq,Int.reduceBEq,c_stack_next,e1]
  exact ⟨_,frz_ints (l:=[a]) (Nat.zero_le _) rfl rfl,rfl⟩
 by_cases h9:op=9
 ·subst h9
  simp only[go_sem,Int.reduceEq,Int.reduceBEq,c_stack_next,e1]
  exact ⟨_,frz_ints (l:=[(k:Int)+1,a]) (Nat.zero_le _) rfl rfl,rfl⟩
 by_cases h11:op=11
 ·subst h11
  simp only[go_sem,Int.reduceEq,Int.reduceBEq,c_stack_next,e1]
  exact ⟨_,Frz.nil 1,rfl⟩
 simp only[go_sem,Int.reduceEq,Int.reduceBEq,c_stack_next,e1,eq_false h8,eq_false h9,eq_false h11]
 refine ⟨_,frz_ints (l:=[(k:Int)+1]) (Nat.zero_le _) rfl rfl,?_⟩
 simp[nextL,h8,h9,h11]
set_option maxRecDepth 10000
open Go.V
def tdA (l:List Nat):List AV:=l.map fun (t:Nat)=>I (t:Int)
theorem tdA_len (l:List Nat):(tdA l).length=l.length:=by simp[tdA]
theorem fill_set (n i:Nat) (hi:i<n):((List.replicate i (-1:Int)++List.replicate (n-i) 0).map I).set i (I (-1))=(List.replicate (i+1) (-1:Int)++List.replicate (n-(i+1)) 0).map I:=by
 rw[set_map I,List.set_append_right _ _ (by simp),List.length_replicate,Nat.sub_self,show n-i=(n-(i+1))+1 by omega,List.replicate_succ,List.set_cons_zero]
 congr 1
 rw[List.replicate_succ',List.append_assoc];rfl
theorem frzT_nil {n:Nat} {H:List VObj} {nx:Nat}:Frz n H nx (.tup [nilv,B false]) (.tup [ints [],B false]):=Frz.tup ⟨_,_,rfl,Frz.nil 1,_,_,rfl,Frz.pure rfl,rfl⟩
theorem depths_no {s:SP} {f:Nat} (h:∀ out,¬ Sol s f out):DepthsR s f [] false:=⟨fun h=>(by cases h),fun out ho=>(h out ho).elim⟩
theorem cellT_I' {xs:List Int} {off:Nat} {C:AV→Prop}:cellT (xs.map I) off false 1 C .mk=(off<xs.length∧C (I (xs.getD off default))):=cellT_I
theorem getD_dm {l:List Int} {i:Nat} (h:i<l.length):l.getD i default=l.getD i (-1):=by simp[List.getD,h]
theorem nextL_len (x:SI) (k:Nat):(nextL x k).length≤2:=by
 unfold nextL
 by_cases h:x.op=8
 ·rw[if_pos h];simp
 rw[if_neg h]
 by_cases h:x.op=9
 ·rw[if_pos h];simp
 rw[if_neg h]
 by_cases h:x.op=11
 ·rw[if_pos h];simp
 rw[if_neg h];simp
set_option maxRecDepth 10000
open Go.V
theorem plen3 {α:Type} (a b c:α) (T:List α):(a::b::c::T).length=T.length+3:=rfl
def PI (T:List VObj) (v:AV) (l:List Nat):Prop :=
 (v=nilv∧l=[])∨∃ k s rest,v = .ref (k+3) s 0 l.length∧T[k]? = some ⟨s,3,1,tdA l.reverse++rest⟩
theorem PI.one {T:List VObj} {v:AV} {l:List Nat} (h:PI T v l):v.one=true:=by
 rcases h with ⟨h,_⟩ | ⟨_,_,_,h,_⟩<;>rw[h]<;>rfl
abbrev piO (v:AV):VObj:=⟨2,123,1,[v]⟩
section
variable (o0 o1:VObj) (v:AV) (T:List VObj) (nx:Nat)
theorem ipush_v (l:List Nat) (x:Nat) (hl:l.length≤2900000) (h:PI T v l) (C:AV→List VObj→Nat→Prop) (hC:∀ r T' v' nx',PI T' v' (x::l)→C r (o0::o1::piO v'::T') nx') :
 VCall Try.prog 51 [.ptr 2 2 0,I x] (o0::o1::piO v::T) nx C:=by
 refine VCall.of_body hmix f_stack_pile_int_push (by simp) ?_
 have hmx:(3000000:Nat)≤maxLen:=by decide
 rcases h with ⟨rfl,rfl⟩ | ⟨k,s,rest,rfl,hT⟩
 ·simp only[go_sem,Int.reduceEq,Int.reduceBEq,c_stack_pile_int_push,↓plen3,ponx,pg0,pg01,pg1,ps0,ps1]
  repeat (refine And.intro (by omega) ?_)
  refine hC _ _ _ _ (.inr ⟨T.length+1,nx+1,[],rfl,?_⟩)
  rw[pg1];simp[tdA]
 ·have hT2:∀ x:VObj,(T++[x])[k]? = some ⟨s,3,1,tdA l.reverse++rest⟩:=fun x=>by rw[List.getElem?_append_left (List.getElem?_eq_some_iff.1 hT).1];exact hT
  have hk:=(List.getElem?_eq_some_iff.1 hT).1
  simp only[go_sem,Int.reduceEq,Int.reduceBEq,c_stack_pile_int_push,↓plen3,ponx,pg0,pg01,pg1,ps0,ps1,hT2]
  repeat (refine And.intro (by first | omega | rfl) ?_)
  refine hC _ _ _ _ (.inr ⟨k,nx+1,[],rfl,?_⟩)
  rw[List.getElem?_set,if_pos rfl,if_pos (by simp;omega),List.take_append_of_le_length (by simp[tdA_len]),List.take_of_length_le (by simp[tdA_len])]
  simp[tdA]
theorem isize_v (l:List Nat) (h:PI T v l) (C:AV→List VObj→Nat→Prop) (hC:C (I l.length) (o0::o1::piO v::T) nx) :
 VCall Try.prog 52 [.ptr 2 2 0] (o0::o1::piO v::T) nx C:=by
 refine VCall.of_body hmix f_stack_pile_int_size (by simp) ?_
 rcases h with ⟨rfl,rfl⟩ | ⟨k,s,rest,rfl,hT⟩
 ·simp only[go_sem,Int.reduceEq,Int.reduceBEq,c_stack_pile_int_size,↓plen3]
  exact hC
 ·simp only[go_sem,Int.reduceEq,Int.reduceBEq,c_stack_pile_int_size,↓plen3,hT]
  repeat (refine And.intro (by first | omega | rfl) ?_)
  exact hC
theorem ipop_v (l:List Nat) (x:Nat) (hl:l.length≤2900000) (h:PI T v (x::l)) (C:AV→List VObj→Nat→Prop) (hC:∀ v',PI T v' l→C (I x) (o0::o1::piO v'::T) nx) :
 VCall Try.prog 53 [.ptr 2 2 0] (o0::o1::piO v::T) nx C:=by
 refine VCall.of_body hmix f_stack_pile_int_pop (by simp) ?_
 rcases h with ⟨_,h⟩ | ⟨k,s,rest,rfl,hT⟩
 ·cases h
 have e2:tdA (x::l).reverse++rest=tdA l.reverse++I x::rest:=by simp[tdA]
 rw[e2]at hT
 have e1':IntKind.i64.wrap ((l.length:Int)+1-1)=(l.length:Int):=by rw[i64_in (by omega) (by omega)];omega
 have hcell:∀ C:AV→Prop,cellT (tdA l.reverse++I x::rest) l.length false 1 C .mk=C (I x):=fun C=>by
  have e:(tdA l.reverse++I x::rest).getD l.length .dead=I x:=by simp[List.getD,tdA]
  simp only[cellT,cellW,partOK,partA,e];simp[AV.one,Value.oneCell',tdA_len]
 simp only[go_sem,Int.reduceEq,Int.reduceBEq,c_stack_pile_int_pop,↓plen3,hT,Int.natCast_add,Int.cast_ofNat_Int,e1',hcell]
 repeat (refine And.intro (by first | omega | rfl) ?_)
 exact hC _ (.inr ⟨k,s,_,rfl,hT⟩)
end
structure DP where
 dl:List Int
 tl:List Nat
 v:AV
 T:List VObj
 nx:Nat
 j:Nat
theorem sdepths_c (s:SP) (hs:InP s) (f:Nat) (hf:f<s.funcs.length):Contract Try.prog 39 [spA s,I f] (fun r=>∃ dl ok,r = .tup [ints dl,B ok]∧DepthsR s f dl ok):=by
 refine Contract.of_call (VCall.of_body hmix f_stack_Depths (by simp) ?_)
 have hfn:s.funcs.getD f default=s.fn f:=rfl
 have hcl:=hs.code f
 have hfl:=hs.fn
 have hmx:(3000000:Nat)≤maxLen:=by decide
 by_cases hc:(s.fn f).code=[]
 ·have hc0:((s.fn f).code.length:Int)=0:=by rw[hc];rfl
  simp only[go_sem,Int.reduceEq,Int.reduceBEq,c_stack_Depths,hfn,eq_false (show ¬ (f:Int)<0 by omega),eq_false (show ¬ (s.funcs.length:Int)≤(f:Int) by omega),eq_true hc0]
  repeat (refine And.intro (by omega) ?_)
  exact ⟨_,frzT_nil,[],false,rfl,depths_no fun out ho=>ho.ne hc⟩
 have hpos:0<(s.fn f).code.length:=by
  cases h:(s.fn f).code with
  | nil=>exact absurd h hc
  | cons a l=>simp
 have hn0:¬ ((s.fn f).code.length:Int)=0:=by omega
 simp only[go_sem,Int.reduceEq,Int.reduceBEq,c_stack_Depths,hfn,eq_false (show ¬ (f:Int)<0 by omega),eq_false (show ¬ (s.funcs.length:Int)≤(f:Int) by omega),eq_false hn0]
 repeat (refine And.intro (by omega) ?_)
 rw[flat_rep]
 refine VW_loop (fun i:Nat=>⟨[(1,I f),(2,.ptr 0 0 0),(6,.imm 4 ((s.fn f).code.map siA)),(7,.ref 1 1 0 (s.fn f).code.length),(44,I (s.fn f).code.length),(45,I i)],
  [⟨0,24,1,[I s.words,fnsA s.funcs]⟩,⟨1,3,1,(List.replicate i (-1:Int)++List.replicate ((s.fn f).code.length-i) 0).map I⟩],2⟩)
  (fun i=>i≤(s.fn f).code.length) (fun i=>(s.fn f).code.length-i) 0 (Wk.mk (by simp[get_cons]) ⟨[],?_⟩ (Nat.le_refl _)) (Nat.zero_le _) ?_
 ·simp
 intro i hi
 by_cases hil:(i:Int)<((s.fn f).code.length:Int)
 ·have e1:IntKind.i64.wrap ((i:Int)+1)=((i+1:Nat):Int):=by rw[i64_in (by omega) (by omega)];omega
  have hset:=fill_set (s.fn f).code.length i (by omega)
  simp only[go_sem,Int.reduceEq,Int.reduceBEq,eq_true hil,e1,hset]
  repeat (refine And.intro (by first | omega | (simp;omega)) ?_)
  exact ⟨i+1,by omega,by omega,Wk.mk (by simp[get_cons]) ⟨[],(List.append_nil _).symm⟩ (Nat.le_refl _)⟩
 obtain rfl:i=(s.fn f).code.length:=by omega
 have hset0:(List.map I (List.replicate (s.fn f).code.length (-1:Int)++List.replicate ((s.fn f).code.length-(s.fn f).code.length) 0)).set 0 (I 0)=((List.replicate (s.fn f).code.length (-1:Int)).set 0 0).map I:=by
  rw[Nat.sub_self,List.replicate_zero,List.append_nil,set_map I]
 simp only[go_sem,Int.reduceEq,Int.reduceBEq,eq_false hil,hset0]
 repeat (refine And.intro (by first | omega | (simp;omega)) ?_)
 refine ipush_v _ _ nilv [] _ [] 0 (by simp) (.inl ⟨rfl,rfl⟩) _ fun r T1 v1 nx1 g1=>?_
 simp only[go_sem,Int.reduceEq,Int.reduceBEq]
 refine VW_loop (fun q:DP=>⟨[(1,I f),(2,.ptr 0 0 0),(6,.imm 4 ((s.fn f).code.map siA)),(7,.ref 1 1 0 (s.fn f).code.length),(9,.ptr 2 2 0)],⟨0,24,1,[I s.words,fnsA s.funcs]⟩::⟨1,3,1,q.dl.map I⟩::piO q.v::q.T,q.nx⟩)
  (fun q=>WL s f q.dl q.tl none∧PI q.T q.v q.tl∧2*negs q.dl+q.tl.length≤2*(s.fn f).code.length+1) (fun q=>2*negs q.dl+q.tl.length)
  ⟨(List.replicate (s.fn f).code.length (-1:Int)).set 0 0,[0],v1,T1,nx1,0⟩ (Wk.mk (by simp[get_cons]) ⟨[],(List.append_nil _).symm⟩ (Nat.le_refl _)) ⟨WL.start hc,g1,by have:=negs_le ((List.replicate (s.fn f).code.length (-1:Int)).set 0 0);simp at this ⊢;omega⟩ ?_
 rintro ⟨dl0,tl0,v0,T0,nx0,j0⟩ ⟨hwl,hpi,hmu⟩
 simp only at hwl hpi hmu ⊢
 cases tl0 with
 | nil =>
  have hll:(s.fn f).code.length=dl0.length:=hwl.len.symm
  simp only[go_sem,Int.reduceEq,Int.reduceBEq]
  refine isize_v _ _ _ _ _ [] hpi _ ?_
  simp only[go_sem,Int.reduceEq,Int.reduceBEq,eq_false (show ¬ (0:Int)<((0:Nat):Int) by decide)]
  rw[hll]
  exact ⟨_,Frz.tup ⟨_,_,rfl,frz_ints (l:=dl0) (Nat.zero_le _) rfl rfl,_,_,rfl,Frz.pure rfl,rfl⟩,dl0,true,rfl,fun _=>⟨hwl.sol,(fun i=>by have:=hwl.bound i;omega),hwl.ge⟩,fun out ho=>⟨rfl,hwl.sub out ho⟩⟩
 | cons k rest =>
  obtain ⟨hk1,hk2⟩:=hwl.td k (by simp)
  have hbd:=hwl.bound k
  have hdlen:=hwl.len
  have hin:(s.fn f).code.getD k default=s.ins f k:=rfl
  obtain ⟨x,hx⟩:∃ x,s.ins f k=x:=⟨_,rfl⟩
  have hxc:(s.fn f).code.getD k default=x:=hx
  rw[hx]at hin
  have hgk:dl0.getD k default=dl0.getD k (-1):=getD_dm hk1
  obtain ⟨d,hd⟩:∃ d,dl0.getD k (-1)=d:=⟨_,rfl⟩
  rw[hd]at hgk hk2 hbd
  have hpos3:(0:Int)<(rest.length:Int)+1:=by omega
  have hrl:rest.length≤2000001:=by simp only[List.length_cons]at hmu;omega
  simp only[go_sem,Int.reduceEq,Int.reduceBEq]
  refine isize_v _ _ _ _ _ (k::rest) hpi _ ?_
  simp only[go_sem,Int.reduceEq,Int.reduceBEq,Int.natCast_add,Int.cast_ofNat_Int,eq_true hpos3]
  refine ipop_v _ _ _ _ _ rest k (by omega) hpi _ fun v2 g2=>?_
  simp only[go_sem,Int.reduceEq,Int.reduceBEq,hin,cellT_I',hgk]
  repeat (refine And.intro (by first | omega | (simp;done) | (simp;omega)) ?_)
  refine VCall.of_contract (behind_c s hs f hf x d ⟨hk2,by omega⟩) (SleL.pure rfl) fun r hr=>?_
  obtain ⟨e,ok,rfl,hr⟩:=hr
  refine ⟨Stab.refl _ _ _,?_⟩
  cases heff:effD s f x d with
  | none =>
   rw[heff]at hr
   simp only at hr
   subst hr
   simp only[go_sem,Int.reduceEq,Int.reduceBEq,hin,cellT_I',hgk]
   repeat (refine And.intro (by omega) ?_)
   exact ⟨_,frzT_nil,[],false,rfl,depths_no (hwl.fail (k:=k) (by simp) (by rw[hxc,hd];exact heff))⟩
  | some e' =>
   rw[heff]at hr
   obtain ⟨rfl,rfl⟩:=hr
   have hwl1:WL s f dl0 rest (some (k,e,0)):=hwl.take (by simp) (fun t ht=>by simpa using ht) (fun t ht=>by simp[ht]) (by rw[hxc,hd];exact heff)
   have hkk:k≤1000000:=by omega
   simp only[go_sem,Int.reduceEq,Int.reduceBEq,hin,cellT_I',hgk]
   repeat (refine And.intro (by first | omega | (simp;done)) ?_)
   refine VCall.of_contract (nextS_c x k hkk) (SleL.pure rfl) fun r hr=>?_
   subst hr
   simp only[go_sem,Int.reduceEq,Int.reduceBEq]
   refine VW_loop (fun q:DP=>⟨[(1,I f),(2,.ptr 0 0 0),(6,.imm 4 ((s.fn f).code.map siA)),(7,.ref 1 1 0 (s.fn f).code.length),(9,.ptr 2 2 0),(10,I k),(11,I e),(79,ints (nextL x k)),(80,I (nextL x k).length),(81,I q.j)],⟨0,24,1,[I s.words,fnsA s.funcs]⟩::⟨1,3,1,q.dl.map I⟩::piO q.v::q.T,q.nx⟩)
    (fun q=>WL s f q.dl q.tl (some (k,e,q.j))∧PI q.T q.v q.tl∧q.j≤(nextL x k).length∧2*negs q.dl+q.tl.length+1≤2*negs dl0+(k::rest).length) (fun q=>(nextL x k).length-q.j)
    ⟨dl0,rest,v2,T0,nx0,0⟩ (Wk.mk (by simp[get_cons]) ⟨[],(List.append_nil _).symm⟩ (Nat.le_refl _)) ⟨hwl1,g2,Nat.zero_le _,by simp only[List.length_cons];omega⟩ ?_
   rintro ⟨dl,tl,vt,T,nx,j⟩ ⟨u1,u2,u3,u4⟩
   simp only at u1 u2 u3 u4 ⊢
   have u5:=u1.len
   by_cases hj:(j:Int)<((nextL x k).length:Int)
   ·have hj':j<(nextL ((s.fn f).code.getD k default) k).length:=by rw[hxc];omega
    have hnl:=nextL_len x k
    obtain ⟨y,hy⟩:∃ y,(nextL x k).getD j default=y:=⟨_,rfl⟩
    have hy':(nextL ((s.fn f).code.getD k default) k).getD j default=y:=by rw[hxc];exact hy
    have e3:IntKind.i64.wrap ((j:Int)+1)=((j+1:Nat):Int):=by rw[i64_in (by omega) (by omega)];omega
    by_cases y1:y<0
    ·simp only[go_sem,Int.reduceEq,Int.reduceBEq,eq_true hj,hy,eq_true y1]
     repeat (refine And.intro (by first | omega | (simp;done)) ?_)
     exact ⟨_,frzT_nil,[],false,rfl,depths_no (u1.fail2 hj' (.inl (by rw[hy'];exact y1)))⟩
    by_cases y2:((s.fn f).code.length:Int)≤y
    ·simp only[go_sem,Int.reduceEq,Int.reduceBEq,eq_true hj,hy,eq_false y1,eq_true y2]
     repeat (refine And.intro (by first | omega | (simp;done)) ?_)
     exact ⟨_,frzT_nil,[],false,rfl,depths_no (u1.fail2 hj' (.inr (.inl (by rw[hy'];exact y2))))⟩
    have hyl:y.toNat<dl.length:=by omega
    have hgy:dl.getD y.toNat default=dl.getD y.toNat (-1):=getD_dm hyl
    obtain ⟨dy,hdy⟩:∃ dy,dl.getD y.toNat (-1)=dy:=⟨_,rfl⟩
    rw[hdy]at hgy
    by_cases y3:0≤dy
    ·by_cases y4:dy=e
     ·simp only[go_sem,Int.reduceEq,Int.reduceBEq,eq_true hj,hy,eq_false y1,eq_false y2,cellT_I',hgy,eq_true y3,eq_true y4,eq_false (show ¬ dy<0 by omega),e3]
      repeat (refine And.intro (by first | omega | (simp;done)) ?_)
      exact ⟨⟨dl,tl,vt,T,nx,j+1⟩,⟨u1.known hj' (by rw[hy'];omega) (by rw[hy'];omega) (by rw[hy',hdy];exact y4),u2,by simp only;omega,u4⟩,by simp only;omega,Wk.mk (by simp[get_cons]) ⟨[],(List.append_nil _).symm⟩ (Nat.le_refl _)⟩
     ·simp only[go_sem,Int.reduceEq,Int.reduceBEq,eq_true hj,hy,eq_false y1,eq_false y2,cellT_I',hgy,eq_true y3,eq_false y4]
      repeat (refine And.intro (by first | omega | (simp;done)) ?_)
      exact ⟨_,frzT_nil,[],false,rfl,depths_no (u1.fail2 hj' (.inr (.inr ⟨by rw[hy',hdy];exact y3,by rw[hy',hdy];exact y4⟩)))⟩
    ·have hset:(dl.map I).set y.toNat (I e)=(dl.set y.toNat e).map I:=set_map I _ _ _
     have htl:tl.length≤2000001:=by simp only[List.length_cons]at u4 hmu;omega
     have hyn:I y=I ((y.toNat:Nat):Int):=by rw[Int.toNat_of_nonneg (by omega)]
     simp only[go_sem,Int.reduceEq,Int.reduceBEq,eq_true hj,hy,eq_false y1,eq_false y2,cellT_I',hgy,eq_false y3,eq_true (show dy<0 by omega),e3,hset]
     repeat (refine And.intro (by first | omega | (simp;done)) ?_)
     have hlt:negs (dl.set y.toNat e)+1=negs dl:=negs_set hyl (by rw[hdy];omega) (effD_bound heff).1
     rw[hyn]
     refine ipush_v _ _ vt T _ tl y.toNat (by omega) u2 _ fun r T' v' nx' g9=>?_
     simp only[go_sem,Int.reduceEq,Int.reduceBEq,e3]
     have hw9:=u1.fresh (todo':=y.toNat::tl) hj' (by rw[hy'];omega) (by rw[hy'];omega) (by rw[hy',hdy];omega) (fun t=>by rw[hy'];simp)
     rw[hy']at hw9
     exact ⟨⟨dl.set y.toNat e,y.toNat::tl,v',T',nx',j+1⟩,⟨hw9,g9,by simp only;omega,by simp only[List.length_cons]at u4 ⊢;omega⟩,by simp only;omega,Wk.mk (by simp[get_cons]) ⟨[],(List.append_nil _).symm⟩ (Nat.le_refl _)⟩
   ·simp only[go_sem,Int.reduceEq,Int.reduceBEq,eq_false hj]
    refine ⟨⟨dl,tl,vt,T,nx,0⟩,⟨u1.done (by rw[hxc];omega),u2,by simp only[List.length_cons]at u4 hmu;simp only;omega⟩,by simp only[List.length_cons]at u4 ⊢;omega,Wk.mk (by simp[get_cons]) ⟨[],(List.append_nil _).symm⟩ (Nat.le_refl _)⟩
set_option maxRecDepth 10000
open Go.V
def FitsP (s:SP) (f:Nat) (x:SI):Prop :=
 (x.op=1∨x.n=0)∧(x.op=4∨x.op=5∨x.b=0) ∧
 (((x.op=1∨x.op=7∨x.op=11∨x.op=12∨x.op=13)∧x.a=0)∨((x.op=2∨x.op=3)∧0≤x.a∧x.a<s.words) ∨
  ((x.op=4∨x.op=5)∧0≤x.a∧1≤x.b∧x.b≤4096∧x.a≤s.words-x.b)∨(x.op=6∧4≤x.a∧x.a≤15) ∨
  ((x.op=8∨x.op=9)∧0≤x.a∧x.a<((s.fn f).code.length:Int))∨(x.op=10∧0≤x.a∧x.a<(f:Int)))
instance (s:SP) (f:Nat) (x:SI):Decidable (FitsP s f x):=by unfold FitsP;exact inferInstance
set_option maxRecDepth 10000
open Go.V
structure FunH (s:SP) (f:Nat):Prop where
 p0:0≤(s.fn f).params
 ps:(s.fn f).params≤(s.fn f).slots
 f0:0≤(s.fn f).first
 sw:(s.fn f).slots≤s.words
 fs:(s.fn f).first≤s.words-(s.fn f).slots
structure FunP (s:SP) (f:Nat):Prop where
 h:FunH s f
 fits:∀ k,k<(s.fn f).code.length→FitsP s f (s.ins f k)
 sol:∃ dl,Sol s f dl
structure RightP (s:SP):Prop where
 w0:0≤s.words
 w1:s.words≤32768
 n0:1≤s.funcs.length
 n1:s.funcs.length≤64
 fn:∀ f,f<s.funcs.length→FunP s f
 lp:(s.fn (s.funcs.length-1)).params=0
 lw:(s.fn (s.funcs.length-1)).word=false
set_option maxRecDepth 10000
open Go.V
abbrev GC (c:Ex) (P:PL) (d:Int) (q:GI) (H:List VObj) (l:List Sy) (en:List Int) (bl:List AV):Prop:=GH c.s P c.fn d q H (l.map (·.1)) (spotL 0 l) en bl
structure ExOk (P:PL) (c:Ex):Prop where
 fl:c.fn<c.s.funcs.length
 fs:c.s.funcs.length≤64
 bs:P.bases.getD c.fn default=c.base
 bsl:c.fn<P.bases.length
 bk:P.backs.getD c.fn default=c.back
 bkl:c.fn<P.backs.length
 dp:P.dls.getD c.fn default=c.dl
 dpl:c.fn<P.dls.length
 b0:0≤c.base∧c.base≤100000
 k0:0≤c.back∧c.back≤100000
 w0:0≤c.s.words∧c.s.words≤40000
 fn:∀ f<c.s.funcs.length,FunH c.s f
section
variable {c:Ex} {P:PL} {d:Int} {q:GI} {H:List VObj} {l:List Sy} {en:List Int} {bl:List AV}
theorem putG_v (h:GC c P d q H l en bl) (hl:l.length≤1000000) (nx:Nat) (op a b x:Int) (C:AV→List VObj→Nat→Prop)
 (hC:∀ r H' nx',GC c P d q H' (l++[pY op a b x]) en bl→KeepT gT H H'→C r H' nx'):VCall Try.prog 41 [.ptr q.kG q.sG 0,I op,I a,I b,I x] H nx C :=
 put_v h nx op a b x (by simpa using hl) C fun r H' nx' h1 h2=>hC r H' nx' (by
  unfold GC
  rw[spotL_append,List.map_append]
  simpa [pY,spotL] using h1) h2
theorem holeG_v (h:GC c P d q H l en bl) (hl:l.length≤1000000) (nx:Nat) (op a fn to:Int) (C:AV→List VObj→Nat→Prop)
 (hC:∀ r H' nx',GC c P d q H' (l++[jY op a fn to]) en bl→KeepT gT H H'→C r H' nx'):VCall Try.prog 67 [.ptr q.kG q.sG 0,I op,I a,I fn,I to] H nx C :=
 hole_v h nx op a fn to (by simpa using hl) (by have:=spotL_len l 0;omega) C fun r H' nx' h1 h2=>hC r H' nx' (by
  unfold GC
  rw[spotL_append,List.map_append]
  simpa [jY,spotL] using h1) h2
theorem load_v (h:GC c P d q H l en bl) (hk:ExOk P c) (hd:0≤d∧d≤100000) (hl:l.length≤900000) (nx:Nat) (r b:Int) (hb:0≤b∧b≤100000) (C:AV→List VObj→Nat→Prop)
 (hC:∀ x H' nx',GC c P d q H' (l++[ldE c d r b]) en bl→KeepT gT H H'→C x H' nx'):VCall Try.prog 61 [.ptr q.kG q.sG 0,I r,I b] H nx C:=by
 refine VCall.of_body hmix f_emit_generator_load (by simp) ?_
 obtain ⟨cv,pv,hw,hc,hp⟩:=h.w
 have h0:=hk.b0
 have g:=hk.bs
 have gl:=hk.bsl
 have e1:IntKind.i64.wrap (c.base+d)=c.base+d:=i64_in (by omega) (by omega)
 have e2:IntKind.i64.wrap (c.base+d-b)=c.base+d-b:=i64_in (by omega) (by omega)
 simp only[go_sem,c_emit_generator_load,hw,hc.one,hp.one,g,e1,e2]
 repeat ((with_reducible refine And.intro ?_ ?_);· first | omega | (simp;omega))
 refine putG_v h (by omega) _ _ _ _ _ _ fun x H2 nx2 h2 k2=>?_
 simp only[go_sem]
 exact hC _ _ _ h2 k2
theorem store_v (h:GC c P d q H l en bl) (hk:ExOk P c) (hd:0≤d∧d≤100000) (hl:l.length≤900000) (nx:Nat) (r b:Int) (hb:0≤b∧b≤100000) (C:AV→List VObj→Nat→Prop)
 (hC:∀ x H' nx',GC c P d q H' (l++[stE c d r b]) en bl→KeepT gT H H'→C x H' nx'):VCall Try.prog 58 [.ptr q.kG q.sG 0,I r,I b] H nx C:=by
 refine VCall.of_body hmix f_emit_generator_store (by simp) ?_
 obtain ⟨cv,pv,hw,hc,hp⟩:=h.w
 have h0:=hk.b0
 have g:=hk.bs
 have gl:=hk.bsl
 have e1:IntKind.i64.wrap (c.base+d)=c.base+d:=i64_in (by omega) (by omega)
 have e2:IntKind.i64.wrap (c.base+d-b)=c.base+d-b:=i64_in (by omega) (by omega)
 simp only[go_sem,c_emit_generator_store,hw,hc.one,hp.one,g,e1,e2]
 repeat ((with_reducible refine And.intro ?_ ?_);· first | omega | (simp;omega))
 refine putG_v h (by omega) _ _ _ _ _ _ fun x H2 nx2 h2 k2=>?_
 simp only[go_sem]
 exact hC _ _ _ h2 k2
theorem number_v (h:GC c P d q H l en bl) (hl:l.length≤900000) (nx:Nat) (r:Int) {n:Int} (hn:In32 n) (C:AV→List VObj→Nat→Prop)
 (hC:∀ x H' nx',GC c P d q H' (l++numE r n) en bl→KeepT gT H H'→C x H' nx'):VCall Try.prog 57 [.ptr q.kG q.sG 0,I r,U32 n] H nx C:=by
 refine VCall.of_body hmix f_emit_generator_number (by simp) ?_
 obtain ⟨h0,h1⟩:=hn
 have m65:IntKind.u32.wrap (((BitVec.ofInt 32 n &&& BitVec.ofInt 32 65535).toNat:Nat):Int)=n % 65536:=andW_mask ⟨h0,h1⟩ 16 (by omega)
 have e16:n.fdiv (2 ^ min 16 32)=n / 65536:=Int.fdiv_eq_ediv_of_nonneg n (show (0:Int)≤65536 by omega)
 have e1:IntKind.i64.wrap (n % 65536)=n % 65536:=i64_in (by omega) (by omega)
 have e2:IntKind.i64.wrap (n / 65536)=n / 65536:=i64_in (by omega) (by omega)
 have m65c:IntKind.i64.wrap (IntKind.u32.wrap (((BitVec.ofInt 32 n &&& BitVec.ofInt 32 65535).toNat:Nat):Int))=n % 65536:=by rw[m65,e1]
 simp only[go_sem,c_emit_generator_number,m65,e16,e1,e2]
 refine putG_v h (by omega) _ _ _ _ _ _ fun x H2 nx2 h2 k2=>?_
 by_cases hb:65535<n
 ·simp only[go_sem,m65,e16,e1,e2,eq_true hb]
  refine putG_v h2 (by simp;omega) _ _ _ _ _ _ fun x H3 nx3 h3 k3=>?_
  simp only[go_sem]
  have key:∀ y,y=n % 65536→GC c P d q H3 (l++[pY 1 r 0 y]++[pY 2 r 0 (n / 65536)]) en bl→GC c P d q H3 (l++numE r n) en bl:=fun y hy hh=>by
   unfold numE
   rw[if_pos hb,← hy]
   simpa using hh
  exact hC _ _ _ (key _ m65c h3) (k2.trans k3)
 ·simp only[go_sem,m65,e16,e1,e2,eq_false hb]
  have key:∀ y,y=n % 65536→GC c P d q H2 (l++[pY 1 r 0 y]) en bl→GC c P d q H2 (l++numE r n) en bl:=fun y hy hh=>by
   unfold numE
   rw[if_neg hb,← hy]
   simpa using hh
  exact hC _ _ _ (key _ m65c h2) k2
theorem leave_v (h:GC c P d q H l en bl) (hk:ExOk P c) (hd:0≤d∧d≤100000) (hl:l.length≤800000) (nx:Nat) (C:AV→List VObj→Nat→Prop)
 (hC:∀ x H' nx',GC c P d q H' (l++leaveE c d) en bl→KeepT gT H H'→C x H' nx'):VCall Try.prog 72 [.ptr q.kG q.sG 0] H nx C:=by
 refine VCall.of_body hmix f_emit_generator_leave (by simp) ?_
 obtain ⟨cv,pv,hw,hc,hp⟩:=h.w
 have hfl:=hk.fl
 have hfs:=hk.fs
 have g:=hk.bk
 have gl:=hk.bkl
 have w1:IntKind.i64.wrap ((c.s.funcs.length:Int)-1)=(c.s.funcs.length:Int)-1:=i64_in (by omega) (by omega)
 have hfn:c.s.funcs.getD c.fn default=c.g:=rfl
 unfold leaveE at hC
 by_cases hlast:(c.fn:Int)=(c.s.funcs.length:Int)-1
 ·rw[if_pos hlast]at hC
  simp only[go_sem,c_emit_generator_leave,hw,hc.one,hp.one,w1,eq_true hlast]
  repeat ((with_reducible refine And.intro ?_ ?_);· first | omega | (simp;omega))
  refine putG_v h (by omega) _ _ _ _ _ _ fun x H2 nx2 h2 k2=>?_
  simp only[go_sem]
  exact hC _ _ _ h2 k2
 ·rw[if_neg hlast]at hC
  by_cases hwd:c.g.word=true
  ·rw[if_pos hwd]at hC
   simp only[go_sem,c_emit_generator_leave,hw,hc.one,hp.one,w1,eq_false hlast,hfn,hwd]
   repeat ((with_reducible refine And.intro ?_ ?_);· first | omega | (simp;omega))
   refine load_v h hk hd (by omega) _ 1 1 (by omega) _ fun x H2 nx2 h2 k2=>?_
   obtain ⟨cv2,pv2,hw2,hc2,hp2⟩:=h2.w
   simp only[go_sem,hw2,hc2.one,hp2.one,g]
   repeat ((with_reducible refine And.intro ?_ ?_);· first | omega | (simp;omega))
   refine putG_v h2 (by simp;omega) _ _ _ _ _ _ fun x H3 nx3 h3 k3=>?_
   simp only[go_sem]
   refine putG_v h3 (by simp;omega) _ _ _ _ _ _ fun x H4 nx4 h4 k4=>?_
   simp only[go_sem]
   exact hC _ _ _ (by simpa using h4) ((k2.trans k3).trans k4)
  ·rw[if_neg hwd]at hC
   have hwf:c.g.word=false:=by simpa using hwd
   simp only[go_sem,c_emit_generator_leave,hw,hc.one,hp.one,w1,eq_false hlast,hfn,hwf,g]
   repeat ((with_reducible refine And.intro ?_ ?_);· first | omega | (simp;omega))
   refine putG_v h (by omega) _ _ _ _ _ _ fun x H3 nx3 h3 k3=>?_
   simp only[go_sem]
   refine putG_v h3 (by simp;omega) _ _ _ _ _ _ fun x H4 nx4 h4 k4=>?_
   simp only[go_sem]
   exact hC _ _ _ (by simpa using h4) (k3.trans k4)
end
set_option maxRecDepth 10000
open Go.V
abbrev sfL (g:SF):List AV:=[I g.params,I g.slots,I g.first,B g.word,.imm 4 (g.code.map siA)]
section
variable {c:Ex} {P:PL} {d:Int} {q:GI} {H:List VObj} {l:List Sy} {en:List Int} {bl:List AV}
theorem clear_v {H0:List VObj} {l0:List Sy} (h:GC c P d q H0 l0 en bl) (hl:l0.length≤800000) (nx0:Nat) (a b:Int) (ha:0≤a∧a≤100000) (hb:a≤b∧b≤100000) (C:AV→List VObj→Nat→Prop)
 (hC:∀ x H' nx',GC c P d q H' (l0++clearE l0.length a b) en bl→KeepT gT H0 H'→C x H' nx'):VCall Try.prog 75 [.ptr q.kG q.sG 0,I a,I b] H0 nx0 C:=by
 refine VCall.of_body hmix f_emit_generator_clear (by simp) ?_
 have w1:IntKind.i64.wrap (b-a)=b-a:=i64_in (by omega) (by omega)
 by_cases h6:b-a≤6
 ·have eC:clearE l0.length a b=zerosE a (b-a).toNat:=if_pos h6
  rw[eC]at hC
  simp only[go_sem,c_emit_generator_clear,w1,eq_true h6]
  refine VW_loop (fun x:LQ=>⟨[(0,.ptr q.kG q.sG 0),(2,I b),(6,I (a+x.j))],x.H,x.nx⟩)
   (fun x=>x.j≤(b-a).toNat∧GC c P d q x.H (l0++zerosE a x.j) en bl∧KeepT gT H0 x.H) (fun x=>(b-a).toNat-x.j) ⟨0,H0,nx0⟩
   (Wk.mk (by simp[get_cons]) ⟨[],by simp⟩ (Nat.le_refl _)) ⟨Nat.zero_le _,by simpa [zerosE] using h,KeepT.refl _ _⟩ ?_
  rintro ⟨j,H,nx⟩ ⟨hj,hg,hkp⟩
  simp only at hj hg hkp
  by_cases hlt:a+(j:Int)<b
  ·have wj:IntKind.i64.wrap (a+(j:Int)+1)=a+((j+1:Nat):Int):=by rw[i64_in (by omega) (by omega)];omega
   simp only[go_sem,eq_true hlt]
   refine putG_v hg (by simp[zerosE];omega) _ _ _ _ _ _ fun x H2 nx2 h2 k2=>?_
   simp only[go_sem,wj]
   exact ⟨⟨j+1,H2,nx2⟩,⟨by simp only;omega,by simp only;rw[zerosE_succ,← List.append_assoc];exact h2,hkp.trans k2⟩,by simp only;omega,Wk.mk (by simp[get_cons]) ⟨[],by simp⟩ (Nat.le_refl _)⟩
  ·obtain rfl:j=(b-a).toNat:=by omega
   simp only[go_sem,eq_false hlt]
   exact hC _ _ _ hg hkp
 ·have eC:clearE l0.length a b=[pY 1 1 0 a,pY 1 2 0 b,pY 17 0 1 0,pY 4 1 1 15,pY 14 3 1 2,pY 20 3 0 ((l0.length+2:Nat):Int)]:=if_neg h6
  rw[eC]at hC
  simp only[go_sem,c_emit_generator_clear,w1,eq_false h6]
  refine putG_v h (by omega) _ _ _ _ _ _ fun x H2 nx2 h2 k2=>?_
  simp only[go_sem]
  refine putG_v h2 (by simp;omega) _ _ _ _ _ _ fun x H3 nx3 h3 k3=>?_
  obtain ⟨cv,pv,hw,⟨kC,sC,rfl,hkC⟩,hp⟩:=h3.w
  have el:(((l0++[pY 1 1 0 a]++[pY 1 2 0 b]).map (·.1)).length:Int)=((l0.length+2:Nat):Int):=by simp
  simp only[go_sem,hw,hkC,hp.one]
  repeat ((with_reducible refine And.intro ?_ ?_);· first | omega | rfl | (simp;omega))
  refine putG_v h3 (by simp;omega) _ _ _ _ _ _ fun x H4 nx4 h4 k4=>?_
  simp only[go_sem]
  refine putG_v h4 (by simp;omega) _ _ _ _ _ _ fun x H5 nx5 h5 k5=>?_
  simp only[go_sem]
  refine putG_v h5 (by simp;omega) _ _ _ _ _ _ fun x H6 nx6 h6' k6=>?_
  simp only[go_sem]
  refine putG_v h6' (by simp;omega) _ _ _ _ _ _ fun x H7 nx7 h7 k7=>?_
  simp only[go_sem]
  exact hC _ _ _ (by simpa using h7) (((((k2.trans k3).trans k4).trans k5).trans k6).trans k7)
theorem call_v {H0:List VObj} {l0:List Sy} (h:GC c P d q H0 l0 en bl) (hk:ExOk P c) (hd:0≤d∧d≤100000) (hl:l0.length≤600000) (nx0:Nat) (x:SI) (hx:0≤x.a∧x.a<c.s.funcs.length) (C:AV→List VObj→Nat→Prop)
 (hC:∀ r H' nx',GC c P d q H' (l0++callE c d x) en bl→KeepT gT H0 H'→C r H' nx'):VCall Try.prog 70 [.ptr q.kG q.sG 0,siA x] H0 nx0 C:=by
 refine VCall.of_body hmix f_emit_generator_call (by simp) ?_
 obtain ⟨cv,pv,hw,hc,hp⟩:=h.w
 have hfn:c.s.funcs.getD x.a.toNat default=c.s.fn x.a.toNat:=rfl
 have n1:=ne_len hw
 have n2:=ne_len' hw
 have l1:=lt_of hw
 obtain ⟨hp0,hps,hf0,hsw,hfs⟩:=hk.fn x.a.toNat (by omega)
 have hw0:=hk.w0
 unfold callE at hC
 have l8:(H0.length+1<H0.length+1+1)=True:=eq_true (by omega)
 have l9:(H0.length<H0.length+1)=True:=eq_true (by omega)
 simp only[go_sem,c_emit_generator_call,hw,hc.one,hp.one,hfn,n1,n2,l1,l8,l9,List.getElem?_set,List.getElem?_append,List.length_set,List.length_append,Nat.lt_irrefl,Nat.sub_self]
 repeat ((with_reducible refine And.intro ?_ ?_);· first | omega | rfl | (simp;omega))
 have hX:(H0++[(⟨nx0,32,1,[I x.op,I x.a,I x.b,U32 x.n]⟩:VObj)]++[⟨nx0+1,29,1,sfL (c.s.fn x.a.toNat)⟩])[H0.length]? = some ⟨nx0,32,1,[I x.op,I x.a,I x.b,U32 x.n]⟩:=ap_old (by simp) _
 have hF:(H0++[(⟨nx0,32,1,[I x.op,I x.a,I x.b,U32 x.n]⟩:VObj)]++[⟨nx0+1,29,1,sfL (c.s.fn x.a.toNat)⟩])[H0.length+1]? = some ⟨nx0+1,29,1,sfL (c.s.fn x.a.toNat)⟩:=ap_new _ _ _
 have hK:KeepT [] H0 (H0++[(⟨nx0,32,1,[I x.op,I x.a,I x.b,U32 x.n]⟩:VObj)]++[⟨nx0+1,29,1,sfL (c.s.fn x.a.toNat)⟩]):=(KeepT.app _ _ _).trans (KeepT.app _ _ _)
 have hW1:=h.keep hK
 generalize hH1:(H0++[(⟨nx0,32,1,[I x.op,I x.a,I x.b,U32 x.n]⟩:VObj)]++[⟨nx0+1,29,1,sfL (c.s.fn x.a.toNat)⟩])=H1 at *
 generalize hg:c.s.fn x.a.toNat=g at *
 refine VW_loop (fun z:LQ=>⟨[(0,.ptr q.kG q.sG 0),(3,.ptr H0.length nx0 0),(4,.ptr (H0.length+1) (nx0+1) 0),(16,I g.params),(17,I z.j)],z.H,z.nx⟩)
  (fun z=>z.j≤g.params.toNat∧GC c P d q z.H (l0++argsE c d g z.j) en bl∧KeepT gT H1 z.H) (fun z=>g.params.toNat-z.j) ⟨0,H1,nx0+1+1⟩
  (Wk.mk (by simp[get_cons]) ⟨[],by simp[← hH1]⟩ (Nat.le_refl _)) ⟨Nat.zero_le _,by simpa [argsE] using hW1,KeepT.refl _ _⟩ ?_
 rintro ⟨j,H,nx⟩ ⟨hj,hg0,hkp⟩
 simp only at hj hg0 hkp
 have hal:=argsE_len c d g j
 have hX':=hkp _ _ hX (by simp)
 have hF':=hkp _ _ hF (by simp)
 by_cases hlt:(j:Int)<g.params
 ·have wj:IntKind.i64.wrap ((j:Int)+1)=((j+1:Nat):Int):=by rw[i64_in (by omega) (by omega)];omega
  have w1:IntKind.i64.wrap (g.params-(j:Int))=g.params-j:=i64_in (by omega) (by omega)
  have w2:IntKind.i64.wrap (g.first+(j:Int))=g.first+j:=i64_in (by omega) (by omega)
  simp only[go_sem,hX',hF',eq_true hlt,w1]
  refine load_v hg0 hk hd (by simp[hal];omega) _ 1 _ (by omega) _ fun r H2 nx2 h2 k2=>?_
  have hF2:=k2 _ _ hF' (by simp)
  simp only[go_sem,hF2,w2]
  refine putG_v h2 (by simp[hal];omega) _ _ _ _ _ _ fun r H3 nx3 h3 k3=>?_
  simp only[go_sem,wj]
  exact ⟨⟨j+1,H3,nx3⟩,⟨by simp only;omega,by simp only;rw[argsE_succ];simpa [argE] using h3,(hkp.trans k2).trans k3⟩,by simp only;omega,Wk.mk (by simp[get_cons]) ⟨[],by simp⟩ (Nat.le_refl _)⟩
 ·obtain rfl:j=g.params.toNat:=by omega
  simp only[go_sem,hX',hF',eq_false hlt]
  refine holeG_v hg0 (by simp[hal];omega) _ _ _ _ _ _ fun r H2 nx2 h2 k2=>?_
  have hF2:=k2 _ _ hF' (by simp)
  have kk:KeepT gT H0 H2:=((hK.mono (by simp)).trans hkp).trans k2
  cases hwd:g.word
  ·rw[hwd]at hC
   simp only[go_sem,hF2,hwd]
   exact hC _ _ _ (by simpa using h2) kk
  ·rw[hwd]at hC
   simp only[go_sem,hF2,hwd]
   refine store_v h2 hk hd (by simp[hal];omega) _ 1 _ (by omega) _ fun r H3 nx3 h3 k3=>?_
   simp only[go_sem]
   exact hC _ _ _ (by simpa using h3) (kk.trans k3)
end
set_option maxRecDepth 10000
open Go.V
abbrev siL (x:SI):List AV:=[I x.op,I x.a,I x.b,U32 x.n]
section
variable {c:Ex} {P:PL} {d:Int} {q:GI} {H:List VObj} {l:List Sy} {en:List Int} {bl:List AV}
theorem mean1_v (h:GC c P d q H l en bl) (hk:ExOk P c) (hd:0≤d∧d≤100000) (hl:l.length≤500000) (nx:Nat) (x:SI) (ho:x.op=1) (hn:In32 x.n) (C:AV→List VObj→Nat→Prop)
 (hC:∀ r H' nx',GC c P d q H' (l++insE c d x) en bl→KeepT gT H H'→C r H' nx'):VCall Try.prog 56 [.ptr q.kG q.sG 0,siA x] H nx C:=by
 refine VCall.of_body hmix f_emit_meanings_1 (by simp) ?_
 have eI:insE c d x=numE 1 x.n++[stE c d 1 0]:=by unfold insE;simp[ho]
 rw[eI]at hC
 have hX:(H++[(⟨nx,32,1,siL x⟩:VObj)])[H.length]? = some ⟨nx,32,1,siL x⟩:=by simp
 have h0:=h.keep (KeepT.app [] H [⟨nx,32,1,siL x⟩])
 have k0:KeepT gT H (H++[(⟨nx,32,1,siL x⟩:VObj)]):=KeepT.app _ _ _
 have l9:(H.length<H.length+1)=True:=eq_true (by omega)
 obtain ⟨cv0,pv0,hw0,hc0,hp0⟩:=h0.w
 simp only[go_sem,c_emit_meanings_1,hX,hw0,hc0.one,hp0.one,l9]
 refine number_v h0 (by omega) _ 1 hn _ fun r H1 nx1 h1 k1=>?_
 have hX1:=k1 _ _ hX (by simp)
 obtain ⟨cv1,pv1,hw1,hc1,hp1⟩:=h1.w
 simp only[go_sem,hX1,hw1,hc1.one,hp1.one]
 refine store_v h1 hk hd (by unfold numE;simp only[List.length_append,List.length_cons];split<;>simp<;>omega) _ 1 0 (by omega) _ fun r H2 nx2 h2 k2=>?_
 simp only[go_sem]
 exact hC _ _ _ (by simpa using h2) ((k0.trans k1).trans k2)
theorem mean2_v (h:GC c P d q H l en bl) (hk:ExOk P c) (hd:0≤d∧d≤100000) (hl:l.length≤500000) (nx:Nat) (x:SI) (ho:x.op=2) (C:AV→List VObj→Nat→Prop)
 (hC:∀ r H' nx',GC c P d q H' (l++insE c d x) en bl→KeepT gT H H'→C r H' nx'):VCall Try.prog 59 [.ptr q.kG q.sG 0,siA x] H nx C:=by
 refine VCall.of_body hmix f_emit_meanings_2 (by simp) ?_
 have eI:insE c d x=[pY 16 1 0 x.a,stE c d 1 0]:=by unfold insE;simp[ho]
 rw[eI]at hC
 have hX:(H++[(⟨nx,32,1,siL x⟩:VObj)])[H.length]? = some ⟨nx,32,1,siL x⟩:=by simp
 have h0:=h.keep (KeepT.app [] H [⟨nx,32,1,siL x⟩])
 have k0:KeepT gT H (H++[(⟨nx,32,1,siL x⟩:VObj)]):=KeepT.app _ _ _
 have l9:(H.length<H.length+1)=True:=eq_true (by omega)
 obtain ⟨cv0,pv0,hw0,hc0,hp0⟩:=h0.w
 simp only[go_sem,c_emit_meanings_2,hX,hw0,hc0.one,hp0.one,l9]
 refine putG_v h0 (by omega) _ _ _ _ _ _ fun r H1 nx1 h1 k1=>?_
 have hX1:=k1 _ _ hX (by simp)
 obtain ⟨cv1,pv1,hw1,hc1,hp1⟩:=h1.w
 simp only[go_sem,hX1,hw1,hc1.one,hp1.one]
 refine store_v h1 hk hd (by simp;omega) _ 1 0 (by omega) _ fun r H2 nx2 h2 k2=>?_
 simp only[go_sem]
 exact hC _ _ _ (by simpa using h2) ((k0.trans k1).trans k2)
theorem mean3_v (h:GC c P d q H l en bl) (hk:ExOk P c) (hd:0≤d∧d≤100000) (hl:l.length≤500000) (nx:Nat) (x:SI) (ho:x.op=3) (C:AV→List VObj→Nat→Prop)
 (hC:∀ r H' nx',GC c P d q H' (l++insE c d x) en bl→KeepT gT H H'→C r H' nx'):VCall Try.prog 60 [.ptr q.kG q.sG 0,siA x] H nx C:=by
 refine VCall.of_body hmix f_emit_meanings_3 (by simp) ?_
 have eI:insE c d x=[ldE c d 1 1,pY 17 1 0 x.a]:=by unfold insE;simp[ho]
 rw[eI]at hC
 have hX:(H++[(⟨nx,32,1,siL x⟩:VObj)])[H.length]? = some ⟨nx,32,1,siL x⟩:=by simp
 have h0:=h.keep (KeepT.app [] H [⟨nx,32,1,siL x⟩])
 have k0:KeepT gT H (H++[(⟨nx,32,1,siL x⟩:VObj)]):=KeepT.app _ _ _
 have l9:(H.length<H.length+1)=True:=eq_true (by omega)
 obtain ⟨cv0,pv0,hw0,hc0,hp0⟩:=h0.w
 simp only[go_sem,c_emit_meanings_3,hX,hw0,hc0.one,hp0.one,l9]
 refine load_v h0 hk hd (by omega) _ 1 1 (by omega) _ fun r H1 nx1 h1 k1=>?_
 have hX1:=k1 _ _ hX (by simp)
 obtain ⟨cv1,pv1,hw1,hc1,hp1⟩:=h1.w
 simp only[go_sem,hX1,hw1,hc1.one,hp1.one]
 refine putG_v h1 (by simp;omega) _ _ _ _ _ _ fun r H2 nx2 h2 k2=>?_
 simp only[go_sem]
 exact hC _ _ _ (by simpa using h2) ((k0.trans k1).trans k2)
theorem mean4_v (h:GC c P d q H l en bl) (hk:ExOk P c) (hd:0≤d∧d≤100000) (hl:l.length≤500000) (nx:Nat) (x:SI) (ho:x.op=4) (C:AV→List VObj→Nat→Prop)
 (hC:∀ r H' nx',GC c P d q H' (l++insE c d x) en bl→KeepT gT H H'→C r H' nx'):VCall Try.prog 62 [.ptr q.kG q.sG 0,siA x] H nx C:=by
 refine VCall.of_body hmix f_emit_meanings_4 (by simp) ?_
 have eI:insE c d x=[ldE c d 1 1,pY 25 1 0 x.b,pY 16 1 1 x.a,stE c d 1 1]:=by unfold insE;simp[ho]
 rw[eI]at hC
 have hX:(H++[(⟨nx,32,1,siL x⟩:VObj)])[H.length]? = some ⟨nx,32,1,siL x⟩:=by simp
 have h0:=h.keep (KeepT.app [] H [⟨nx,32,1,siL x⟩])
 have k0:KeepT gT H (H++[(⟨nx,32,1,siL x⟩:VObj)]):=KeepT.app _ _ _
 have l9:(H.length<H.length+1)=True:=eq_true (by omega)
 obtain ⟨cv0,pv0,hw0,hc0,hp0⟩:=h0.w
 simp only[go_sem,c_emit_meanings_4,hX,hw0,hc0.one,hp0.one,l9]
 refine load_v h0 hk hd (by omega) _ 1 1 (by omega) _ fun r H1 nx1 h1 k1=>?_
 have hX1:=k1 _ _ hX (by simp)
 obtain ⟨cv1,pv1,hw1,hc1,hp1⟩:=h1.w
 simp only[go_sem,hX1,hw1,hc1.one,hp1.one]
 refine putG_v h1 (by simp;omega) _ _ _ _ _ _ fun r H2 nx2 h2 k2=>?_
 have hX2:=k2 _ _ hX1 (by simp)
 obtain ⟨cv2,pv2,hw2,hc2,hp2⟩:=h2.w
 simp only[go_sem,hX2,hw2,hc2.one,hp2.one]
 refine putG_v h2 (by simp;omega) _ _ _ _ _ _ fun r H3 nx3 h3 k3=>?_
 have hX3:=k3 _ _ hX2 (by simp)
 obtain ⟨cv3,pv3,hw3,hc3,hp3⟩:=h3.w
 simp only[go_sem,hX3,hw3,hc3.one,hp3.one]
 refine store_v h3 hk hd (by simp;omega) _ 1 1 (by omega) _ fun r H4 nx4 h4 k4=>?_
 simp only[go_sem]
 exact hC _ _ _ (by simpa using h4) ((((k0.trans k1).trans k2).trans k3).trans k4)
theorem mean5_v (h:GC c P d q H l en bl) (hk:ExOk P c) (hd:0≤d∧d≤100000) (hl:l.length≤500000) (nx:Nat) (x:SI) (ho:x.op=5) (C:AV→List VObj→Nat→Prop)
 (hC:∀ r H' nx',GC c P d q H' (l++insE c d x) en bl→KeepT gT H H'→C r H' nx'):VCall Try.prog 63 [.ptr q.kG q.sG 0,siA x] H nx C:=by
 refine VCall.of_body hmix f_emit_meanings_5 (by simp) ?_
 have eI:insE c d x=[ldE c d 1 2,pY 25 1 0 x.b,ldE c d 2 1,pY 17 2 1 x.a]:=by unfold insE;simp[ho]
 rw[eI]at hC
 have hX:(H++[(⟨nx,32,1,siL x⟩:VObj)])[H.length]? = some ⟨nx,32,1,siL x⟩:=by simp
 have h0:=h.keep (KeepT.app [] H [⟨nx,32,1,siL x⟩])
 have k0:KeepT gT H (H++[(⟨nx,32,1,siL x⟩:VObj)]):=KeepT.app _ _ _
 have l9:(H.length<H.length+1)=True:=eq_true (by omega)
 obtain ⟨cv0,pv0,hw0,hc0,hp0⟩:=h0.w
 simp only[go_sem,c_emit_meanings_5,hX,hw0,hc0.one,hp0.one,l9]
 refine load_v h0 hk hd (by omega) _ 1 2 (by omega) _ fun r H1 nx1 h1 k1=>?_
 have hX1:=k1 _ _ hX (by simp)
 obtain ⟨cv1,pv1,hw1,hc1,hp1⟩:=h1.w
 simp only[go_sem,hX1,hw1,hc1.one,hp1.one]
 refine putG_v h1 (by simp;omega) _ _ _ _ _ _ fun r H2 nx2 h2 k2=>?_
 have hX2:=k2 _ _ hX1 (by simp)
 obtain ⟨cv2,pv2,hw2,hc2,hp2⟩:=h2.w
 simp only[go_sem,hX2,hw2,hc2.one,hp2.one]
 refine load_v h2 hk hd (by simp;omega) _ 2 1 (by omega) _ fun r H3 nx3 h3 k3=>?_
 have hX3:=k3 _ _ hX2 (by simp)
 obtain ⟨cv3,pv3,hw3,hc3,hp3⟩:=h3.w
 simp only[go_sem,hX3,hw3,hc3.one,hp3.one]
 refine putG_v h3 (by simp;omega) _ _ _ _ _ _ fun r H4 nx4 h4 k4=>?_
 simp only[go_sem]
 exact hC _ _ _ (by simpa using h4) ((((k0.trans k1).trans k2).trans k3).trans k4)
theorem mean6_v (h:GC c P d q H l en bl) (hk:ExOk P c) (hd:0≤d∧d≤100000) (hl:l.length≤500000) (nx:Nat) (x:SI) (ho:x.op=6) (C:AV→List VObj→Nat→Prop)
 (hC:∀ r H' nx',GC c P d q H' (l++insE c d x) en bl→KeepT gT H H'→C r H' nx'):VCall Try.prog 64 [.ptr q.kG q.sG 0,siA x] H nx C:=by
 refine VCall.of_body hmix f_emit_meanings_6 (by simp) ?_
 have eI:insE c d x=[ldE c d 1 2,ldE c d 2 1,pY x.a 1 1 2,stE c d 1 2]:=by unfold insE;simp[ho]
 rw[eI]at hC
 have hX:(H++[(⟨nx,32,1,siL x⟩:VObj)])[H.length]? = some ⟨nx,32,1,siL x⟩:=by simp
 have h0:=h.keep (KeepT.app [] H [⟨nx,32,1,siL x⟩])
 have k0:KeepT gT H (H++[(⟨nx,32,1,siL x⟩:VObj)]):=KeepT.app _ _ _
 have l9:(H.length<H.length+1)=True:=eq_true (by omega)
 obtain ⟨cv0,pv0,hw0,hc0,hp0⟩:=h0.w
 simp only[go_sem,c_emit_meanings_6,hX,hw0,hc0.one,hp0.one,l9]
 refine load_v h0 hk hd (by omega) _ 1 2 (by omega) _ fun r H1 nx1 h1 k1=>?_
 have hX1:=k1 _ _ hX (by simp)
 obtain ⟨cv1,pv1,hw1,hc1,hp1⟩:=h1.w
 simp only[go_sem,hX1,hw1,hc1.one,hp1.one]
 refine load_v h1 hk hd (by simp;omega) _ 2 1 (by omega) _ fun r H2 nx2 h2 k2=>?_
 have hX2:=k2 _ _ hX1 (by simp)
 obtain ⟨cv2,pv2,hw2,hc2,hp2⟩:=h2.w
 simp only[go_sem,hX2,hw2,hc2.one,hp2.one]
 refine putG_v h2 (by simp;omega) _ _ _ _ _ _ fun r H3 nx3 h3 k3=>?_
 have hX3:=k3 _ _ hX2 (by simp)
 obtain ⟨cv3,pv3,hw3,hc3,hp3⟩:=h3.w
 simp only[go_sem,hX3,hw3,hc3.one,hp3.one]
 refine store_v h3 hk hd (by simp;omega) _ 1 2 (by omega) _ fun r H4 nx4 h4 k4=>?_
 simp only[go_sem]
 exact hC _ _ _ (by simpa using h4) ((((k0.trans k1).trans k2).trans k3).trans k4)
theorem mean7_v (h:GC c P d q H l en bl) (hk:ExOk P c) (hd:0≤d∧d≤100000) (hl:l.length≤500000) (nx:Nat) (x:SI) (ho:x.op=7) (C:AV→List VObj→Nat→Prop)
 (hC:∀ r H' nx',GC c P d q H' (l++insE c d x) en bl→KeepT gT H H'→C r H' nx'):VCall Try.prog 65 [.ptr q.kG q.sG 0,siA x] H nx C:=by
 refine VCall.of_body hmix f_emit_meanings_7 (by simp) ?_
 have eI:insE c d x=[ldE c d 1 1,pY 15 1 1 0,stE c d 1 1]:=by unfold insE;simp[ho]
 rw[eI]at hC
 have hX:(H++[(⟨nx,32,1,siL x⟩:VObj)])[H.length]? = some ⟨nx,32,1,siL x⟩:=by simp
 have h0:=h.keep (KeepT.app [] H [⟨nx,32,1,siL x⟩])
 have k0:KeepT gT H (H++[(⟨nx,32,1,siL x⟩:VObj)]):=KeepT.app _ _ _
 have l9:(H.length<H.length+1)=True:=eq_true (by omega)
 obtain ⟨cv0,pv0,hw0,hc0,hp0⟩:=h0.w
 simp only[go_sem,c_emit_meanings_7,hX,hw0,hc0.one,hp0.one,l9]
 refine load_v h0 hk hd (by omega) _ 1 1 (by omega) _ fun r H1 nx1 h1 k1=>?_
 have hX1:=k1 _ _ hX (by simp)
 obtain ⟨cv1,pv1,hw1,hc1,hp1⟩:=h1.w
 simp only[go_sem,hX1,hw1,hc1.one,hp1.one]
 refine putG_v h1 (by simp;omega) _ _ _ _ _ _ fun r H2 nx2 h2 k2=>?_
 have hX2:=k2 _ _ hX1 (by simp)
 obtain ⟨cv2,pv2,hw2,hc2,hp2⟩:=h2.w
 simp only[go_sem,hX2,hw2,hc2.one,hp2.one]
 refine store_v h2 hk hd (by simp;omega) _ 1 1 (by omega) _ fun r H3 nx3 h3 k3=>?_
 simp only[go_sem]
 exact hC _ _ _ (by simpa using h3) (((k0.trans k1).trans k2).trans k3)
theorem mean8_v (h:GC c P d q H l en bl) (hk:ExOk P c) (hd:0≤d∧d≤100000) (hl:l.length≤500000) (nx:Nat) (x:SI) (ho:x.op=8) (C:AV→List VObj→Nat→Prop)
 (hC:∀ r H' nx',GC c P d q H' (l++insE c d x) en bl→KeepT gT H H'→C r H' nx'):VCall Try.prog 66 [.ptr q.kG q.sG 0,siA x] H nx C:=by
 refine VCall.of_body hmix f_emit_meanings_8 (by simp) ?_
 have eI:insE c d x=[jY 18 0 c.fn x.a]:=by unfold insE;simp[ho]
 rw[eI]at hC
 have hX:(H++[(⟨nx,32,1,siL x⟩:VObj)])[H.length]? = some ⟨nx,32,1,siL x⟩:=by simp
 have h0:=h.keep (KeepT.app [] H [⟨nx,32,1,siL x⟩])
 have k0:KeepT gT H (H++[(⟨nx,32,1,siL x⟩:VObj)]):=KeepT.app _ _ _
 have l9:(H.length<H.length+1)=True:=eq_true (by omega)
 obtain ⟨cv0,pv0,hw0,hc0,hp0⟩:=h0.w
 simp only[go_sem,c_emit_meanings_8,hX,hw0,hc0.one,hp0.one,l9]
 refine holeG_v h0 (by omega) _ _ _ _ _ _ fun r H1 nx1 h1 k1=>?_
 simp only[go_sem]
 exact hC _ _ _ (by simpa using h1) (k0.trans k1)
theorem mean9_v (h:GC c P d q H l en bl) (hk:ExOk P c) (hd:0≤d∧d≤100000) (hl:l.length≤500000) (nx:Nat) (x:SI) (ho:x.op=9) (C:AV→List VObj→Nat→Prop)
 (hC:∀ r H' nx',GC c P d q H' (l++insE c d x) en bl→KeepT gT H H'→C r H' nx'):VCall Try.prog 68 [.ptr q.kG q.sG 0,siA x] H nx C:=by
 refine VCall.of_body hmix f_emit_meanings_9 (by simp) ?_
 have eI:insE c d x=[ldE c d 1 1,jY 19 1 c.fn x.a]:=by unfold insE;simp[ho]
 rw[eI]at hC
 have hX:(H++[(⟨nx,32,1,siL x⟩:VObj)])[H.length]? = some ⟨nx,32,1,siL x⟩:=by simp
 have h0:=h.keep (KeepT.app [] H [⟨nx,32,1,siL x⟩])
 have k0:KeepT gT H (H++[(⟨nx,32,1,siL x⟩:VObj)]):=KeepT.app _ _ _
 have l9:(H.length<H.length+1)=True:=eq_true (by omega)
 obtain ⟨cv0,pv0,hw0,hc0,hp0⟩:=h0.w
 simp only[go_sem,c_emit_meanings_9,hX,hw0,hc0.one,hp0.one,l9]
 refine load_v h0 hk hd (by omega) _ 1 1 (by omega) _ fun r H1 nx1 h1 k1=>?_
 have hX1:=k1 _ _ hX (by simp)
 obtain ⟨cv1,pv1,hw1,hc1,hp1⟩:=h1.w
 simp only[go_sem,hX1,hw1,hc1.one,hp1.one]
 refine holeG_v h1 (by simp;omega) _ _ _ _ _ _ fun r H2 nx2 h2 k2=>?_
 simp only[go_sem]
 exact hC _ _ _ (by simpa using h2) ((k0.trans k1).trans k2)
theorem mean10_v (h:GC c P d q H l en bl) (hk:ExOk P c) (hd:0≤d∧d≤100000) (hl:l.length≤500000) (nx:Nat) (x:SI) (ho:x.op=10) (hx:0≤x.a∧x.a<c.s.funcs.length) (C:AV→List VObj→Nat→Prop)
 (hC:∀ r H' nx',GC c P d q H' (l++insE c d x) en bl→KeepT gT H H'→C r H' nx'):VCall Try.prog 69 [.ptr q.kG q.sG 0,siA x] H nx C:=by
 refine VCall.of_body hmix f_emit_meanings_10 (by simp) ?_
 have eI:insE c d x=callE c d x:=by unfold insE;simp[ho]
 rw[eI]at hC
 have hX:(H++[(⟨nx,32,1,siL x⟩:VObj)])[H.length]? = some ⟨nx,32,1,siL x⟩:=by simp
 have h0:=h.keep (KeepT.app [] H [⟨nx,32,1,siL x⟩])
 have k0:KeepT gT H (H++[(⟨nx,32,1,siL x⟩:VObj)]):=KeepT.app _ _ _
 have l9:(H.length<H.length+1)=True:=eq_true (by omega)
 obtain ⟨cv0,pv0,hw0,hc0,hp0⟩:=h0.w
 simp only[go_sem,c_emit_meanings_10,hX,hw0,hc0.one,hp0.one,l9]
 refine call_v h0 hk hd (by omega) _ x hx _ fun r H1 nx1 h1 k1=>?_
 simp only[go_sem]
 exact hC _ _ _ (by simpa using h1) (k0.trans k1)
theorem mean11_v (h:GC c P d q H l en bl) (hk:ExOk P c) (hd:0≤d∧d≤100000) (hl:l.length≤500000) (nx:Nat) (x:SI) (ho:x.op=11) (C:AV→List VObj→Nat→Prop)
 (hC:∀ r H' nx',GC c P d q H' (l++insE c d x) en bl→KeepT gT H H'→C r H' nx'):VCall Try.prog 71 [.ptr q.kG q.sG 0,siA x] H nx C:=by
 refine VCall.of_body hmix f_emit_meanings_11 (by simp) ?_
 have eI:insE c d x=leaveE c d:=by unfold insE;simp[ho]
 rw[eI]at hC
 have hX:(H++[(⟨nx,32,1,siL x⟩:VObj)])[H.length]? = some ⟨nx,32,1,siL x⟩:=by simp
 have h0:=h.keep (KeepT.app [] H [⟨nx,32,1,siL x⟩])
 have k0:KeepT gT H (H++[(⟨nx,32,1,siL x⟩:VObj)]):=KeepT.app _ _ _
 have l9:(H.length<H.length+1)=True:=eq_true (by omega)
 obtain ⟨cv0,pv0,hw0,hc0,hp0⟩:=h0.w
 simp only[go_sem,c_emit_meanings_11,hX,hw0,hc0.one,hp0.one,l9]
 refine leave_v h0 hk hd (by omega) _ _ fun r H1 nx1 h1 k1=>?_
 simp only[go_sem]
 exact hC _ _ _ (by simpa using h1) (k0.trans k1)
theorem mean12_v (h:GC c P d q H l en bl) (hk:ExOk P c) (hd:0≤d∧d≤100000) (hl:l.length≤500000) (nx:Nat) (x:SI) (ho:x.op=12) (C:AV→List VObj→Nat→Prop)
 (hC:∀ r H' nx',GC c P d q H' (l++insE c d x) en bl→KeepT gT H H'→C r H' nx'):VCall Try.prog 73 [.ptr q.kG q.sG 0,siA x] H nx C:=by
 refine VCall.of_body hmix f_emit_meanings_12 (by simp) ?_
 have eI:insE c d x=[pY 23 1 0 0,stE c d 1 0]:=by unfold insE;simp[ho]
 rw[eI]at hC
 have hX:(H++[(⟨nx,32,1,siL x⟩:VObj)])[H.length]? = some ⟨nx,32,1,siL x⟩:=by simp
 have h0:=h.keep (KeepT.app [] H [⟨nx,32,1,siL x⟩])
 have k0:KeepT gT H (H++[(⟨nx,32,1,siL x⟩:VObj)]):=KeepT.app _ _ _
 have l9:(H.length<H.length+1)=True:=eq_true (by omega)
 obtain ⟨cv0,pv0,hw0,hc0,hp0⟩:=h0.w
 simp only[go_sem,c_emit_meanings_12,hX,hw0,hc0.one,hp0.one,l9]
 refine putG_v h0 (by omega) _ _ _ _ _ _ fun r H1 nx1 h1 k1=>?_
 have hX1:=k1 _ _ hX (by simp)
 obtain ⟨cv1,pv1,hw1,hc1,hp1⟩:=h1.w
 simp only[go_sem,hX1,hw1,hc1.one,hp1.one]
 refine store_v h1 hk hd (by simp;omega) _ 1 0 (by omega) _ fun r H2 nx2 h2 k2=>?_
 simp only[go_sem]
 exact hC _ _ _ (by simpa using h2) ((k0.trans k1).trans k2)
theorem mean13_v (h:GC c P d q H l en bl) (hk:ExOk P c) (hd:0≤d∧d≤100000) (hl:l.length≤500000) (nx:Nat) (x:SI) (ho:x.op=13) (C:AV→List VObj→Nat→Prop)
 (hC:∀ r H' nx',GC c P d q H' (l++insE c d x) en bl→KeepT gT H H'→C r H' nx'):VCall Try.prog 74 [.ptr q.kG q.sG 0,siA x] H nx C:=by
 refine VCall.of_body hmix f_emit_meanings_13 (by simp) ?_
 have eI:insE c d x=[ldE c d 1 1,pY 24 1 0 0]:=by unfold insE;simp[ho]
 rw[eI]at hC
 have hX:(H++[(⟨nx,32,1,siL x⟩:VObj)])[H.length]? = some ⟨nx,32,1,siL x⟩:=by simp
 have h0:=h.keep (KeepT.app [] H [⟨nx,32,1,siL x⟩])
 have k0:KeepT gT H (H++[(⟨nx,32,1,siL x⟩:VObj)]):=KeepT.app _ _ _
 have l9:(H.length<H.length+1)=True:=eq_true (by omega)
 obtain ⟨cv0,pv0,hw0,hc0,hp0⟩:=h0.w
 simp only[go_sem,c_emit_meanings_13,hX,hw0,hc0.one,hp0.one,l9]
 refine load_v h0 hk hd (by omega) _ 1 1 (by omega) _ fun r H1 nx1 h1 k1=>?_
 have hX1:=k1 _ _ hX (by simp)
 obtain ⟨cv1,pv1,hw1,hc1,hp1⟩:=h1.w
 simp only[go_sem,hX1,hw1,hc1.one,hp1.one]
 refine putG_v h1 (by simp;omega) _ _ _ _ _ _ fun r H2 nx2 h2 k2=>?_
 simp only[go_sem]
 exact hC _ _ _ (by simpa using h2) ((k0.trans k1).trans k2)
end
set_option maxRecDepth 10000
open Go.V
def meanC:List AV:=[.val (.int .i64 1),.fn 56 [],.val (.int .i64 2),.fn 59 [],.val (.int .i64 3),.fn 60 [],.val (.int .i64 4),.fn 62 [],.val (.int .i64 5),.fn 63 [],.val (.int .i64 6),.fn 64 [],.val (.int .i64 7),.fn 65 [],.val (.int .i64 8),.fn 66 [],.val (.int .i64 9),.fn 68 [],.val (.int .i64 10),.fn 69 [],.val (.int .i64 11),.fn 71 [],.val (.int .i64 12),.fn 73 [],.val (.int .i64 13),.fn 74 []]
def meanF (op:Int):Nat:=if op=1 then 56 else if op=2 then 59 else if op=3 then 60 else if op=4 then 62 else if op=5 then 63 else if op=6 then 64 else if op=7 then 65 else if op=8 then 66 else if op=9 then 68 else if op=10 then 69 else if op=11 then 71 else if op=12 then 73 else 74
theorem meanings_v (H:List VObj) (nx:Nat) (C:AV→List VObj→Nat→Prop) (hC:C (.mref H.length nx) (H++[⟨nx,0,0,meanC⟩]) (nx+1)) :
 VCall Try.prog 40 [] H nx C:=by
 refine VCall.of_body hmix f_emit_meanings (by simp) ?_
 have l9:(H.length<H.length+1)=True:=eq_true (by omega)
 have eg:∀ x:VObj,(H++[x])[H.length]? = some x:=fun x=>by simp
 have es:∀ x y:VObj,(H++[x]).set H.length y=H++[y]:=fun x y=>by simp
 simp only[go_sem,c_emit_meanings,l9,eg,es]
 iterate 11 (refine ⟨mapOKb_ok rfl,?_⟩)
 exact hC
theorem look_mean {op:Int} (h1:1≤op) (h2:op≤13) {C:Option AV→Prop} (h:C (some (.fn (meanF op) []))):lookT (.int .i64 op) meanC C .mk:=by
 have hc:op=1∨op=2∨op=3∨op=4∨op=5∨op=6∨op=7∨op=8∨op=9∨op=10∨op=11∨op=12∨op=13:=by omega
 unfold meanC
 simp only[lookT_cons,lookT_nil]
 rcases hc with rfl | rfl | rfl | rfl | rfl | rfl | rfl | rfl | rfl | rfl | rfl | rfl | rfl<;>simpa [meanF] using h
section
variable {c:Ex} {P:PL} {d:Int} {q:GI} {H:List VObj} {l:List Sy} {en:List Int} {bl:List AV}
theorem mean_v (h:GC c P d q H l en bl) (hk:ExOk P c) (hd:0≤d∧d≤100000) (hl:l.length≤500000) (nx:Nat) (x:SI) (h1:1≤x.op) (h2:x.op≤13) (hn:In32 x.n) (hx:x.op=10→0≤x.a∧x.a<c.s.funcs.length) (C:AV→List VObj→Nat→Prop)
 (hC:∀ r H' nx',GC c P d q H' (l++insE c d x) en bl→KeepT gT H H'→C r H' nx'):VCall Try.prog (meanF x.op) [.ptr q.kG q.sG 0,siA x] H nx C:=by
 have hc:x.op=1∨x.op=2∨x.op=3∨x.op=4∨x.op=5∨x.op=6∨x.op=7∨x.op=8∨x.op=9∨x.op=10∨x.op=11∨x.op=12∨x.op=13:=by omega
 rcases hc with e | e | e | e | e | e | e | e | e | e | e | e | e
 ·rw[show meanF x.op=56 by rw[e];rfl];exact mean1_v h hk hd hl nx x e hn C hC
 ·rw[show meanF x.op=59 by rw[e];rfl];exact mean2_v h hk hd hl nx x e C hC
 ·rw[show meanF x.op=60 by rw[e];rfl];exact mean3_v h hk hd hl nx x e C hC
 ·rw[show meanF x.op=62 by rw[e];rfl];exact mean4_v h hk hd hl nx x e C hC
 ·rw[show meanF x.op=63 by rw[e];rfl];exact mean5_v h hk hd hl nx x e C hC
 ·rw[show meanF x.op=64 by rw[e];rfl];exact mean6_v h hk hd hl nx x e C hC
 ·rw[show meanF x.op=65 by rw[e];rfl];exact mean7_v h hk hd hl nx x e C hC
 ·rw[show meanF x.op=66 by rw[e];rfl];exact mean8_v h hk hd hl nx x e C hC
 ·rw[show meanF x.op=68 by rw[e];rfl];exact mean9_v h hk hd hl nx x e C hC
 ·rw[show meanF x.op=69 by rw[e];rfl];exact mean10_v h hk hd hl nx x e (hx e) C hC
 ·rw[show meanF x.op=71 by rw[e];rfl];exact mean11_v h hk hd hl nx x e C hC
 ·rw[show meanF x.op=73 by rw[e];rfl];exact mean12_v h hk hd hl nx x e C hC
 ·rw[show meanF x.op=74 by rw[e];rfl];exact mean13_v h hk hd hl nx x e C hC
end
set_option maxRecDepth 10000
open Go.V
def tailC:Nat→VC→VC
 | n+1,.seq _ y=>tailC n y
 | _,c=>c
structure FOk (c:Ex):Prop where
 dl:c.dl.length=c.g.code.length
 dv:∀ i<c.dl.length,-1≤c.dl.getD i (-1)∧c.dl.getD i (-1)≤100000
 ins:∀ i<c.g.code.length,FitsP c.s c.fn (c.g.code.getD i default)∧In32 (c.g.code.getD i default).n
 lt:c.g.code.length≤100000
 len:∀ k,(restE c 0 (c.g.code.take k)).length≤300000
structure LQD where
 j:Nat
 H:List VObj
 nx:Nat
 d:Int
theorem FitsP.op {s:SP} {f:Nat} {x:SI} (h:FitsP s f x):1≤x.op∧x.op≤13∧(x.op=10→0≤x.a∧x.a<(f:Int)):=by
 obtain ⟨_,_,h3⟩:=h
 omega
theorem GH.setD {s:SP} {P:PL} {f d f' d':Int} {q:GI} {H:List VObj} {code:List Ci} {sp:List Sp} {en:List Int} {bl:List AV} (h:GH s P f d q H code sp en bl) {cv hv:AV} (hw:H[q.kG]? = some ⟨q.sG,83,1,genL s P q cv hv f d⟩) :
 GH s P f' d' q (H.set q.kG ⟨q.sG,83,1,genL s P q cv hv f' d'⟩) code sp en bl:=by
 obtain ⟨cv',pv',hw',⟨k1,s1,e1,hc⟩,⟨k2,s2,e2,hp⟩⟩:=h.w
 rw[hw]at hw'
 simp only[Option.some.injEq,VObj.mk.injEq,List.cons.injEq,true_and,and_true]at hw'
 obtain ⟨rfl,rfl⟩:=hw'
 have t:∀ {i:Nat} {ob:VObj} {o:VObj},H[i]? = some ob→ob.ty≠83→(H.set q.kG o)[i]? = some ob:=fun {i ob o} h1 h2=>by
  rw[set_ne (fun e=>by subst e;rw[hw]at h1;cases h1;exact h2 rfl)];exact h1
 exact ⟨⟨cv,hv,set_get hw,⟨k1,s1,e1,t hc (by simp)⟩,⟨k2,s2,e2,t hp (by simp)⟩⟩,t h.e (by simp),t h.b (by simp)⟩
theorem GH.keepR {s:SP} {P:PL} {f d:Int} {q:GI} {H:List VObj} {code:List Ci} {sp:List Sp} {en:List Int} {bl:List AV} (h:GH s P f d q H code sp en bl) {k:Nat} {o:VObj} {s0:Nat} {cs:List AV} (ho:H[k]? = some ⟨s0,3,1,cs⟩) (hE:k≠q.kE):GH s P f d q (H.set k o) code sp en bl:=by
 obtain ⟨cv,pv,hw,hc,hp⟩:=h.w
 have t:∀ {i:Nat} {ob:VObj},H[i]? = some ob→ob.ty≠3→(H.set k o)[i]? = some ob:=fun {i ob} h1 h2=>by
  rw[set_ne (fun e=>by subst e;rw[ho]at h1;cases h1;exact h2 rfl)];exact h1
 have cvk:∀ {ty sz:Nat} {v:AV} {xs:List AV} {n:Nat},CV H ty sz v xs n→ty≠3→CV (H.set k o) ty sz v xs n:=fun {ty sz v xs n} h1 h2=>by
  obtain ⟨i,s,e1,e2⟩:=h1
  exact ⟨i,s,e1,t e2 h2⟩
 exact ⟨⟨cv,pv,t hw (by simp),cvk hc (by decide),cvk hp (by decide)⟩,by rw[set_ne hE];exact h.e,t h.b (by simp)⟩
set_option maxHeartbeats 1000000 in
theorem fun_E {c:Ex} {P:PL} {d0:Int} {q:GI} {H0:List VObj} {l0:List Sy} {en:List Int} {bl:List AV} (h:GC c P d0 q H0 l0 en bl) (hk:ExOk P c) (hf:FOk c) (hl:l0.length≤100000) {kr sr kF sF kM sM:Nat} (hbl:bl.getD c.fn .dead = .ref kr sr 0 c.g.code.length) (hbn:c.fn<bl.length)
 (hr:H0[kr]? = some ⟨sr,3,1,(rowE c l0.length 0).map I⟩) (hE:kr≠q.kE) (hF:H0[kF]? = some ⟨sF,29,1,sfL c.g⟩) (hM:H0[kM]? = some ⟨sM,0,0,meanC⟩) (nx0:Nat) (C:AV→List VObj→Nat→Prop)
 (hC:∀ r H' nx' d,GC c P d q H' (l0++restE c 0 c.g.code) en bl→H'[kr]? = some ⟨sr,3,1,(rowE c l0.length c.g.code.length).map I⟩→KeepR gT kr H0 H'→C r H' nx') :
 VWs Try.prog (tailC 5 c_emit_generator_function) (retQ Try.prog [] C) ⟨[(0,.ptr q.kG q.sG 0),(1,I c.fn),(2,.mref kM sM),(6,.ptr kF sF 0)],H0,nx0⟩:=by
 have hfl:=hk.fl
 obtain ⟨hdl,hdv,hins,hlt0,hlen⟩:=hf
 have hst:∀ j,j<c.g.code.length→restE c 0 (c.g.code.take (j+1))=restE c 0 (c.g.code.take j)++atE c j (c.g.code.getD j default):=fun j hj=>by
  have e:c.g.code.take (j+1)=c.g.code.take j++[c.g.code.getD j default]:=by rw[List.take_add_one];simp[List.getD,List.getElem?_eq_getElem hj]
  rw[e,restE_snoc];simp[Nat.min_eq_left (Nat.le_of_lt hj)]
 simp only[tailC,c_emit_generator_function,go_sem,VWs_seq,VWs_ret,VWs_ops,VWs_cond,hF]
 refine ⟨_,Wk.refl _,?_⟩
 show VW Try.prog (.block 0 _) _ _
 simp only[go_sem]
 refine VW_loop (fun x:LQD=>⟨[(0,.ptr q.kG q.sG 0),(1,I c.fn),(2,.mref kM sM),(74,.imm 4 (c.g.code.map siA)),(75,I c.g.code.length),(76,I x.j)],x.H,x.nx⟩)
  (fun x=>x.j≤c.g.code.length∧GC c P x.d q x.H (l0++restE c 0 (c.g.code.take x.j)) en bl∧x.H[kr]? = some ⟨sr,3,1,(rowE c l0.length x.j).map I⟩∧KeepR gT kr H0 x.H) (fun x=>c.g.code.length-x.j) ⟨0,H0,nx0,d0⟩
  (Wk.mk (by simp[get_cons]) ⟨[],by simp⟩ (Nat.le_refl _)) ⟨Nat.zero_le _,by simpa [restE] using h,hr,KeepR.refl _ _ _⟩ ?_
 rintro ⟨j,H,nx,d⟩ ⟨hj,hw0,hrow,hkeep⟩
 simp only at hj hw0 hrow hkeep
 have hrk:kr<H.length:=(List.getElem?_eq_some_iff.1 hrow).1
 have hMr:kM≠kr:=fun e=>by rw[e,hr]at hM;simp at hM
 have hMH:=hkeep _ _ hM (by simp) hMr
 by_cases hlt:j<c.g.code.length
 ·obtain ⟨hfit,hn32⟩:=hins j hlt
  obtain ⟨ho1,ho2,ho10⟩:=hfit.op
  have hb1:=hlen j
  have hstj:=hst j hlt
  have hdj:=hdv j (by omega)
  have hdd:c.dl.getD j default=c.dl.getD j (-1):=by simp[List.getD,List.getElem?_eq_getElem (show j<c.dl.length by omega)]
  obtain ⟨cv,pv,hw,⟨k2,s2,rfl,hk2⟩,hp⟩:=hw0.w
  have ecl:((l0++restE c 0 (c.g.code.take j)).map (·.1)).length=l0.length+(restE c 0 (c.g.code.take j)).length:=by simp
  rw[ecl]at hw
  have hbb:=hw0.b
  have n1:=ne_len hw
  have n2:=ne_len hbb
  have n3:(H.length=kr)=False:=eq_false (by omega)
  have l1:=eq_true (show q.kG<H.length+1 by have:=(List.getElem?_eq_some_iff.1 hw).1;omega)
  have l2:=eq_true (show q.kB<H.length+1 by have:=(List.getElem?_eq_some_iff.1 hbb).1;omega)
  have l3:=eq_true (show kr<H.length+1 by omega)
  have n5:=ne_len hk2
  have n6:(kr=H.length)=False:=eq_false (by omega)
  have l4:=lt_of hk2
  have l5:(H.length<H.length+1)=True:=eq_true (by omega)
  have es:∀ x y:VObj,(H++[x]).set H.length y=H++[y]:=fun x y=>by simp
  have hset:((rowE c l0.length j).map I).set j (I ((l0.length+(restE c 0 (c.g.code.take j)).length:Nat):Int))=(rowE c l0.length (j+1)).map I:=by
   rw[← rowE_set c _ hlt,List.map_set]
  have o1:=ty_ne hrow hw (by simp)
  have o2:=ty_ne hrow hbb (by simp)
  have o3:=ty_ne hw hrow (by simp)
  have hcell:∀ {C:AV→Prop},cellT bl c.fn false 1 C .mk=C (.ref kr sr 0 c.g.code.length):=fun {C}=>cellT_at hbn rfl hbl
  have hdp:=hk.dp
  have hdl2:=hk.dpl
  have n7:(q.kG=H.length)=False:=eq_false (by have:=(List.getElem?_eq_some_iff.1 hw).1;omega)
  have m1:(kr=kM)=False:=eq_false (fun e=>hMr e.symm)
  have m2:=ty_ne hw hMH (by simp)
  have m3:=lt_of hMH
  have m4:(kM<H.length+1)=True:=eq_true (by have:=(List.getElem?_eq_some_iff.1 hMH).1;omega)
  have lB:=lt_of hbb
  have lW:=lt_of hw
  have lR:=eq_true hrk
  generalize hg:c.g.code.getD j default=g at *
  have eX:(H++[(⟨nx,32,1,siL g⟩:VObj)])[kr]? = some ⟨sr,3,1,(rowE c l0.length j).map I⟩:=ap_old hrow _
  have hG0:((H++[(⟨nx,32,1,siL g⟩:VObj)]).set kr ⟨sr,3,1,(rowE c l0.length (j+1)).map I⟩)[q.kG]? = some ⟨q.sG,83,1,genL c.s P q (.ref k2 s2 0 (l0.length+(restE c 0 (c.g.code.take j)).length)) pv c.fn d⟩:=by
   rw[set_ne (by have:=of_eq_false o1;omega)];exact ap_old hw _
  have hWX:GC c P (c.dl.getD j (-1)) q (((H++[(⟨nx,32,1,siL g⟩:VObj)]).set kr ⟨sr,3,1,(rowE c l0.length (j+1)).map I⟩).set q.kG ⟨q.sG,83,1,genL c.s P q (.ref k2 s2 0 (l0.length+(restE c 0 (c.g.code.take j)).length)) pv c.fn (c.dl.getD j (-1))⟩) (l0++restE c 0 (c.g.code.take j)) en bl :=
   ((hw0.keep (KeepT.app _ _ _)).keepR eX hE).setD hG0
  have hRX:(((H++[(⟨nx,32,1,siL g⟩:VObj)]).set kr ⟨sr,3,1,(rowE c l0.length (j+1)).map I⟩).set q.kG ⟨q.sG,83,1,genL c.s P q (.ref k2 s2 0 (l0.length+(restE c 0 (c.g.code.take j)).length)) pv c.fn (c.dl.getD j (-1))⟩)[kr]? = some ⟨sr,3,1,(rowE c l0.length (j+1)).map I⟩:=by
   rw[set_ne (by have:=of_eq_false o3;omega)];exact set_get eX
  have hKX:KeepR gT kr H (((H++[(⟨nx,32,1,siL g⟩:VObj)]).set kr ⟨sr,3,1,(rowE c l0.length (j+1)).map I⟩).set q.kG ⟨q.sG,83,1,genL c.s P q (.ref k2 s2 0 (l0.length+(restE c 0 (c.g.code.take j)).length)) pv c.fn (c.dl.getD j (-1))⟩) :=
   ((KeepR.of (KeepT.app _ _ _)).trans (KeepR.set _ _ _ _)).trans (KeepR.of (KeepT.set hG0 (by simp)))
  have hBX:(((H++[(⟨nx,32,1,siL g⟩:VObj)]).set kr ⟨sr,3,1,(rowE c l0.length (j+1)).map I⟩).set q.kG ⟨q.sG,83,1,genL c.s P q (.ref k2 s2 0 (l0.length+(restE c 0 (c.g.code.take j)).length)) pv c.fn (c.dl.getD j (-1))⟩)[H.length]? = some ⟨nx,32,1,siL g⟩:=by
   rw[set_ne (by have:=of_eq_false n7;omega),set_ne (by omega)];simp
  have wj:IntKind.i64.wrap ((j:Int)+1)=((j+1:Nat):Int):=by rw[i64_in (by omega) (by omega)];omega
  by_cases h0:0≤c.dl.getD j (-1)
  ·have eA:atE c j g=insE c (c.dl.getD j (-1)) g:=if_pos h0
   rw[eA]at hstj
   simp only[go_sem,eq_true (show (j:Int)<c.g.code.length by omega),hg,hw,hbb,hp.one,hcell,hdp,hdd,hrow,hMH,lB,lW,lR,hk2,n1,n2,n3,n5,n6,n7,m1,m2,m3,m4,l4,l5,es,l1,l2,l3,o1,o2,o3,eq_true h0,List.getElem?_set,List.getElem?_append,List.length_set,List.length_append,Nat.lt_irrefl,Nat.sub_self,ecl]
   repeat ((with_reducible refine And.intro ?_ ?_);· first | omega | (rw[rowE_len];omega) | (simp;omega))
   refine look_mean ho1 ho2 ?_
   simp only[go_sem,es,hset,hBX]
   generalize (((H++[(⟨nx,32,1,siL g⟩:VObj)]).set kr ⟨sr,3,1,(rowE c l0.length (j+1)).map I⟩).set q.kG ⟨q.sG,83,1,genL c.s P q (.ref k2 s2 0 (l0.length+(restE c 0 (c.g.code.take j)).length)) pv c.fn (c.dl.getD j (-1))⟩)=HX at *
   refine mean_v hWX hk ⟨h0,hdj.2⟩ (by simp only[List.length_append];omega) _ g ho1 ho2 hn32 (fun e=>by have:=ho10 e;omega) _ fun r H2 nx2 h2 k2=>?_
   simp only[go_sem]
   rw[wj]
   exact ⟨⟨j+1,H2,nx2,c.dl.getD j (-1)⟩,⟨by simp only;omega,by simp only;rw[hstj,← List.append_assoc];exact h2,k2 _ _ hRX (by simp),(hkeep.trans hKX).trans (KeepR.of k2)⟩,by simp only;omega,Wk.mk (by simp[get_cons]) ⟨[],by simp⟩ (Nat.le_refl _)⟩
  ·have eA:atE c j g=[]:=if_neg h0
   rw[eA,List.append_nil]at hstj
   simp only[go_sem,eq_true (show (j:Int)<c.g.code.length by omega),hg,hw,hbb,hp.one,hcell,hdp,hdd,hrow,hMH,lB,lW,lR,hk2,n1,n2,n3,n5,n6,n7,m1,m2,m3,m4,l4,l5,es,l1,l2,l3,o1,o2,o3,eq_false h0,List.getElem?_set,List.getElem?_append,List.length_set,List.length_append,Nat.lt_irrefl,Nat.sub_self,ecl]
   repeat ((with_reducible refine And.intro ?_ ?_);· first | omega | (rw[rowE_len];omega) | (simp;omega))
   rw[hset]
   generalize (((H++[(⟨nx,32,1,siL g⟩:VObj)]).set kr ⟨sr,3,1,(rowE c l0.length (j+1)).map I⟩).set q.kG ⟨q.sG,83,1,genL c.s P q (.ref k2 s2 0 (l0.length+(restE c 0 (c.g.code.take j)).length)) pv c.fn (c.dl.getD j (-1))⟩)=HX at *
   rw[wj]
   exact ⟨⟨j+1,HX,nx+1,c.dl.getD j (-1)⟩,⟨by simp only;omega,by simp only;rw[hstj];exact hWX,hRX,hkeep.trans hKX⟩,by simp only;omega,Wk.mk (by simp[get_cons]) ⟨[],by simp⟩ (Nat.le_refl _)⟩
 ·obtain rfl:j=c.g.code.length:=by omega
  rw[List.take_of_length_le (Nat.le_refl _)]at hw0
  simp only[go_sem,eq_false (show ¬ (c.g.code.length:Int)<c.g.code.length by omega)]
  exact hC _ _ _ _ hw0 hrow hkeep
set_option maxRecDepth 10000
open Go.V
def KeepG (q:GI) (H H':List VObj):Prop:=∀ (i:Nat) (ob:VObj),H[i]? = some ob→ob.ty ∉ gT→i≠q.kE→i≠q.kB→H'[i]? = some ob
theorem KeepG.of {q:GI} {H H':List VObj} (h:KeepT gT H H'):KeepG q H H':=fun i ob h1 h2 _ _=>h i ob h1 h2
theorem KeepG.trans {q:GI} {A B C:List VObj} (h:KeepG q A B) (k:KeepG q B C):KeepG q A C:=fun i ob h1 h2 h3 h4=>k i ob (h i ob h1 h2 h3 h4) h2 h3 h4
theorem GH.setB {s:SP} {P:PL} {f d:Int} {q:GI} {H:List VObj} {code:List Ci} {sp:List Sp} {en:List Int} {bl:List AV} (h:GH s P f d q H code sp en bl) (bl':List AV):GH s P f d q (H.set q.kB ⟨q.sB,75,1,bl'⟩) code sp en bl':=by
 obtain ⟨cv,pv,hw,⟨k1,s1,e1,hc⟩,⟨k2,s2,e2,hp⟩⟩:=h.w
 have hb:=h.b
 have t:∀ {i:Nat} {ob:VObj},H[i]? = some ob→ob.ty≠75→(H.set q.kB ⟨q.sB,75,1,bl'⟩)[i]? = some ob:=fun {i ob} h1 h2=>by
  rw[set_ne (fun e=>by subst e;rw[hb]at h1;cases h1;exact h2 rfl)];exact h1
 exact ⟨⟨cv,pv,t hw (by simp),⟨k1,s1,e1,t hc (by simp)⟩,⟨k2,s2,e2,t hp (by simp)⟩⟩,t h.e (by simp),set_get hb⟩
theorem GH.setE {s:SP} {P:PL} {f d:Int} {q:GI} {H:List VObj} {code:List Ci} {sp:List Sp} {en:List Int} {bl:List AV} (h:GH s P f d q H code sp en bl) (en':List Int):GH s P f d q (H.set q.kE ⟨q.sE,3,1,en'.map I⟩) code sp en' bl:=by
 obtain ⟨cv,pv,hw,⟨k1,s1,e1,hc⟩,⟨k2,s2,e2,hp⟩⟩:=h.w
 have he:=h.e
 have t:∀ {i:Nat} {ob:VObj} {o:VObj},H[i]? = some ob→ob.ty≠3→(H.set q.kE o)[i]? = some ob:=fun {i ob o} h1 h2=>by
  rw[set_ne (fun e=>by subst e;rw[he]at h1;cases h1;exact h2 rfl)];exact h1
 exact ⟨⟨cv,pv,t hw (by simp),⟨k1,s1,e1,t hc (by simp)⟩,⟨k2,s2,e2,t hp (by simp)⟩⟩,set_get he,t h.b (by simp)⟩
section
variable {c:Ex} {P:PL} {d:Int} {q:GI} {H:List VObj} {l:List Sy} {en:List Int} {bl:List AV}
theorem fun_D (h:GC c P d q H l en bl) (hk:ExOk P c) (hf:FOk c) (hl:l.length≤100000) (hbl:bl.length=c.s.funcs.length) (hb1:∀ x ∈ bl,x.one=true)
 {kF sF kM sM:Nat} (hF:H[kF]? = some ⟨sF,29,1,sfL c.g⟩) (hM:H[kM]? = some ⟨sM,0,0,meanC⟩) (nx:Nat) (C:AV→List VObj→Nat→Prop)
 (hC:∀ r H' nx' kr sr d,GC c P d q H' (l++restE c 0 c.g.code) en (bl.set c.fn (.ref kr sr 0 c.g.code.length))→H'[kr]? = some ⟨sr,3,1,(rowE c l.length c.g.code.length).map I⟩→kr≠q.kE→KeepG q H H'→C r H' nx') :
 VWs Try.prog (tailC 4 c_emit_generator_function) (retQ Try.prog [] C) ⟨[(0,.ptr q.kG q.sG 0),(1,I c.fn),(2,.mref kM sM),(6,.ptr kF sF 0)],H,nx⟩:=by
 have hmx:(200000:Nat)≤maxLen:=by decide
 have hfl:=hk.fl
 have hlt:=hf.lt
 obtain ⟨cv,pv,hw,⟨k2,s2,rfl,hk2⟩,hp⟩:=h.w
 have hbb:=h.b
 have n1:=ne_len hw
 have n2:=ne_len hbb
 have n3:=ne_len hF
 have l1:=lt_of hw
 have l2:=lt_of hbb
 have l3:=lt_of hF
 simp only[tailC,c_emit_generator_function,go_sem,VWs_seq,VWs_ret,VWs_ops,VWs_cond,hF,hw,hbb,hp.one,n1,n2,n3,l1,l2,l3,List.getElem?_set,List.getElem?_append,List.length_set,List.length_append,Nat.lt_irrefl,Nat.sub_self]
 repeat ((with_reducible refine And.intro ?_ ?_);· first | omega | (simp;omega) | exact ⟨by omega,by omega,rfl,rfl⟩)
 have eR:(List.replicate c.g.code.length [AV.val (.int .i64 0)]).flatten=(rowE c l.length 0).map I:=by rw[flat_rep,rowE_zero,List.map_replicate]
 rw[eR]
 have hfin:=fun_E (d0:=d) (kr:=H.length) (sr:=nx) (kF:=kF) (sF:=sF) (kM:=kM) (sM:=sM) (H0:=(H++[(⟨nx,3,1,(rowE c l.length 0).map I⟩:VObj)]).set q.kB ⟨q.sB,75,1,bl.set c.fn (.ref H.length nx 0 c.g.code.length)⟩) ((h.keep (KeepT.app _ _ _)).setB (bl.set c.fn (.ref H.length nx 0 c.g.code.length))) hk hf hl
  (by rw[List.getD,List.getElem?_set_self (by omega)];rfl) (by rw[List.length_set];omega) (by rw[set_ne (by have:=of_eq_true l2;omega)];simp) (by have:=(List.getElem?_eq_some_iff.1 h.e).1;omega)
  (by rw[set_ne (fun e=>by rw[e]at hbb;rw[hF]at hbb;cases hbb)];exact ap_old hF _) (by rw[set_ne (fun e=>by rw[e]at hbb;rw[hM]at hbb;cases hbb)];exact ap_old hM _) (nx+1) C (fun r H' nx' d' h1 h2 h3=>hC r H' nx' H.length nx d' h1 h2 (by have:=(List.getElem?_eq_some_iff.1 h.e).1;omega) fun i ob i1 i2 i3 i4=>h3 i ob (by rw[set_ne (fun e=>i4 e.symm)];exact ap_old i1 _) i2 (by have:=(List.getElem?_eq_some_iff.1 i1).1;omega))
 simp only[tailC,c_emit_generator_function]at hfin
 refine ⟨_,?_,hfin⟩
 exact Wk.mk (by simp[get_cons]) ⟨[],by simp⟩ (Nat.le_refl _)
theorem clearE_len (n0:Nat) (a b:Int):(clearE n0 a b).length≤6:=by
 unfold clearE
 split
 ·simp[zerosE];omega
 ·simp
theorem headE_len (c:Ex) (n0:Nat):(headE c n0).length≤7:=by
 have:=clearE_len (n0+1) (c.g.first+c.g.params) (c.g.first+c.g.slots)
 unfold headE
 split<;>simp<;>omega
theorem fun_B (h:GC c P d q H l en bl) (hk:ExOk P c) (hf:FOk c) (hl:l.length≤90000) (hbl:bl.length=c.s.funcs.length) (hb1:∀ x ∈ bl,x.one=true)
 {kF sF kM sM:Nat} (hF:H[kF]? = some ⟨sF,29,1,sfL c.g⟩) (hM:H[kM]? = some ⟨sM,0,0,meanC⟩) (nx:Nat) (C:AV→List VObj→Nat→Prop)
 (hC:∀ r H' nx' kr sr d,GC c P d q H' (l++funE c l.length) en (bl.set c.fn (.ref kr sr 0 c.g.code.length))→H'[kr]? = some ⟨sr,3,1,(rowE c (l.length+(headE c l.length).length) c.g.code.length).map I⟩→kr≠q.kE→KeepG q H H'→C r H' nx') :
 VWs Try.prog (tailC 3 c_emit_generator_function) (retQ Try.prog [] C) ⟨[(0,.ptr q.kG q.sG 0),(1,I c.fn),(2,.mref kM sM),(6,.ptr kF sF 0)],H,nx⟩:=by
 have h64:=hk.fs
 have hfl:=hk.fl
 have hbk:=hk.bk
 have hbkl:=hk.bkl
 have hw0:=hk.w0
 obtain ⟨hp0,hps,hf0,hsw,hfs⟩:=hk.fn c.fn hfl
 rw[show c.s.fn c.fn=c.g from rfl]at hp0 hps hf0 hsw hfs
 have w1:IntKind.i64.wrap ((c.s.funcs.length:Int)-1)=(c.s.funcs.length:Int)-1:=i64_in (by omega) (by omega)
 have w2:IntKind.i64.wrap (c.g.first+c.g.params)=c.g.first+c.g.params:=i64_in (by omega) (by omega)
 have w3:IntKind.i64.wrap (c.g.first+c.g.slots)=c.g.first+c.g.slots:=i64_in (by omega) (by omega)
 obtain ⟨cv,pv,hw,hcc,hp⟩:=h.w
 have hhl:=headE_len c l.length
 by_cases hlast:(c.fn:Int)=(c.s.funcs.length:Int)-1
 ·have eh:headE c l.length=[]:=by unfold headE;rw[if_pos hlast]
  simp only[tailC,c_emit_generator_function,go_sem,VWs_seq,VWs_ret,VWs_ops,VWs_cond,hF,hw,hcc.one,hp.one,w1,w2,eq_true hlast,show ((c.fn:Int) != (c.s.funcs.length:Int)-1)=false from by simp[hlast]]
  have hfin:=fun_D h hk hf (by omega) hbl hb1 hF hM nx C (fun r H' nx' kr sr d' h1 h2 h3 h4=>by
   refine hC r H' nx' kr sr d' (by unfold funE;rw[eh];exact h1) (by rw[eh];exact h2) h3 h4)
  simp only[tailC,c_emit_generator_function]at hfin
  refine ⟨_,?_,hfin⟩
  exact Wk.mk (by simp[get_cons]) ⟨[],by simp⟩ (Nat.le_refl _)
 ·have eh:headE c l.length=[pY 17 14 0 c.back]++clearE (l.length+1) (c.g.first+c.g.params) (c.g.first+c.g.slots):=by unfold headE;rw[if_neg hlast]
  simp only[tailC,c_emit_generator_function,go_sem,VWs_seq,VWs_ret,VWs_ops,VWs_cond,hF,hw,hcc.one,hp.one,w1,w2,hbk,eq_false hlast,beq_false_of_ne hlast]
  repeat ((with_reducible refine And.intro ?_ ?_);· first | omega | (simp;omega))
  refine putG_v h (by omega) _ _ _ _ _ _ fun r H2 nx2 h2 k2=>?_
  have hF2:=k2 _ _ hF (by simp)
  have hM2:=k2 _ _ hM (by simp)
  simp only[go_sem,VWs_seq,VWs_ret,VWs_ops,VWs_cond,hF2,w2,w3]
  refine clear_v h2 (by simp;omega) _ _ _ (by omega) (by omega) _ fun r H3 nx3 h3 k3=>?_
  have el:(l++[pY 17 14 0 c.back]).length=l.length+1:=by simp
  rw[el,List.append_assoc,← eh]at h3
  simp only[go_sem,VWs_seq,VWs_ret,VWs_ops,VWs_cond]
  have hfin:=fun_D h3 hk hf (by rw[List.length_append];omega) hbl hb1 (k3 _ _ hF2 (by simp)) (k3 _ _ hM2 (by simp)) nx3 C (fun r H' nx' kr sr d' h1 h2 h3 h4=>by
   refine hC r H' nx' kr sr d' (by unfold funE;rw[← List.append_assoc];exact h1) (by rw[← List.length_append];exact h2) h3 ((KeepG.of (k2.trans k3)).trans h4))
  simp only[tailC,c_emit_generator_function]at hfin
  refine ⟨_,?_,hfin⟩
  exact Wk.mk (by simp[get_cons]) ⟨[],by simp⟩ (Nat.le_refl _)
end
theorem function_v {f0 d0:Int} {c:Ex} {P:PL} {q:GI} {H:List VObj} {l:List Sy} {en:List Int} {bl:List AV} (h:GH c.s P f0 d0 q H (l.map (·.1)) (spotL 0 l) en bl) (hk:ExOk P c) (hf:FOk c) (hl:l.length≤90000)
 (hen:en.length=c.s.funcs.length) (hbl:bl.length=c.s.funcs.length) (hb1:∀ x ∈ bl,x.one=true) {kM sM:Nat} (hM:H[kM]? = some ⟨sM,0,0,meanC⟩) (nx:Nat) (C:AV→List VObj→Nat→Prop)
 (hC:∀ r H' nx' kr sr d,GC c P d q H' (l++funE c l.length) (en.set c.fn (l.length:Nat)) (bl.set c.fn (.ref kr sr 0 c.g.code.length))→H'[kr]? = some ⟨sr,3,1,(rowE c (l.length+(headE c l.length).length) c.g.code.length).map I⟩→kr≠q.kE→KeepG q H H'→C r H' nx') :
 VCall Try.prog 42 [.ptr q.kG q.sG 0,I c.fn,.mref kM sM] H nx C:=by
 have hq:=f_emit_generator_function
 unfold compF compFp at hq
 refine VCall.of_bodyS (pt:=false) (pf:=false) hmix hq (by simp) ?_
 have hfl:=hk.fl
 have hfe:c.s.funcs.getD c.fn default=c.g:=rfl
 obtain ⟨cv,pv,hw,hcc,hp⟩:=h.w
 have n1:=ne_len hw
 have n2:=ne_len' hw
 have l1:=lt_of hw
 simp only[c_emit_generator_function,go_sem,VWs_seq,VWs_ret,VWs_ops,VWs_cond,n1,l1,hw,hcc.one,hp.one,hfe,List.getElem?_set,List.getElem?_append,List.length_set,List.length_append,Nat.lt_irrefl,Nat.sub_self]
 refine ⟨hfl,?_⟩
 have hF:(H++[(⟨nx,29,1,sfL c.g⟩:VObj)])[H.length]? = some ⟨nx,29,1,sfL c.g⟩:=by simp
 have hK:KeepT [] H (H++[(⟨nx,29,1,sfL c.g⟩:VObj)]):=KeepT.app _ _ _
 have hW1:=h.keep hK
 have hw1:=hK _ _ hw (by simp)
 have hM1:=hK _ _ hM (by simp)
 generalize hH1:(H++[(⟨nx,29,1,sfL c.g⟩:VObj)])=H1 at *
 refine ⟨⟨[(0,.ptr q.kG q.sG 0),(1,I c.fn),(2,.mref kM sM),(6,.ptr H.length nx 0)],H1,nx+1⟩,Wk.mk (by simp[get_cons]) ⟨[],by simp[← hH1]⟩ (Nat.le_refl _),?_⟩
 generalize H.length=kF at *
 have l2:=lt_of hw1
 simp only[go_sem,VWs_seq,VWs_ret,VWs_ops,VWs_cond,l2,hw1,hcc.one,hp.one,List.getElem?_set,List.length_set]
 have hW2:GC c P d0 q (H1.set q.kG ⟨q.sG,83,1,genL c.s P q cv pv c.fn d0⟩) l en bl:=hW1.setD hw1
 have hF2:(H1.set q.kG ⟨q.sG,83,1,genL c.s P q cv pv c.fn d0⟩)[kF]? = some ⟨nx,29,1,sfL c.g⟩:=by
  rw[set_ne (fun e=>by rw[e]at hw1;rw[hF]at hw1;simp at hw1)];exact hF
 have hM2:(H1.set q.kG ⟨q.sG,83,1,genL c.s P q cv pv c.fn d0⟩)[kM]? = some ⟨sM,0,0,meanC⟩:=by
  rw[set_ne (fun e=>by rw[e]at hw1;rw[hM1]at hw1;simp at hw1)];exact hM1
 have hK2:KeepT gT H (H1.set q.kG ⟨q.sG,83,1,genL c.s P q cv pv c.fn d0⟩):=(hK.mono (by simp)).trans (KeepT.set hw1 (by simp))
 refine ⟨⟨[(0,.ptr q.kG q.sG 0),(1,I c.fn),(2,.mref kM sM),(6,.ptr kF nx 0)],H1.set q.kG ⟨q.sG,83,1,genL c.s P q cv pv c.fn d0⟩,nx+1⟩,Wk.mk (by simp[get_cons]) ⟨[],by simp⟩ (Nat.le_refl _),?_⟩
 generalize H1.set q.kG ⟨q.sG,83,1,genL c.s P q cv pv c.fn d0⟩=H2 at *
 obtain ⟨cw,pw,hw2,⟨k2,s2,rfl,hk2⟩,hp2⟩:=hW2.w
 have he2:=hW2.e
 have l3:=lt_of he2
 have l4:=lt_of hw2
 simp only[go_sem,VWs_seq,VWs_ret,VWs_ops,VWs_cond,l3,l4,he2,hw2,hp2.one,hk2,List.getElem?_set,List.length_set]
 repeat ((with_reducible refine And.intro ?_ ?_);· first | omega | (simp;omega) | exact ⟨by omega,by omega,rfl,rfl⟩)
 rw[← List.map_set]
 have hfin:=fun_B (kF:=kF) (sF:=nx) (H:=H2.set q.kE ⟨q.sE,3,1,(en.set c.fn (l.length:Nat)).map I⟩) (hW2.setE (en.set c.fn (l.length:Nat))) hk hf hl hbl hb1 (by rw[set_ne (fun e=>by rw[e]at he2;rw[hF2]at he2;simp at he2)];exact hF2) (by rw[set_ne (fun e=>by rw[e]at he2;rw[hM2]at he2;simp at he2)];exact hM2) (nx+1) C (fun r H' nx' kr sr d' h1 h2 h3 h4=>hC r H' nx' kr sr d' h1 h2 h3 fun i ob i1 i2 i3 i4=>h4 i ob (by rw[set_ne (fun e=>i3 e.symm)];exact hK2 _ _ i1 i2) i2 i3 i4)
 simp only[tailC,c_emit_generator_function]at hfin
 refine ⟨_,?_,hfin⟩
 exact Wk.mk (by simp[get_cons]) ⟨[],by simp⟩ (Nat.le_refl _)
set_option maxRecDepth 10000
open Go.V
noncomputable def dlsS (s:SP) (f:Nat):List (List Int):=(List.range f).map (depS s)
noncomputable def bksS (s:SP) (f:Nat):List Int:=(List.range f).map (datE s)
noncomputable def bssS (s:SP) (f:Nat):List Int:=(List.range f).map (baseE s)
noncomputable def planS (s:SP) (f:Nat):PL:=⟨dlsS s f,bksS s f,bssS s f,datE s f⟩
structure PG (s:SP) (kd kb ks:Nat) (H:List VObj) (w:List AV) (sd:Nat) (cd:List AV) (sb:Nat) (cb:List AV) (ss:Nat) (cs:List AV):Prop where
 h0:H[0]? = some ⟨0,24,1,[I s.words,fnsA s.funcs]⟩
 h1:H[1]? = some ⟨1,77,1,[nilv,nilv,nilv,I 0]⟩
 h2:H[2]? = some ⟨2,77,1,w⟩
 d:H[kd]? = some ⟨sd,75,1,cd⟩
 b:H[kb]? = some ⟨sb,3,1,cb⟩
 s:H[ks]? = some ⟨ss,3,1,cs⟩
 bs:kb≠ks
section
variable {s:SP} {kd kb ks sd sb ss:Nat} {H:List VObj} {w cd cb cs:List AV}
theorem PG.set2 (h:PG s kd kb ks H w sd cd sb cb ss cs) (w':List AV):PG s kd kb ks (H.set 2 ⟨2,77,1,w'⟩) w' sd cd sb cb ss cs:=by
 obtain ⟨h0,h1,h2,d,b,s',bs⟩:=h
 have t:∀ {i:Nat} {ob:VObj},H[i]? = some ob→ob.ty≠77→(H.set 2 ⟨2,77,1,w'⟩)[i]? = some ob:=fun {i ob} g1 g2=>by
  rw[set_ne (fun e=>by subst e;rw[h2]at g1;cases g1;exact g2 rfl)];exact g1
 exact ⟨t h0 (by simp),by rw[set_ne (by decide)];exact h1,set_get h2,t d (by simp),t b (by simp),t s' (by simp),bs⟩
theorem PG.appD (h:PG s kd kb ks H w sd cd sb cb ss cs) (x:VObj) (sd':Nat) (cd':List AV):PG s kd kb ks ((H++[x]).set kd ⟨sd',75,1,cd'⟩) w sd' cd' sb cb ss cs:=by
 obtain ⟨h0,h1,h2,d,b,s',bs⟩:=h
 have t:∀ {i:Nat} {ob:VObj},H[i]? = some ob→ob.ty≠75→((H++[x]).set kd ⟨sd',75,1,cd'⟩)[i]? = some ob:=fun {i ob} g1 g2=>by
  rw[set_ne (fun e=>by subst e;rw[d]at g1;cases g1;exact g2 rfl)];exact ap_old g1 _
 exact ⟨t h0 (by simp),t h1 (by simp),t h2 (by simp),set_get (ap_old d _),t b (by simp),t s' (by simp),bs⟩
theorem PG.appB (h:PG s kd kb ks H w sd cd sb cb ss cs) (x:VObj) (sb':Nat) (cb':List AV):PG s kd kb ks ((H++[x]).set kb ⟨sb',3,1,cb'⟩) w sd cd sb' cb' ss cs:=by
 obtain ⟨h0,h1,h2,d,b,s',bs⟩:=h
 have t:∀ {i:Nat} {ob:VObj},H[i]? = some ob→ob.ty≠3→((H++[x]).set kb ⟨sb',3,1,cb'⟩)[i]? = some ob:=fun {i ob} g1 g2=>by
  rw[set_ne (fun e=>by subst e;rw[b]at g1;cases g1;exact g2 rfl)];exact ap_old g1 _
 exact ⟨t h0 (by simp),t h1 (by simp),t h2 (by simp),t d (by simp),set_get (ap_old b _),by rw[set_ne bs];exact ap_old s' _,bs⟩
theorem PG.appS (h:PG s kd kb ks H w sd cd sb cb ss cs) (x:VObj) (ss':Nat) (cs':List AV):PG s kd kb ks ((H++[x]).set ks ⟨ss',3,1,cs'⟩) w sd cd sb cb ss' cs':=by
 obtain ⟨h0,h1,h2,d,b,s',bs⟩:=h
 have t:∀ {i:Nat} {ob:VObj},H[i]? = some ob→ob.ty≠3→((H++[x]).set ks ⟨ss',3,1,cs'⟩)[i]? = some ob:=fun {i ob} g1 g2=>by
  rw[set_ne (fun e=>by subst e;rw[s']at g1;cases g1;exact g2 rfl)];exact ap_old g1 _
 exact ⟨t h0 (by simp),t h1 (by simp),t h2 (by simp),t d (by simp),by rw[set_ne (fun e=>bs e.symm)];exact ap_old b _,set_get (ap_old s' _),bs⟩
end
def PH (s:SP) (f:Nat) (dat:Int) (H:List VObj):Prop:=∃ kd sd kb sb ks ss,PG s kd kb ks H [.ref kd sd 0 f,.ref kb sb 0 f,.ref ks ss 0 f,I dat] sd ((dlsS s f).map ints) sb ((bksS s f).map I) ss ((bssS s f).map I)
theorem fold_max (l:List Int) (k:Nat) (hk:k<l.length):dpE (l.take (k+1))=if dpE (l.take k)<l.getD k default then l.getD k default else dpE (l.take k):=by
 unfold dpE
 rw[List.take_add_one,List.foldl_append]
 simp only[List.getD,List.getElem?_eq_getElem hk,Option.toList_some,List.foldl_cons,List.foldl_nil,Option.getD_some]
 split<;>omega
theorem fold_bd (l:List Int) (N:Int) (hN:0≤N) (h:∀ x ∈ l,x≤N):0≤dpE l∧dpE l≤N:=by
 unfold dpE
 have:∀ (l:List Int) (a:Int),0≤a∧a≤N→(∀ x ∈ l,x≤N)→0≤l.foldl max a∧l.foldl max a≤N:=fun l=>by
  induction l with
  | nil=>intro a ha _;exact ha
  | cons x l ih=>intro a ha hx;exact ih (max a x) ⟨by omega,by have:=hx x (by simp);omega⟩ fun y hy=>hx y (by simp[hy])
 exact this l 0 ⟨Int.le_refl _,hN⟩ h
structure PQ where
 f:Nat
 H:List VObj
 nx:Nat
theorem plan_c (s:SP) (hs:InP s) (hR:RightP s) (hB:∀ f≤s.funcs.length,0≤datE s f∧datE s f≤100000) (hD:∀ f<s.funcs.length,(depS s f).length≤100000∧∀ x ∈ depS s f,x≤100000):Contract Try.prog 25 [spA s] (fun r=>r=planA (planS s s.funcs.length)):=by
 refine Contract.of_call (VCall.of_body hmix f_emit_planOf (by simp) ?_)
 have hmx:(200000:Nat)≤maxLen:=by decide
 have h64:=hR.n1
 have h1n:=hR.n0
 have w1:IntKind.i64.wrap ((s.funcs.length:Int)-1)=(s.funcs.length:Int)-1:=i64_in (by omega) (by omega)
 simp only[go_sem,c_emit_planOf,w1]
 have v1:=virt_at (env:=[(1,.ptr 0 0 0),(2,.ptr 1 1 0),(3,.ptr 2 2 0),(4,I ((s.funcs.length:Int)-1)),(20,I s.funcs.length),(21,I 0)]) (H:=[⟨0,24,1,[I s.words,fnsA s.funcs]⟩,⟨1,77,1,[nilv,nilv,nilv,I 0]⟩,⟨2,77,1,[nilv,nilv,nilv,I s.words]⟩]) (nx:=3) (i:=2)
  (cs':=[.ref 3 3 0 0,nilv,nilv,I s.words]) 75 1 (by decide) (by simp[get_cons]) rfl (by simp) rfl (fun j x y hx hy=>by
   match j with
   | 0=>simp at hx hy;subst hx;subst hy;exact .inr ⟨rfl,by simp⟩
   | 1=>simp at hx hy;subst hx;subst hy;exact .inl rfl
   | 2=>simp at hx hy;subst hx;subst hy;exact .inl rfl
   | 3=>simp at hx hy;subst hx;subst hy;exact .inl rfl
   | j+4=>simp at hx)
 have v2:=virt_at (env:=[(1,.ptr 0 0 0),(2,.ptr 1 1 0),(3,.ptr 2 2 0),(4,I ((s.funcs.length:Int)-1)),(20,I s.funcs.length),(21,I 0)]) (H:=[⟨0,24,1,[I s.words,fnsA s.funcs]⟩,⟨1,77,1,[nilv,nilv,nilv,I 0]⟩,⟨2,77,1,[.ref 3 3 0 0,nilv,nilv,I s.words]⟩,⟨3,75,1,[]⟩]) (nx:=4) (i:=2)
  (cs':=[.ref 3 3 0 0,.ref 4 4 0 0,nilv,I s.words]) 3 1 (by decide) (by simp[get_cons]) rfl (by simp) rfl (fun j x y hx hy=>by
   match j with
   | 0=>simp at hx hy;subst hx;subst hy;exact .inl rfl
   | 1=>simp at hx hy;subst hx;subst hy;exact .inr ⟨rfl,by simp⟩
   | 2=>simp at hx hy;subst hx;subst hy;exact .inl rfl
   | 3=>simp at hx hy;subst hx;subst hy;exact .inl rfl
   | j+4=>simp at hx)
 have v3:=virt_at (env:=[(1,.ptr 0 0 0),(2,.ptr 1 1 0),(3,.ptr 2 2 0),(4,I ((s.funcs.length:Int)-1)),(20,I s.funcs.length),(21,I 0)]) (H:=[⟨0,24,1,[I s.words,fnsA s.funcs]⟩,⟨1,77,1,[nilv,nilv,nilv,I 0]⟩,⟨2,77,1,[.ref 3 3 0 0,.ref 4 4 0 0,nilv,I s.words]⟩,⟨3,75,1,[]⟩,⟨4,3,1,[]⟩]) (nx:=5) (i:=2)
  (cs':=[.ref 3 3 0 0,.ref 4 4 0 0,.ref 5 5 0 0,I s.words]) 3 1 (by decide) (by simp[get_cons]) rfl (by simp) rfl (fun j x y hx hy=>by
   match j with
   | 0=>simp at hx hy;subst hx;subst hy;exact .inl rfl
   | 1=>simp at hx hy;subst hx;subst hy;exact .inl rfl
   | 2=>simp at hx hy;subst hx;subst hy;exact .inr ⟨rfl,by simp⟩
   | 3=>simp at hx hy;subst hx;subst hy;exact .inl rfl
   | j+4=>simp at hx)
 refine VW_loop (fun x:PQ=>⟨[(1,.ptr 0 0 0),(2,.ptr 1 1 0),(3,.ptr 2 2 0),(4,I ((s.funcs.length:Int)-1)),(20,I s.funcs.length),(21,I x.f)],x.H,x.nx⟩)
  (fun x=>x.f≤s.funcs.length∧PH s x.f (datE s x.f) x.H) (fun x=>s.funcs.length-x.f) ⟨0,[⟨0,24,1,[I s.words,fnsA s.funcs]⟩,⟨1,77,1,[nilv,nilv,nilv,I 0]⟩,⟨2,77,1,[.ref 3 3 0 0,.ref 4 4 0 0,.ref 5 5 0 0,I s.words]⟩,⟨3,75,1,[]⟩,⟨4,3,1,[]⟩,⟨5,3,1,[]⟩],6⟩
  (Wk.trans (b:=⟨[(1,.ptr 0 0 0),(2,.ptr 1 1 0),(3,.ptr 2 2 0),(4,I ((s.funcs.length:Int)-1)),(20,I s.funcs.length),(21,I 0)],[⟨0,24,1,[I s.words,fnsA s.funcs]⟩,⟨1,77,1,[nilv,nilv,nilv,I 0]⟩,⟨2,77,1,[nilv,nilv,nilv,I s.words]⟩],3⟩) (Wk.mk (by simp[get_cons]) ⟨[],rfl⟩ (Nat.le_refl _)) (v1.trans (v2.trans v3))) ⟨Nat.zero_le _,⟨3,3,4,4,5,5,rfl,rfl,rfl,rfl,rfl,rfl,by decide⟩⟩ ?_
 rintro ⟨f,H,nx⟩ ⟨hf,kd,sd,kb,sb,ks,ss,hg⟩
 simp only at hf hg
 have h0:=hg.h0
 have h1:=hg.h1
 have h2:=hg.h2
 have hd:=hg.d
 have hb:=hg.b
 have hs2:=hg.s
 by_cases hlt:f<s.funcs.length
 ·have hBf:=hB f (by omega)
  obtain ⟨hdl,hdx⟩:=hD f hlt
  simp only[go_sem,eq_true (show (f:Int)<s.funcs.length by omega),h0]
  refine VCall.of_contract (sdepths_c s hs f hlt) (SleL.pure rfl) fun r hr=>?_
  obtain ⟨dl,ok,rfl,hok⟩:=hr
  obtain ⟨out,hout⟩:=(hR.fn f hlt).sol
  obtain rfl:ok=true:=(hok.2 out hout).1
  obtain rfl:=depS_eq hok
  have hfl:f≤64:=by omega
  have es:∀ (K:List VObj) (x y:VObj),(K++[x]).set K.length y=K++[y]:=fun K x y=>by simp
  have eg:∀ (K:List VObj) (x:VObj),(K++[x])[K.length]? = some x:=fun K x=>by simp
  have eo:∀ {K:List VObj} {k:Nat} {o:VObj},K[k]? = some o→∀ x:VObj,(K++[x])[k]? = some o:=fun h x=>ap_old h _
  have td:List.take f ((dlsS s f).map ints)++[ints (depS s f)]=(dlsS s (f+1)).map ints:=by rw[List.take_of_length_le (by simp[dlsS,bksS,bssS])];simp[dlsS,bksS,bssS,List.range_succ]
  have tb:List.take f ((bksS s f).map I)++[I (datE s f)]=(bksS s (f+1)).map I:=by rw[List.take_of_length_le (by simp[dlsS,bksS,bssS])];simp[dlsS,bksS,bssS,List.range_succ]
  have tS:List.take f ((bssS s f).map I)++[I (baseE s f)]=(bssS s (f+1)).map I:=by rw[List.take_of_length_le (by simp[dlsS,bksS,bssS])];simp[dlsS,bksS,bssS,List.range_succ]
  have gA:PG s kd kb ks ((H++[(⟨nx,75,1,[ints (depS s f)]⟩:VObj)]).set kd ⟨nx+1,75,1,(dlsS s (f+1)).map ints⟩) _ _ _ _ _ _ _:=hg.appD ⟨nx,75,1,[ints (depS s f)]⟩ (nx+1) ((dlsS s (f+1)).map ints)
  have gB:PG s kd kb ks (((H++[(⟨nx,75,1,[ints (depS s f)]⟩:VObj)]).set kd ⟨nx+1,75,1,(dlsS s (f+1)).map ints⟩).set 2 ⟨2,77,1,[.ref kd (nx+1) 0 (f+1),.ref kb sb 0 f,.ref ks ss 0 f,I (datE s f)]⟩) _ _ _ _ _ _ _:=gA.set2 [.ref kd (nx+1) 0 (f+1),.ref kb sb 0 f,.ref ks ss 0 f,I (datE s f)]
  have gC:PG s kd kb ks (((((H++[(⟨nx,75,1,[ints (depS s f)]⟩:VObj)]).set kd ⟨nx+1,75,1,(dlsS s (f+1)).map ints⟩).set 2 ⟨2,77,1,[.ref kd (nx+1) 0 (f+1),.ref kb sb 0 f,.ref ks ss 0 f,I (datE s f)]⟩)++[(⟨nx+1+1,3,1,[I (datE s f)]⟩:VObj)]).set kb ⟨nx+1+1+1,3,1,(bksS s (f+1)).map I⟩) _ _ _ _ _ _ _:=gB.appB ⟨nx+1+1,3,1,[I (datE s f)]⟩ (nx+1+1+1) ((bksS s (f+1)).map I)
  have gD:PG s kd kb ks ((((((H++[(⟨nx,75,1,[ints (depS s f)]⟩:VObj)]).set kd ⟨nx+1,75,1,(dlsS s (f+1)).map ints⟩).set 2 ⟨2,77,1,[.ref kd (nx+1) 0 (f+1),.ref kb sb 0 f,.ref ks ss 0 f,I (datE s f)]⟩)++[(⟨nx+1+1,3,1,[I (datE s f)]⟩:VObj)]).set kb ⟨nx+1+1+1,3,1,(bksS s (f+1)).map I⟩).set 2 ⟨2,77,1,[.ref kd (nx+1) 0 (f+1),.ref kb (nx+1+1+1) 0 (f+1),.ref ks ss 0 f,I (datE s f)]⟩) _ _ _ _ _ _ _:=gC.set2 [.ref kd (nx+1) 0 (f+1),.ref kb (nx+1+1+1) 0 (f+1),.ref ks ss 0 f,I (datE s f)]
  by_cases hl:(f:Int)=(s.funcs.length:Int)-1
  ·have eb:baseE s f=datE s f:=by unfold baseE;rw[if_pos (by omega)];omega
   rw[eb]at tS
   have en:((f:Int) != (s.funcs.length:Int)-1)=false:=by simp[hl]
   have gF:PG s kd kb ks ((((((((H++[(⟨nx,75,1,[ints (depS s f)]⟩:VObj)]).set kd ⟨nx+1,75,1,(dlsS s (f+1)).map ints⟩).set 2 ⟨2,77,1,[.ref kd (nx+1) 0 (f+1),.ref kb sb 0 f,.ref ks ss 0 f,I (datE s f)]⟩)++[(⟨nx+1+1,3,1,[I (datE s f)]⟩:VObj)]).set kb ⟨nx+1+1+1,3,1,(bksS s (f+1)).map I⟩).set 2 ⟨2,77,1,[.ref kd (nx+1) 0 (f+1),.ref kb (nx+1+1+1) 0 (f+1),.ref ks ss 0 f,I (datE s f)]⟩)++[(⟨nx+1+1+1+1,3,1,[I (datE s f)]⟩:VObj)]).set ks ⟨nx+1+1+1+1+1,3,1,(bssS s (f+1)).map I⟩) _ _ _ _ _ _ _:=gD.appS ⟨nx+1+1+1+1,3,1,[I (datE s f)]⟩ (nx+1+1+1+1+1) ((bssS s (f+1)).map I)
   have gG:PG s kd kb ks (((((((((H++[(⟨nx,75,1,[ints (depS s f)]⟩:VObj)]).set kd ⟨nx+1,75,1,(dlsS s (f+1)).map ints⟩).set 2 ⟨2,77,1,[.ref kd (nx+1) 0 (f+1),.ref kb sb 0 f,.ref ks ss 0 f,I (datE s f)]⟩)++[(⟨nx+1+1,3,1,[I (datE s f)]⟩:VObj)]).set kb ⟨nx+1+1+1,3,1,(bksS s (f+1)).map I⟩).set 2 ⟨2,77,1,[.ref kd (nx+1) 0 (f+1),.ref kb (nx+1+1+1) 0 (f+1),.ref ks ss 0 f,I (datE s f)]⟩)++[(⟨nx+1+1+1+1,3,1,[I (datE s f)]⟩:VObj)]).set ks ⟨nx+1+1+1+1+1,3,1,(bssS s (f+1)).map I⟩).set 2 ⟨2,77,1,[.ref kd (nx+1) 0 (f+1),.ref kb (nx+1+1+1) 0 (f+1),.ref ks (nx+1+1+1+1+1) 0 (f+1),I (datE s f)]⟩) _ _ _ _ _ _ _:=gF.set2 [.ref kd (nx+1) 0 (f+1),.ref kb (nx+1+1+1) 0 (f+1),.ref ks (nx+1+1+1+1+1) 0 (f+1),I (datE s f)]
   simp only[go_sem,es,eg,List.all_cons,List.all_nil,td,tb,tS,h2,hd,eo hd,gA.h2,gB.h2,gB.b,eo gB.b,gC.h2,gD.h2,gD.s,eo gD.s,gF.h2,gG.h2,eq_true hl,en]
   refine ⟨by omega,by omega,by omega,by omega,by omega,by omega,?_⟩
   have gK:∃ K,K=(((((((((H++[(⟨nx,75,1,[ints (depS s f)]⟩:VObj)]).set kd ⟨nx+1,75,1,(dlsS s (f+1)).map ints⟩).set 2 ⟨2,77,1,[.ref kd (nx+1) 0 (f+1),.ref kb sb 0 f,.ref ks ss 0 f,I (datE s f)]⟩)++[(⟨nx+1+1,3,1,[I (datE s f)]⟩:VObj)]).set kb ⟨nx+1+1+1,3,1,(bksS s (f+1)).map I⟩).set 2 ⟨2,77,1,[.ref kd (nx+1) 0 (f+1),.ref kb (nx+1+1+1) 0 (f+1),.ref ks ss 0 f,I (datE s f)]⟩)++[(⟨nx+1+1+1+1,3,1,[I (datE s f)]⟩:VObj)]).set ks ⟨nx+1+1+1+1+1,3,1,(bssS s (f+1)).map I⟩).set 2 ⟨2,77,1,[.ref kd (nx+1) 0 (f+1),.ref kb (nx+1+1+1) 0 (f+1),.ref ks (nx+1+1+1+1+1) 0 (f+1),I (datE s f)]⟩):=⟨_,rfl⟩
   obtain ⟨K,hK⟩:=gK
   rw[← hK]at gG
   have k2:=gG.h2
   have fb:=fun k=>fold_bd ((depS s f).take k) 100000 (by omega) fun x hx=>hdx x (List.mem_of_mem_take hx)
   refine VW_loop (fun j:Nat=>⟨[(1,.ptr 0 0 0),(2,.ptr 1 1 0),(3,.ptr 2 2 0),(4,I ((s.funcs.length:Int)-1)),(20,I s.funcs.length),(21,I f),(8,I (dpE ((depS s f).take j))),(57,ints (depS s f)),(58,I (depS s f).length),(59,I j)],K,nx+1+1+1+1+1+1⟩)
    (fun j=>j≤(depS s f).length) (fun j=>(depS s f).length-j) 0 (Wk.mk (by simp[get_cons,dpE]) ⟨[],by rw[List.append_nil];exact hK.symm⟩ (Nat.le_refl _)) (Nat.zero_le _) ?_
   intro j hj
   have fj:=fb j
   by_cases hjl:(j:Int)<((depS s f).length:Int)
   ·have e1:IntKind.i64.wrap ((j:Int)+1)=((j+1:Nat):Int):=by rw[i64_in (by omega) (by omega)];omega
    have e2:=fold_max (depS s f) j (by omega)
    simp only[go_sem,eq_true hjl,e1]
    repeat ((with_reducible refine And.intro ?_ ?_);· first | omega | (simp;omega))
    refine ⟨j+1,by omega,by omega,Wk.mk (by simp[get_cons,e2]) ⟨[],by simp⟩ (Nat.le_refl _)⟩
   ·obtain rfl:j=(depS s f).length:=by omega
    rw[List.take_of_length_le (Nat.le_refl _)]at fj
    have e3:datE s (f+1)=(datE s f)+dpE (depS s f):=by rw[← eb];rfl
    have bd:=hB (f+1) (by omega)
    have e4:IntKind.i64.wrap ((datE s f)+dpE (depS s f))=datE s (f+1):=by rw[← e3];exact i64_in (by omega) (by omega)
    have e5:IntKind.i64.wrap ((f:Int)+1)=((f+1:Nat):Int):=by rw[i64_in (by omega) (by omega)];omega
    have gH:=gG.set2 [.ref kd (nx+1) 0 (f+1),.ref kb (nx+1+1+1) 0 (f+1),.ref ks (nx+1+1+1+1+1) 0 (f+1),I (datE s (f+1))]
    have k3:=gH.h2
    simp only[go_sem,eq_false hjl,List.take_length,k2,e4,e5]
    exact ⟨⟨f+1,_,_⟩,⟨by simp only;omega,⟨_,_,_,_,_,_,gH⟩⟩,by simp only;omega,Wk.mk (by simp[get_cons]) ⟨[],by rw[List.append_nil]⟩ (Nat.le_refl _)⟩
  ·have eb:baseE s f=datE s f+1:=by unfold baseE;rw[if_neg (by omega)]
   have en:((f:Int) != (s.funcs.length:Int)-1)=true:=by simp[hl]
   have w2:IntKind.i64.wrap (datE s f+1)=baseE s f:=by rw[eb];exact i64_in (by omega) (by omega)
   have gE:PG s kd kb ks (((((((H++[(⟨nx,75,1,[ints (depS s f)]⟩:VObj)]).set kd ⟨nx+1,75,1,(dlsS s (f+1)).map ints⟩).set 2 ⟨2,77,1,[.ref kd (nx+1) 0 (f+1),.ref kb sb 0 f,.ref ks ss 0 f,I (datE s f)]⟩)++[(⟨nx+1+1,3,1,[I (datE s f)]⟩:VObj)]).set kb ⟨nx+1+1+1,3,1,(bksS s (f+1)).map I⟩).set 2 ⟨2,77,1,[.ref kd (nx+1) 0 (f+1),.ref kb (nx+1+1+1) 0 (f+1),.ref ks ss 0 f,I (datE s f)]⟩).set 2 ⟨2,77,1,[.ref kd (nx+1) 0 (f+1),.ref kb (nx+1+1+1) 0 (f+1),.ref ks ss 0 f,I (baseE s f)]⟩) _ _ _ _ _ _ _:=gD.set2 [.ref kd (nx+1) 0 (f+1),.ref kb (nx+1+1+1) 0 (f+1),.ref ks ss 0 f,I (baseE s f)]
   have gF:PG s kd kb ks (((((((((H++[(⟨nx,75,1,[ints (depS s f)]⟩:VObj)]).set kd ⟨nx+1,75,1,(dlsS s (f+1)).map ints⟩).set 2 ⟨2,77,1,[.ref kd (nx+1) 0 (f+1),.ref kb sb 0 f,.ref ks ss 0 f,I (datE s f)]⟩)++[(⟨nx+1+1,3,1,[I (datE s f)]⟩:VObj)]).set kb ⟨nx+1+1+1,3,1,(bksS s (f+1)).map I⟩).set 2 ⟨2,77,1,[.ref kd (nx+1) 0 (f+1),.ref kb (nx+1+1+1) 0 (f+1),.ref ks ss 0 f,I (datE s f)]⟩).set 2 ⟨2,77,1,[.ref kd (nx+1) 0 (f+1),.ref kb (nx+1+1+1) 0 (f+1),.ref ks ss 0 f,I (baseE s f)]⟩)++[(⟨nx+1+1+1+1,3,1,[I (baseE s f)]⟩:VObj)]).set ks ⟨nx+1+1+1+1+1,3,1,(bssS s (f+1)).map I⟩) _ _ _ _ _ _ _:=gE.appS ⟨nx+1+1+1+1,3,1,[I (baseE s f)]⟩ (nx+1+1+1+1+1) ((bssS s (f+1)).map I)
   have gG:PG s kd kb ks ((((((((((H++[(⟨nx,75,1,[ints (depS s f)]⟩:VObj)]).set kd ⟨nx+1,75,1,(dlsS s (f+1)).map ints⟩).set 2 ⟨2,77,1,[.ref kd (nx+1) 0 (f+1),.ref kb sb 0 f,.ref ks ss 0 f,I (datE s f)]⟩)++[(⟨nx+1+1,3,1,[I (datE s f)]⟩:VObj)]).set kb ⟨nx+1+1+1,3,1,(bksS s (f+1)).map I⟩).set 2 ⟨2,77,1,[.ref kd (nx+1) 0 (f+1),.ref kb (nx+1+1+1) 0 (f+1),.ref ks ss 0 f,I (datE s f)]⟩).set 2 ⟨2,77,1,[.ref kd (nx+1) 0 (f+1),.ref kb (nx+1+1+1) 0 (f+1),.ref ks ss 0 f,I (baseE s f)]⟩)++[(⟨nx+1+1+1+1,3,1,[I (baseE s f)]⟩:VObj)]).set ks ⟨nx+1+1+1+1+1,3,1,(bssS s (f+1)).map I⟩).set 2 ⟨2,77,1,[.ref kd (nx+1) 0 (f+1),.ref kb (nx+1+1+1) 0 (f+1),.ref ks (nx+1+1+1+1+1) 0 (f+1),I (baseE s f)]⟩) _ _ _ _ _ _ _:=gF.set2 [.ref kd (nx+1) 0 (f+1),.ref kb (nx+1+1+1) 0 (f+1),.ref ks (nx+1+1+1+1+1) 0 (f+1),I (baseE s f)]
   simp only[go_sem,es,eg,List.all_cons,List.all_nil,td,tb,tS,h2,hd,eo hd,gA.h2,gB.h2,gB.b,eo gB.b,gC.h2,gD.h2,gE.h2,gE.s,eo gE.s,gF.h2,gG.h2,eq_false hl,en,w2]
   refine ⟨by omega,by omega,by omega,by omega,by omega,by omega,?_⟩
   have gK:∃ K,K=((((((((((H++[(⟨nx,75,1,[ints (depS s f)]⟩:VObj)]).set kd ⟨nx+1,75,1,(dlsS s (f+1)).map ints⟩).set 2 ⟨2,77,1,[.ref kd (nx+1) 0 (f+1),.ref kb sb 0 f,.ref ks ss 0 f,I (datE s f)]⟩)++[(⟨nx+1+1,3,1,[I (datE s f)]⟩:VObj)]).set kb ⟨nx+1+1+1,3,1,(bksS s (f+1)).map I⟩).set 2 ⟨2,77,1,[.ref kd (nx+1) 0 (f+1),.ref kb (nx+1+1+1) 0 (f+1),.ref ks ss 0 f,I (datE s f)]⟩).set 2 ⟨2,77,1,[.ref kd (nx+1) 0 (f+1),.ref kb (nx+1+1+1) 0 (f+1),.ref ks ss 0 f,I (baseE s f)]⟩)++[(⟨nx+1+1+1+1,3,1,[I (baseE s f)]⟩:VObj)]).set ks ⟨nx+1+1+1+1+1,3,1,(bssS s (f+1)).map I⟩).set 2 ⟨2,77,1,[.ref kd (nx+1) 0 (f+1),.ref kb (nx+1+1+1) 0 (f+1),.ref ks (nx+1+1+1+1+1) 0 (f+1),I (baseE s f)]⟩):=⟨_,rfl⟩
   obtain ⟨K,hK⟩:=gK
   rw[← hK]at gG
   have k2:=gG.h2
   have fb:=fun k=>fold_bd ((depS s f).take k) 100000 (by omega) fun x hx=>hdx x (List.mem_of_mem_take hx)
   refine VW_loop (fun j:Nat=>⟨[(1,.ptr 0 0 0),(2,.ptr 1 1 0),(3,.ptr 2 2 0),(4,I ((s.funcs.length:Int)-1)),(20,I s.funcs.length),(21,I f),(8,I (dpE ((depS s f).take j))),(57,ints (depS s f)),(58,I (depS s f).length),(59,I j)],K,nx+1+1+1+1+1+1⟩)
    (fun j=>j≤(depS s f).length) (fun j=>(depS s f).length-j) 0 (Wk.mk (by simp[get_cons,dpE]) ⟨[],by rw[List.append_nil];exact hK.symm⟩ (Nat.le_refl _)) (Nat.zero_le _) ?_
   intro j hj
   have fj:=fb j
   by_cases hjl:(j:Int)<((depS s f).length:Int)
   ·have e1:IntKind.i64.wrap ((j:Int)+1)=((j+1:Nat):Int):=by rw[i64_in (by omega) (by omega)];omega
    have e2:=fold_max (depS s f) j (by omega)
    simp only[go_sem,eq_true hjl,e1]
    repeat ((with_reducible refine And.intro ?_ ?_);· first | omega | (simp;omega))
    refine ⟨j+1,by omega,by omega,Wk.mk (by simp[get_cons,e2]) ⟨[],by simp⟩ (Nat.le_refl _)⟩
   ·obtain rfl:j=(depS s f).length:=by omega
    rw[List.take_of_length_le (Nat.le_refl _)]at fj
    have e3:datE s (f+1)=(baseE s f)+dpE (depS s f):=rfl
    have bd:=hB (f+1) (by omega)
    have e4:IntKind.i64.wrap ((baseE s f)+dpE (depS s f))=datE s (f+1):=by rw[← e3];exact i64_in (by omega) (by omega)
    have e5:IntKind.i64.wrap ((f:Int)+1)=((f+1:Nat):Int):=by rw[i64_in (by omega) (by omega)];omega
    have gH:=gG.set2 [.ref kd (nx+1) 0 (f+1),.ref kb (nx+1+1+1) 0 (f+1),.ref ks (nx+1+1+1+1+1) 0 (f+1),I (datE s (f+1))]
    have k3:=gH.h2
    simp only[go_sem,eq_false hjl,List.take_length,k2,e4,e5]
    exact ⟨⟨f+1,_,_⟩,⟨by simp only;omega,⟨_,_,_,_,_,_,gH⟩⟩,by simp only;omega,Wk.mk (by simp[get_cons]) ⟨[],by rw[List.append_nil]⟩ (Nat.le_refl _)⟩
 ·obtain rfl:f=s.funcs.length:=by omega
  simp only[go_sem,eq_false (show ¬ (s.funcs.length:Int)<s.funcs.length by omega),h2,h1,set_get h1,List.drop_nil,List.drop]
  have t:∀ {i:Nat} {ob:VObj} (w:VObj),H[i]? = some ob→ob.ty≠77→(H.set 1 w)[i]? = some ob:=fun {i ob} w g1 g2=>by
   rw[set_ne (fun e=>by subst e;rw[h1]at g1;cases g1;exact g2 rfl)];exact g1
  exact ⟨_,Frz.agg ⟨_,_,rfl,frz_map (f:=ints) (g:=ints) (l:=dlsS s s.funcs.length) (Nat.zero_le _) (t _ hd (by simp)) (by simp[dlsS]) (fun _=>rfl) (fun a _=>Frz.pure rfl),_,_,rfl,frz_ints (l:=bksS s s.funcs.length) (Nat.zero_le _) (t _ hb (by simp)) (by simp[bksS]),_,_,rfl,frz_ints (l:=bssS s s.funcs.length) (Nat.zero_le _) (t _ hs2 (by simp)) (by simp[bssS]),_,_,rfl,Frz.pure rfl,rfl⟩,rfl⟩
end Go.Proofs.Ytaedcpipilnpcaa
