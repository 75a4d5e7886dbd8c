/- Words: what the operations make of two of them, plainly. No condition. Words as numbers, plainly: bits, and what the operations make of them. No condition. -/
import Derived.Test.YtkbhfokbhkmfgaaGreatUH
import Derived.Test.YtkbhfokbhkmfgaaGreatUCode
import Derived.Test.YtkbhfokbhkmfgaaGreatUY
import Derived.Test.YtkbhfokbhkmfgaaGreatUG
import Derived.SizedLaws
set_option linter.unusedVariables false
set_option linter.unusedSimpArgs false
attribute [go_sem] Nat.reduceEqDiff Nat.reduceAdd Nat.reduceMul reduceCtorEq Nat.reduceLeDiff Nat.reduceLT Nat.reduceSub Int.reduceToNat Int.reduceLE Int.reduceLT
attribute [go_sem ↓] reduceIte dreduceIte
namespace Go.Proofs.YtkbhfokbhkmfgaaGreat
set_option linter.unusedSimpArgs false
set_option linter.unusedVariables false
open Go.V
theorem b0m {sz:Nat} {xs:List AV}:(AV.imm sz xs).one=true:=rfl
theorem b0n {id s off len:Nat}:(AV.ref id s off len).one=true:=rfl
theorem a0b {xs:List Int} {off:Nat} {C:AV→Prop}:a0D (xs.map U32) off false 1 C .mk=(off<xs.length∧C (U32 (xs.getD off default))):=a1j fun _=>rfl
abbrev w32 (n:Int):Int:=IntKind.u32.wrap n
def c6Z (a b:Int):Int:=w32 (BitVec.ofInt IntKind.u32.bits a &&& BitVec.ofInt IntKind.u32.bits b).toNat
def orW (a b:Int):Int:=w32 (BitVec.ofInt IntKind.u32.bits a ||| BitVec.ofInt IntKind.u32.bits b).toNat
def c7n (a b:Int):Int:=w32 (BitVec.ofInt IntKind.u32.bits a ^^^ BitVec.ofInt IntKind.u32.bits b).toNat
def c7o (a b:Int):Int:=w32 (a*2 ^ (min b.toNat IntKind.u32.bits))
def c4I (a b:Int):Int:=a.fdiv (2 ^ (min b.toNat IntKind.u32.bits))
def a0R (op a b:Int):Int × Int :=
 if op=4 then (w32 (a+b),0) else if op=5 then (w32 (a-b),0) else if op=6 then (w32 (a*b),0)
 else if op=7 then (if b=0 then (0,14) else (w32 (a.tdiv b),0))
 else if op=8 then (if b=0 then (0,14) else (a.tmod b,0))
 else if op=9 then (c6Z a b,0) else if op=10 then (orW a b,0) else if op=11 then (c7n a b,0)
 else if op=12 then (if 31<b then 0 else c7o a b,0)
 else if op=13 then (if 31<b then 0 else c4I a b,0)
 else if op=14 then (if a<b then 1 else 0,0)
 else if op=15 then (if a=b then 1 else 0,0)
 else (0,1)
abbrev b7B (p:Int × Int):AV:=.tup [U32 p.1,I p.2]
def a1b (n:Int):Prop:=0≤n∧n<4294967296
theorem a1I {n:Int} (h:a1b n):IntKind.u32.wrap n=n:=by
 rw[IntKind.wrap_u32];have:=h.1;have:=h.2;omega
theorem a4m (n:Int):a1b (IntKind.u32.wrap n):=by
 rw[IntKind.wrap_u32];constructor<;>omega
def a3C (x n:Nat):List Int:=(List.range n).map fun i=>((x / 2 ^ i % 2:Nat):Int)
theorem a1q (x n:Nat):(a3C x n).length=n:=by simp[a3C]
theorem b6K {x n i:Nat} (h:i<n):(a3C x n).getD i default=((x / 2 ^ i % 2:Nat):Int):=by simp[a3C,List.getD,h]
theorem b4r (x n:Nat):a3C x (n+1)=a3C x n++[((x / 2 ^ n % 2:Nat):Int)]:=by simp[a3C,List.range_succ]
theorem c0g (x n:Nat):a3C x (n+1)=((x % 2:Nat):Int)::a3C (x / 2) n:=by
 simp only[a3C,List.range_succ_eq_map,List.map_cons,List.map_map,Nat.pow_zero,Nat.div_one];congr 1;refine List.map_congr_left fun i _=>?_;simp only[Function.comp,Nat.pow_succ,Nat.div_div_eq_div_mul];rw[Nat.mul_comm]
def b7X:List Int→Nat
 | []=>0
 | b::l=>b.toNat+2*b7X l
theorem b6L:∀ (n x:Nat),b7X (a3C x n)=x % 2 ^ n
 | 0,x=>by simp[a3C,b7X,Nat.mod_one]
 | n+1,x=>by
  rw[c0g,b7X,b6L n,Int.toNat_natCast,Nat.pow_succ,Nat.mul_comm (2 ^ n) 2,Nat.mod_mul]
theorem c5l (x y i:Nat):(x &&& y) / 2 ^ i % 2=if x / 2 ^ i % 2+y / 2 ^ i % 2=2 then 1 else 0:=by
 have h:=Nat.testBit_and x y i;simp only[Nat.testBit_eq_decide_div_mod_eq]at h;have h1:=Nat.mod_two_eq_zero_or_one (x / 2 ^ i);have h2:=Nat.mod_two_eq_zero_or_one (y / 2 ^ i);have h3:=Nat.mod_two_eq_zero_or_one ((x &&& y) / 2 ^ i);rcases h1 with h1 | h1<;>rcases h2 with h2 | h2<;>rcases h3 with h3 | h3<;>simp_all
theorem c7p (x y i:Nat):(x ||| y) / 2 ^ i % 2=if x / 2 ^ i % 2+y / 2 ^ i % 2=0 then 0 else 1:=by
 have h:=Nat.testBit_or x y i;simp only[Nat.testBit_eq_decide_div_mod_eq]at h;have h1:=Nat.mod_two_eq_zero_or_one (x / 2 ^ i);have h2:=Nat.mod_two_eq_zero_or_one (y / 2 ^ i);have h3:=Nat.mod_two_eq_zero_or_one ((x ||| y) / 2 ^ i);rcases h1 with h1 | h1<;>rcases h2 with h2 | h2<;>rcases h3 with h3 | h3<;>simp_all
theorem c5m (x y i:Nat):(x ^^^ y) / 2 ^ i % 2=if x / 2 ^ i % 2+y / 2 ^ i % 2=1 then 1 else 0:=by
 have h:=Nat.testBit_xor x y i;simp only[Nat.testBit_eq_decide_div_mod_eq]at h;have h1:=Nat.mod_two_eq_zero_or_one (x / 2 ^ i);have h2:=Nat.mod_two_eq_zero_or_one (y / 2 ^ i);have h3:=Nat.mod_two_eq_zero_or_one ((x ^^^ y) / 2 ^ i);rcases h1 with h1 | h1<;>rcases h2 with h2 | h2<;>rcases h3 with h3 | h3<;>simp_all
theorem c7a {a:Int} (h:a1b a):(BitVec.ofInt IntKind.u32.bits a).toNat=a.toNat:=by
 show (BitVec.ofInt 32 a).toNat=a.toNat;rw[BitVec.toNat_ofInt];obtain ⟨h1,h2⟩:=h;omega
theorem c1u {a b:Int} (ha:a1b a) (hb:a1b b):c6Z a b=((a.toNat &&& b.toNat:Nat):Int):=by
 unfold c6Z;rw[BitVec.toNat_and,c7a ha,c7a hb];refine a1I ⟨by omega,?_⟩;have:=Nat.and_lt_two_pow (n:=32) a.toNat (y:=b.toNat) (by have:=hb.2;have:=hb.1;omega);omega
theorem c1v {a b:Int} (ha:a1b a) (hb:a1b b):orW a b=((a.toNat ||| b.toNat:Nat):Int):=by
 unfold orW;rw[BitVec.toNat_or,c7a ha,c7a hb];refine a1I ⟨by omega,?_⟩;have:=Nat.or_lt_two_pow (n:=32) (x:=a.toNat) (y:=b.toNat) (by have:=ha.2;have:=ha.1;omega) (by have:=hb.2;have:=hb.1;omega);omega
theorem c5n {a b:Int} (ha:a1b a) (hb:a1b b):c7n a b=((a.toNat ^^^ b.toNat:Nat):Int):=by
 unfold c7n;rw[BitVec.toNat_xor,c7a ha,c7a hb];refine a1I ⟨by omega,?_⟩;have:=Nat.xor_lt_two_pow (n:=32) (x:=a.toNat) (y:=b.toNat) (by have:=ha.2;have:=ha.1;omega) (by have:=hb.2;have:=hb.1;omega);omega
theorem a9x {a:Int} (ha:a1b a) (k:Nat) (hk:k≤32):c6Z a ((2 ^ k-1:Nat):Int)=a % 2 ^ k:=by
 have hp:2 ^ k≤2 ^ 32:=Nat.pow_le_pow_right (by omega) hk;have hp0:0<2 ^ k:=Nat.two_pow_pos k;rw[c1u ha ⟨by omega,by omega⟩,Int.toNat_natCast,Nat.and_two_pow_sub_one_eq_mod];have:=ha.1;rw[show a=((a.toNat:Nat):Int) by omega];simp
theorem b7Y {a:Int} (ha:a1b a) (k:Nat) (hk:k≤32):c4I a k=((a.toNat / 2 ^ k:Nat):Int):=by
 unfold c4I;rw[Int.toNat_natCast,Nat.min_eq_left (by show k≤32;exact hk),Int.fdiv_eq_ediv_of_nonneg _ (by exact Int.le_of_lt (Int.pow_pos (by decide)))];have:=ha.1
 conv=>lhs;rw[show a=((a.toNat:Nat):Int) by omega]
 simp
theorem b6M {op a b:Int} (ha:a1b a) (hb:a1b b) (ho:op=9∨op=10∨op=11):(a0R op a b).2=0∧a1b (a0R op a b).1∧∀ i,(a0R op a b).1.toNat / 2 ^ i % 2=if (a.toNat / 2 ^ i % 2+b.toNat / 2 ^ i % 2=2∧op≠11)∨(a.toNat / 2 ^ i % 2+b.toNat / 2 ^ i % 2=1∧op≠9) then 1 else 0:=by
 rcases ho with rfl | rfl | rfl
 ·refine ⟨rfl,a4m _,fun i=>?_⟩;show (c6Z a b).toNat / _ % 2=_;rw[c1u ha hb,Int.toNat_natCast,c5l];simp
 ·refine ⟨rfl,a4m _,fun i=>?_⟩;show (orW a b).toNat / _ % 2=_;rw[c1v ha hb,Int.toNat_natCast,c7p];have h1:=Nat.mod_two_eq_zero_or_one (a.toNat / 2 ^ i);have h2:=Nat.mod_two_eq_zero_or_one (b.toNat / 2 ^ i);rcases h1 with h1 | h1<;>rcases h2 with h2 | h2<;>simp[h1,h2]
 ·refine ⟨rfl,a4m _,fun i=>?_⟩;show (c7n a b).toNat / _ % 2=_;rw[c5n ha hb,Int.toNat_natCast,c5m];simp
structure Tac where
 op:Int
 d:Int
 a:Int
 b:Int
 k:Int
 base:Int
 size:Int
 n:Int
deriving Inhabited,DecidableEq
structure Bk where
 ins:List Tac
 e:Int
 v:Int
 to:Int
 el:Int
deriving Inhabited,DecidableEq
structure BF where
 regs:Int
 bks:List Bk
deriving Inhabited,DecidableEq
abbrev a8s (t:Tac):List AV:=[I t.op,I t.d,I t.a,I t.b,I t.k,I t.base,I t.size,U32 t.n]
abbrev b5d (t:Tac):AV:=.agg (a8s t)
abbrev inA (l:List Tac):AV:=.imm 8 (l.map b5d)
abbrev bkL (b:Bk):List AV:=[inA b.ins,I b.e,I b.v,I b.to,I b.el]
abbrev bkA (b:Bk):AV:=.agg (bkL b)
abbrev b5e (l:List Bk):AV:=.imm 5 (l.map bkA)
abbrev bfA (f:BF):AV:=.agg [I f.regs,b5e f.bks]
def a0l (t:Tac):List Int :=
 if t.op=2∨t.op=5∨t.op=6∨t.op=9 then [t.a] else if t.op=3∨t.op=7 then [t.a,t.b] else []
def a0m (t:Tac):Prop:=t.op=1∨t.op=2∨t.op=3∨t.op=4∨t.op=6∨t.op=8
instance (t:Tac):Decidable (a0m t):=by unfold a0m;exact inferInstance
def a0n (t:Tac):Int:=if a0m t then t.d else -1
theorem a2T (t:Tac):(a0l t).length≤2:=by
 unfold a0l;split
 ·simp
 ·split<;>simp
theorem c0h {t:Tac} (h:¬ (t.op=2∨t.op=5∨t.op=6∨t.op=9)) (h':¬ (t.op=3∨t.op=7)):a0l t=[]:=by
 unfold a0l;rw[if_neg h,if_neg h']
theorem a2o (t:Tac):ContractN Tryz.prog 81 [b5d t] (fun r=>r=a2t (a0l t)):=by
 refine ContractN.of_call (VCall.of_body a1g b3K (by simp) ?_);obtain ⟨op,d,a,b,k,base,size,n⟩:=t;have ho:op=2∨op=5∨op=6∨op=9∨op=3∨op=7∨(op≠2∧op≠5∧op≠6∧op≠9∧op≠3∧op≠7):=by omega
 rcases ho with rfl | rfl | rfl | rfl | rfl | rfl | ⟨h1,h2,h3,h4,h5,h6⟩
 ·simp only[go_sem,a1p,Int.reduceEq,Int.reduceBEq];exact ⟨_,a3B (l:=[a]) rfl rfl,rfl⟩
 ·simp only[go_sem,a1p,Int.reduceEq,Int.reduceBEq];exact ⟨_,a3B (l:=[a]) rfl rfl,rfl⟩
 ·simp only[go_sem,a1p,Int.reduceEq,Int.reduceBEq];exact ⟨_,a3B (l:=[a]) rfl rfl,rfl⟩
 ·simp only[go_sem,a1p,Int.reduceEq,Int.reduceBEq];exact ⟨_,a3B (l:=[a]) rfl rfl,rfl⟩
 ·simp only[go_sem,a1p,Int.reduceEq,Int.reduceBEq];exact ⟨_,a3B (l:=[a,b]) rfl rfl,rfl⟩
 ·simp only[go_sem,a1p,Int.reduceEq,Int.reduceBEq];exact ⟨_,a3B (l:=[a,b]) rfl rfl,rfl⟩
 ·simp only[go_sem,a1p,Int.reduceEq,Int.reduceBEq,h1,h2,h3,h4,h5,h6,eq_false h1,eq_false h2,eq_false h3,eq_false h4,eq_false h5,eq_false h6];refine ⟨_,FrzN.nil 1,?_⟩;rw[c0h (by simp only;omega) (by simp only;omega)];rfl
theorem a0U (t:Tac):Contract Tryz.prog 80 [b5d t] (fun r=>r=I (a0n t)):=by
 refine Contract.of_call (VCall.of_body a1g b3J (by simp) ?_);obtain ⟨op,d,a,b,k,base,size,n⟩:=t;have ho:op=1∨op=2∨op=3∨op=4∨op=6∨op=8∨(op≠1∧op≠2∧op≠3∧op≠4∧op≠6∧op≠8):=by omega
 rcases ho with rfl | rfl | rfl | rfl | rfl | rfl | ⟨h1,h2,h3,h4,h5,h6⟩
 all_goals first
  | (simp only[go_sem,a5b,Int.reduceEq,Int.reduceBEq];exact ⟨_,Frz.pure rfl,rfl⟩)
  | (simp only[go_sem,a5b,Int.reduceEq,Int.reduceBEq,h1,h2,h3,h4,h5,h6,eq_false h1,eq_false h2,eq_false h3,eq_false h4,eq_false h5,eq_false h6]
     refine ⟨_,Frz.pure rfl,?_⟩;rw[show a0n ⟨op,d,a,b,k,base,size,n⟩ = -1 from if_neg (by unfold a0m;simp only;omega)])
def a8t (op:Int):Int:=if op=2∨op=5∨op=6∨op=9 then 1 else if op=3∨op=7 then 2 else 0
theorem b5f (t:Tac):a0l t=if a8t t.op=1 then [t.a] else if a8t t.op=2 then [t.a,t.b] else []:=by
 unfold a0l a8t;by_cases h:t.op=2∨t.op=5∨t.op=6∨t.op=9
 ·simp[h]
 ·by_cases h':t.op=3∨t.op=7
  ·simp[h,h']
  ·simp[h,h']
theorem c5o (t:Tac):Contract Tryz.prog 58 [I t.op] (fun r=>r=B (decide (a0m t))):=by
 refine Contract.of_call (VCall.of_body a1g b6F (by simp) ?_);obtain ⟨op,d,a,b,k,base,size,n⟩:=t;have ho:op=1∨op=2∨op=3∨op=4∨op=6∨op=8∨(op≠1∧op≠2∧op≠3∧op≠4∧op≠6∧op≠8):=by omega
 rcases ho with rfl | rfl | rfl | rfl | rfl | rfl | ⟨h1,h2,h3,h4,h5,h6⟩
 all_goals first
  | (simp only[go_sem,a7w,Int.reduceEq,Int.reduceBEq];exact ⟨_,Frz.pure rfl,rfl⟩)
  | (simp only[go_sem,a7w,Int.reduceEq,Int.reduceBEq,h1,h2,h3,h4,h5,h6,eq_false h1,eq_false h2,eq_false h3,eq_false h4,eq_false h5,eq_false h6]
     refine ⟨_,Frz.pure rfl,?_⟩;rw[decide_eq_false (by unfold a0m;simp only;omega)])
theorem c3k (op:Int):Contract Tryz.prog 59 [I op] (fun r=>r=I (a8t op)):=by
 refine Contract.of_call (VCall.of_body a1g b4X (by simp) ?_);have ho:op=2∨op=5∨op=6∨op=9∨op=3∨op=7∨(op≠2∧op≠5∧op≠6∧op≠9∧op≠3∧op≠7):=by omega
 rcases ho with rfl | rfl | rfl | rfl | rfl | rfl | ⟨h1,h2,h3,h4,h5,h6⟩
 all_goals first
  | (simp only[go_sem,a5C,Int.reduceEq,Int.reduceBEq];exact ⟨_,Frz.pure rfl,rfl⟩)
  | (simp only[go_sem,a5C,Int.reduceEq,Int.reduceBEq,h1,h2,h3,h4,h5,h6,eq_false h1,eq_false h2,eq_false h3,eq_false h4,eq_false h5,eq_false h6]
     refine ⟨_,Frz.pure rfl,?_⟩;rw[show a8t op=0 by unfold a8t;rw[if_neg (by omega),if_neg (by omega)]])
theorem b2Y (t:Tac):Contract Tryz.prog 39 [b5d t] (fun r=>r=I (a0n t)):=by
 refine Contract.of_call (VCall.of_body a1g b6z (by simp) ?_);simp only[go_sem,b1z];refine VCall.of_contract (c5o t) (SleL.pure rfl) fun r hr=>?_;subst hr;by_cases h:a0m t
 ·simp only[go_sem,decide_eq_true h];exact ⟨_,Frz.pure rfl,by rw[show a0n t=t.d from if_pos h]⟩
 ·simp only[go_sem,decide_eq_false h];exact ⟨_,Frz.pure rfl,by rw[show a0n t = -1 from if_neg h]⟩
theorem a5D (t:Tac):ContractN Tryz.prog 41 [b5d t] (fun r=>r=a2t (a0l t)):=by
 refine ContractN.of_call (VCall.of_body a1g b6A (by simp) ?_);simp only[go_sem,b1A];refine VCall.of_contract (c3k t.op) (SleL.pure rfl) fun r hr=>?_;subst hr;have h3:a8t t.op=1∨a8t t.op=2∨(a8t t.op≠1∧a8t t.op≠2):=by omega
 rcases h3 with h | h | ⟨h,h'⟩
 ·simp only[go_sem,h,Int.reduceEq,Int.reduceBEq];exact ⟨_,a3B (l:=[t.a]) rfl rfl,by rw[b5f,if_pos h]⟩
 ·simp only[go_sem,h,Int.reduceEq,Int.reduceBEq];exact ⟨_,a3B (l:=[t.a,t.b]) rfl rfl,by rw[b5f,if_neg (by omega),if_pos h]⟩
 ·simp only[go_sem,eq_false h,eq_false h',Int.reduceEq,Int.reduceBEq];exact ⟨_,FrzN.nil 1,by rw[b5f,if_neg h,if_neg h'];rfl⟩
set_option maxRecDepth 10000
open Go.V
section
variable {α:Type} [Inhabited α] {l:List α} {p:α→Bool} {k:Nat}
theorem b8S (hk:k<l.length) (h:p (l.getD k default)=false):l.all p=false:=by
 rw[List.all_eq_false];exact ⟨_,a0q hk,by rw[h];decide⟩
theorem b8T (hk:k<l.length) (h0:(l.take k).all p=true) (h:p (l.getD k default)=true):(l.take (k+1)).all p=true:=by
 have e:l.take (k+1)=l.take k++[l.getD k default]:=by rw[List.take_add_one];simp[List.getD,List.getElem?_eq_getElem hk]
 rw[e,List.all_append,h0];simp only[List.all_cons,List.all_nil,Bool.and_true,Bool.true_and];exact h
omit [Inhabited α] in
theorem c1w (hk:l.length≤k) (h0:(l.take k).all p=true):l.all p=true:=by
 rw[List.take_of_length_le hk]at h0;exact h0
end
theorem c8N {sz:Nat} {xs:List AV}:(AV.imm sz xs).one=true:=rfl
theorem a4V:IntKind.i64.wrap (0+1)=1:=by decide
theorem a4W:IntKind.i64.wrap (1+1)=2:=by decide
theorem Nat.cast_zero':((0:Nat):Int)=0:=rfl
theorem Nat.cast_one':((1:Nat):Int)=1:=rfl
def inB (i n:Int):Bool:=decide (0≤i∧i<n)
theorem a0A (i n:Int):Contract Tryz.prog 79 [I i,I n] (fun r=>r=B (inB i n)):=by
 refine Contract.of_call (VCall.of_body a1g b1V (by simp) ?_);by_cases h:0≤i
 ·simp only[go_sem,a3K,h];exact ⟨_,Frz.pure rfl,by simp[inB,h]⟩
 ·simp only[go_sem,a3K,h];exact ⟨_,Frz.pure rfl,by simp[inB,h]⟩
def a3L (t:Tac) (f words:Int):Prop :=
 if t.op=3 then 4≤t.k∧t.k≤15∧t.base=0∧t.size=0
 else t.k=0∧(if t.op=4∨t.op=5 then 0≤t.base∧t.base<words∧t.size=0
  else if t.op=6∨t.op=7 then 1≤t.size∧t.size≤4096∧0≤t.base∧t.base≤words-t.size
  else if t.op=10 then 0≤t.base∧t.base<f∧t.size=0
  else t.base=0∧t.size=0)
def FitsT (t:Tac) (f regs words:Int):Prop :=
 1≤t.op∧t.op≤10∧(if a0m t then 0≤t.d∧t.d<regs else t.d=0)∧(∀ u ∈ a0l t,0≤u∧u<regs) ∧
 (a0l t=[]→t.a=0)∧((a0l t).length≤1→t.b=0)∧(t.op=1∨t.n=0)∧a3L t f words
instance (t:Tac) (f w:Int):Decidable (a3L t f w):=by unfold a3L;exact inferInstance
instance (t:Tac) (f r w:Int):Decidable (FitsT t f r w):=by unfold FitsT;exact inferInstance
def a3d (t:Tac) (f regs words:Int):Bool:=decide (FitsT t f regs words)
theorem c5p (d a b k base size n f regs words:Int) (hw:0≤words∧words≤1048576):Contract Tryz.prog 57 [b5d ⟨1,d,a,b,k,base,size,n⟩,I f,I regs,I words] (fun r=>r=B (a3d ⟨1,d,a,b,k,base,size,n⟩ f regs words)):=by
 refine Contract.of_call (VCall.of_body a1g a0W (by simp) ?_);have hus:a0l ⟨1,d,a,b,k,base,size,n⟩=[]:=by simp[a0l]
 obtain ⟨x,hx⟩:∃ x,a3d ⟨1,d,a,b,k,base,size,n⟩ f regs words=x:=⟨_,rfl⟩
 rw[hx];have hX:(x=true↔FitsT ⟨1,d,a,b,k,base,size,n⟩ f regs words):=by rw[← hx];exact decide_eq_true_iff
 simp only[FitsT,hus,a3L,a0m,Int.reduceEq,or_false,or_true,false_or,true_or,or_self,if_true,if_false,List.mem_cons,List.not_mem_nil,forall_eq_or_imp,forall_eq,false_implies,implies_true,true_and,and_true,Int.reduceLE,List.length_cons,List.length_nil,Nat.reduceAdd,Nat.reduceLeDiff,Nat.le_refl,forall_const,reduceCtorEq,Nat.zero_le]at hX;cases hd:inB d regs
 ·have hx0:x=false:=by
   cases x
   ·rfl
   ·have:=hX.1 rfl;have h2:=of_decide_eq_false hd;omega
  subst hx0;by_cases h0:0≤d
  ·simp only[go_sem,a0o,Int.reduceEq,Int.reduceBEq,a0n,a0m,or_false,or_true,false_or,true_or,or_self,hus,Int.reduceNeg];refine VCall.of_contract (a0U ⟨1,d,a,b,k,base,size,n⟩) (SleL.pure rfl) fun r hr=>?_;subst hr;simp only[go_sem,Int.reduceEq,Int.reduceBEq,a0n,a0m,or_false,or_true,false_or,true_or,or_self,hus,Int.reduceNeg,eq_true h0];refine VCall.of_contract (a0A _ _) (SleL.pure rfl) fun r hr=>?_;subst hr;simp only[go_sem,hd];exact ⟨_,Frz.pure rfl,rfl⟩
  ·simp only[go_sem,a0o,Int.reduceEq,Int.reduceBEq,a0n,a0m,or_false,or_true,false_or,true_or,or_self,hus,Int.reduceNeg];refine VCall.of_contract (a0U ⟨1,d,a,b,k,base,size,n⟩) (SleL.pure rfl) fun r hr=>?_;subst hr;simp only[go_sem,Int.reduceEq,Int.reduceBEq,a0n,a0m,or_false,or_true,false_or,true_or,or_self,hus,Int.reduceNeg,eq_false h0];refine VCall.of_contract (a0A _ _) (SleL.pure rfl) fun r hr=>?_;subst hr;simp only[go_sem,hd];exact ⟨_,Frz.pure rfl,rfl⟩
 have h0:=(of_decide_eq_true hd).1;have h0':=(of_decide_eq_true hd).2;simp only[go_sem,a0o,Int.reduceEq,Int.reduceBEq,a0n,a0m,or_false,or_true,false_or,true_or,or_self,hus,Int.reduceNeg];refine VCall.of_contract (a0U ⟨1,d,a,b,k,base,size,n⟩) (SleL.pure rfl) fun r hr=>?_;subst hr;simp only[go_sem,Int.reduceEq,Int.reduceBEq,a0n,a0m,or_false,or_true,false_or,true_or,or_self,hus,Int.reduceNeg,eq_true h0];refine VCall.of_contract (a0A _ _) (SleL.pure rfl) fun r hr=>?_;subst hr;simp only[go_sem,Int.reduceEq,Int.reduceBEq,a0n,a0m,or_false,or_true,false_or,true_or,or_self,hus,Int.reduceNeg,hd];refine VCall.of_contractN (a2o ⟨1,d,a,b,k,base,size,n⟩) ?_ fun r hr=>?_
 ·exact ⟨_,_,rfl,Frz.pure rfl,rfl⟩
 subst hr;simp only[go_sem,Int.reduceEq,Int.reduceBEq,a0n,a0m,or_false,or_true,false_or,true_or,or_self,hus,Int.reduceNeg];refine a0r (fun i:Nat=>⟨[(1,I f),(2,I regs),(3,I words),(4,.ptr 0 0 0),(9,.ptr 1 1 0),(10,a2t []),(11,I i)],[⟨0,95,1,a8s ⟨1,d,a,b,k,base,size,n⟩⟩,⟨1,95,1,[I 1,I d,I 0,I 0,I 0,I 0,I 0,U32 0]⟩],2⟩)
  (fun i=>i≤0∧∀ j<i,inB (([]:List Int).getD j default) regs=true) (fun i=>0-i) 0 (Wk.mk (by simp[a0a]) ⟨[],rfl⟩ (Nat.le_refl _)) ⟨by omega,by omega⟩ ?_
 rintro i ⟨hi,hin⟩;obtain rfl:i=0:=by omega
 simp only[go_sem,Int.reduceEq,Int.reduceBEq,a0n,a0m,or_false,or_true,false_or,true_or,or_self,hus,Int.reduceNeg,Int.cast_ofNat_Int,Nat.cast_zero',Nat.cast_one'];have hwr:1≤size→size≤4096→IntKind.i64.wrap (words-size)=words-size:=fun h1 h2=>a0e (by omega) (by omega)
 repeat' (first | (with_reducible apply And.intro) | (with_reducible intro _))
 all_goals
  refine ⟨_,Frz.pure rfl,?_⟩
  try (rename_i h1 h2 h3 h4;rw[hwr (by omega) (by omega)]at h4)
  congr 2;rw[Bool.eq_iff_iff,hX];simp only[Bool.and_eq_true,beq_iff_eq,true_and,and_true,Bool.false_eq_true,false_iff,not_and,and_imp]
  first | omega | (intros;omega)
theorem c5q (d a b k base size n f regs words:Int) (hw:0≤words∧words≤1048576):Contract Tryz.prog 57 [b5d ⟨2,d,a,b,k,base,size,n⟩,I f,I regs,I words] (fun r=>r=B (a3d ⟨2,d,a,b,k,base,size,n⟩ f regs words)):=by
 refine Contract.of_call (VCall.of_body a1g a0W (by simp) ?_);have hus:a0l ⟨2,d,a,b,k,base,size,n⟩=[a]:=by simp[a0l]
 obtain ⟨x,hx⟩:∃ x,a3d ⟨2,d,a,b,k,base,size,n⟩ f regs words=x:=⟨_,rfl⟩
 rw[hx];have hX:(x=true↔FitsT ⟨2,d,a,b,k,base,size,n⟩ f regs words):=by rw[← hx];exact decide_eq_true_iff
 simp only[FitsT,hus,a3L,a0m,Int.reduceEq,or_false,or_true,false_or,true_or,or_self,if_true,if_false,List.mem_cons,List.not_mem_nil,forall_eq_or_imp,forall_eq,false_implies,implies_true,true_and,and_true,Int.reduceLE,List.length_cons,List.length_nil,Nat.reduceAdd,Nat.reduceLeDiff,Nat.le_refl,forall_const,reduceCtorEq,Nat.zero_le]at hX;cases hd:inB d regs
 ·have hx0:x=false:=by
   cases x
   ·rfl
   ·have:=hX.1 rfl;have h2:=of_decide_eq_false hd;omega
  subst hx0;by_cases h0:0≤d
  ·simp only[go_sem,a0o,Int.reduceEq,Int.reduceBEq,a0n,a0m,or_false,or_true,false_or,true_or,or_self,hus,Int.reduceNeg];refine VCall.of_contract (a0U ⟨2,d,a,b,k,base,size,n⟩) (SleL.pure rfl) fun r hr=>?_;subst hr;simp only[go_sem,Int.reduceEq,Int.reduceBEq,a0n,a0m,or_false,or_true,false_or,true_or,or_self,hus,Int.reduceNeg,eq_true h0];refine VCall.of_contract (a0A _ _) (SleL.pure rfl) fun r hr=>?_;subst hr;simp only[go_sem,hd];exact ⟨_,Frz.pure rfl,rfl⟩
  ·simp only[go_sem,a0o,Int.reduceEq,Int.reduceBEq,a0n,a0m,or_false,or_true,false_or,true_or,or_self,hus,Int.reduceNeg];refine VCall.of_contract (a0U ⟨2,d,a,b,k,base,size,n⟩) (SleL.pure rfl) fun r hr=>?_;subst hr;simp only[go_sem,Int.reduceEq,Int.reduceBEq,a0n,a0m,or_false,or_true,false_or,true_or,or_self,hus,Int.reduceNeg,eq_false h0];refine VCall.of_contract (a0A _ _) (SleL.pure rfl) fun r hr=>?_;subst hr;simp only[go_sem,hd];exact ⟨_,Frz.pure rfl,rfl⟩
 have h0:=(of_decide_eq_true hd).1;have h0':=(of_decide_eq_true hd).2;simp only[go_sem,a0o,Int.reduceEq,Int.reduceBEq,a0n,a0m,or_false,or_true,false_or,true_or,or_self,hus,Int.reduceNeg];refine VCall.of_contract (a0U ⟨2,d,a,b,k,base,size,n⟩) (SleL.pure rfl) fun r hr=>?_;subst hr;simp only[go_sem,Int.reduceEq,Int.reduceBEq,a0n,a0m,or_false,or_true,false_or,true_or,or_self,hus,Int.reduceNeg,eq_true h0];refine VCall.of_contract (a0A _ _) (SleL.pure rfl) fun r hr=>?_;subst hr;simp only[go_sem,Int.reduceEq,Int.reduceBEq,a0n,a0m,or_false,or_true,false_or,true_or,or_self,hus,Int.reduceNeg,hd];refine VCall.of_contractN (a2o ⟨2,d,a,b,k,base,size,n⟩) ?_ fun r hr=>?_
 ·exact ⟨_,_,rfl,Frz.pure rfl,rfl⟩
 subst hr;simp only[go_sem,Int.reduceEq,Int.reduceBEq,a0n,a0m,or_false,or_true,false_or,true_or,or_self,hus,Int.reduceNeg];refine a0r (fun i:Nat=>⟨[(1,I f),(2,I regs),(3,I words),(4,.ptr 0 0 0),(9,.ptr 1 1 0),(10,a2t [a]),(11,I i)],[⟨0,95,1,a8s ⟨2,d,a,b,k,base,size,n⟩⟩,⟨1,95,1,[I 2,I d,I 0,I 0,I 0,I 0,I 0,U32 0]⟩],2⟩)
  (fun i=>i≤1∧∀ j<i,inB (([a]:List Int).getD j default) regs=true) (fun i=>1-i) 0 (Wk.mk (by simp[a0a]) ⟨[],rfl⟩ (Nat.le_refl _)) ⟨by omega,by omega⟩ ?_
 rintro i ⟨hi,hin⟩;by_cases hi0:i=0
 ·subst hi0;simp only[go_sem,Int.reduceEq,Int.reduceBEq,a0n,a0m,or_false,or_true,false_or,true_or,or_self,hus,Int.reduceNeg,Int.cast_ofNat_Int,Nat.cast_zero',Nat.cast_one'];refine VCall.of_contract (a0A _ _) (SleL.pure rfl) fun r hr=>?_;subst hr;cases hu:inB a regs
  ·simp only[go_sem,hu];refine ⟨_,Frz.pure rfl,?_⟩;have h2:=of_decide_eq_false hu;cases x
   ·rfl
   ·have:=hX.1 rfl;omega
  ·simp only[go_sem,hu,a4V,a4W];refine ⟨1,⟨by omega,fun j hj=>?_⟩,by omega,Wk.mk (by simp[a0a]) ⟨[],rfl⟩ (Nat.le_refl _)⟩;by_cases e:j=0
   ·subst e;exact hu
   ·exact hin j (by omega)
 obtain rfl:i=1:=by omega
 have hu0:=of_decide_eq_true (hin 0 (by omega));simp only[List.getD_cons_zero,List.getD_cons_succ]at hu0;simp only[go_sem,Int.reduceEq,Int.reduceBEq,a0n,a0m,or_false,or_true,false_or,true_or,or_self,hus,Int.reduceNeg,Int.cast_ofNat_Int,Nat.cast_zero',Nat.cast_one'];have hwr:1≤size→size≤4096→IntKind.i64.wrap (words-size)=words-size:=fun h1 h2=>a0e (by omega) (by omega)
 repeat' (first | (with_reducible apply And.intro) | (with_reducible intro _))
 all_goals
  refine ⟨_,Frz.pure rfl,?_⟩
  try (rename_i h1 h2 h3 h4;rw[hwr (by omega) (by omega)]at h4)
  congr 2;rw[Bool.eq_iff_iff,hX];simp only[Bool.and_eq_true,beq_iff_eq,true_and,and_true,Bool.false_eq_true,false_iff,not_and,and_imp]
  first | omega | (intros;omega)
theorem c5r (d a b k base size n f regs words:Int) (hw:0≤words∧words≤1048576):Contract Tryz.prog 57 [b5d ⟨3,d,a,b,k,base,size,n⟩,I f,I regs,I words] (fun r=>r=B (a3d ⟨3,d,a,b,k,base,size,n⟩ f regs words)):=by
 refine Contract.of_call (VCall.of_body a1g a0W (by simp) ?_);have hus:a0l ⟨3,d,a,b,k,base,size,n⟩=[a,b]:=by simp[a0l]
 obtain ⟨x,hx⟩:∃ x,a3d ⟨3,d,a,b,k,base,size,n⟩ f regs words=x:=⟨_,rfl⟩
 rw[hx];have hX:(x=true↔FitsT ⟨3,d,a,b,k,base,size,n⟩ f regs words):=by rw[← hx];exact decide_eq_true_iff
 simp only[FitsT,hus,a3L,a0m,Int.reduceEq,or_false,or_true,false_or,true_or,or_self,if_true,if_false,List.mem_cons,List.not_mem_nil,forall_eq_or_imp,forall_eq,false_implies,implies_true,true_and,and_true,Int.reduceLE,List.length_cons,List.length_nil,Nat.reduceAdd,Nat.reduceLeDiff,Nat.le_refl,forall_const,reduceCtorEq,Nat.zero_le]at hX;cases hd:inB d regs
 ·have hx0:x=false:=by
   cases x
   ·rfl
   ·have:=hX.1 rfl;have h2:=of_decide_eq_false hd;omega
  subst hx0;by_cases h0:0≤d
  ·simp only[go_sem,a0o,Int.reduceEq,Int.reduceBEq,a0n,a0m,or_false,or_true,false_or,true_or,or_self,hus,Int.reduceNeg];refine VCall.of_contract (a0U ⟨3,d,a,b,k,base,size,n⟩) (SleL.pure rfl) fun r hr=>?_;subst hr;simp only[go_sem,Int.reduceEq,Int.reduceBEq,a0n,a0m,or_false,or_true,false_or,true_or,or_self,hus,Int.reduceNeg,eq_true h0];refine VCall.of_contract (a0A _ _) (SleL.pure rfl) fun r hr=>?_;subst hr;simp only[go_sem,hd];exact ⟨_,Frz.pure rfl,rfl⟩
  ·simp only[go_sem,a0o,Int.reduceEq,Int.reduceBEq,a0n,a0m,or_false,or_true,false_or,true_or,or_self,hus,Int.reduceNeg];refine VCall.of_contract (a0U ⟨3,d,a,b,k,base,size,n⟩) (SleL.pure rfl) fun r hr=>?_;subst hr;simp only[go_sem,Int.reduceEq,Int.reduceBEq,a0n,a0m,or_false,or_true,false_or,true_or,or_self,hus,Int.reduceNeg,eq_false h0];refine VCall.of_contract (a0A _ _) (SleL.pure rfl) fun r hr=>?_;subst hr;simp only[go_sem,hd];exact ⟨_,Frz.pure rfl,rfl⟩
 have h0:=(of_decide_eq_true hd).1;have h0':=(of_decide_eq_true hd).2;simp only[go_sem,a0o,Int.reduceEq,Int.reduceBEq,a0n,a0m,or_false,or_true,false_or,true_or,or_self,hus,Int.reduceNeg];refine VCall.of_contract (a0U ⟨3,d,a,b,k,base,size,n⟩) (SleL.pure rfl) fun r hr=>?_;subst hr;simp only[go_sem,Int.reduceEq,Int.reduceBEq,a0n,a0m,or_false,or_true,false_or,true_or,or_self,hus,Int.reduceNeg,eq_true h0];refine VCall.of_contract (a0A _ _) (SleL.pure rfl) fun r hr=>?_;subst hr;simp only[go_sem,Int.reduceEq,Int.reduceBEq,a0n,a0m,or_false,or_true,false_or,true_or,or_self,hus,Int.reduceNeg,hd];refine VCall.of_contractN (a2o ⟨3,d,a,b,k,base,size,n⟩) ?_ fun r hr=>?_
 ·exact ⟨_,_,rfl,Frz.pure rfl,rfl⟩
 subst hr;simp only[go_sem,Int.reduceEq,Int.reduceBEq,a0n,a0m,or_false,or_true,false_or,true_or,or_self,hus,Int.reduceNeg];refine a0r (fun i:Nat=>⟨[(1,I f),(2,I regs),(3,I words),(4,.ptr 0 0 0),(9,.ptr 1 1 0),(10,a2t [a,b]),(11,I i)],[⟨0,95,1,a8s ⟨3,d,a,b,k,base,size,n⟩⟩,⟨1,95,1,[I 3,I d,I 0,I 0,I 0,I 0,I 0,U32 0]⟩],2⟩)
  (fun i=>i≤2∧∀ j<i,inB (([a,b]:List Int).getD j default) regs=true) (fun i=>2-i) 0 (Wk.mk (by simp[a0a]) ⟨[],rfl⟩ (Nat.le_refl _)) ⟨by omega,by omega⟩ ?_
 rintro i ⟨hi,hin⟩;by_cases hi0:i=0
 ·subst hi0;simp only[go_sem,Int.reduceEq,Int.reduceBEq,a0n,a0m,or_false,or_true,false_or,true_or,or_self,hus,Int.reduceNeg,Int.cast_ofNat_Int,Nat.cast_zero',Nat.cast_one'];refine VCall.of_contract (a0A _ _) (SleL.pure rfl) fun r hr=>?_;subst hr;cases hu:inB a regs
  ·simp only[go_sem,hu];refine ⟨_,Frz.pure rfl,?_⟩;have h2:=of_decide_eq_false hu;cases x
   ·rfl
   ·have:=hX.1 rfl;omega
  ·simp only[go_sem,hu,a4V,a4W];refine ⟨1,⟨by omega,fun j hj=>?_⟩,by omega,Wk.mk (by simp[a0a]) ⟨[],rfl⟩ (Nat.le_refl _)⟩;by_cases e:j=0
   ·subst e;exact hu
   ·exact hin j (by omega)
 by_cases hi1:i=1
 ·subst hi1;simp only[go_sem,Int.reduceEq,Int.reduceBEq,a0n,a0m,or_false,or_true,false_or,true_or,or_self,hus,Int.reduceNeg,Int.cast_ofNat_Int,Nat.cast_zero',Nat.cast_one'];refine VCall.of_contract (a0A _ _) (SleL.pure rfl) fun r hr=>?_;subst hr;cases hu:inB b regs
  ·simp only[go_sem,hu];refine ⟨_,Frz.pure rfl,?_⟩;have h2:=of_decide_eq_false hu;cases x
   ·rfl
   ·have:=hX.1 rfl;omega
  ·simp only[go_sem,hu,a4V,a4W];refine ⟨2,⟨by omega,fun j hj=>?_⟩,by omega,Wk.mk (by simp[a0a]) ⟨[],rfl⟩ (Nat.le_refl _)⟩;by_cases e:j=1
   ·subst e;exact hu
   ·exact hin j (by omega)
 obtain rfl:i=2:=by omega
 have hu0:=of_decide_eq_true (hin 0 (by omega));simp only[List.getD_cons_zero,List.getD_cons_succ]at hu0;have hu1:=of_decide_eq_true (hin 1 (by omega));simp only[List.getD_cons_zero,List.getD_cons_succ]at hu1;simp only[go_sem,Int.reduceEq,Int.reduceBEq,a0n,a0m,or_false,or_true,false_or,true_or,or_self,hus,Int.reduceNeg,Int.cast_ofNat_Int,Nat.cast_zero',Nat.cast_one'];have hwr:1≤size→size≤4096→IntKind.i64.wrap (words-size)=words-size:=fun h1 h2=>a0e (by omega) (by omega)
 repeat' (first | (with_reducible apply And.intro) | (with_reducible intro _))
 all_goals
  refine ⟨_,Frz.pure rfl,?_⟩
  try (rename_i h1 h2 h3 h4;rw[hwr (by omega) (by omega)]at h4)
  congr 2;rw[Bool.eq_iff_iff,hX];simp only[Bool.and_eq_true,beq_iff_eq,true_and,and_true,Bool.false_eq_true,false_iff,not_and,and_imp]
  first | omega | (intros;omega)
theorem c5s (d a b k base size n f regs words:Int) (hw:0≤words∧words≤1048576):Contract Tryz.prog 57 [b5d ⟨4,d,a,b,k,base,size,n⟩,I f,I regs,I words] (fun r=>r=B (a3d ⟨4,d,a,b,k,base,size,n⟩ f regs words)):=by
 refine Contract.of_call (VCall.of_body a1g a0W (by simp) ?_);have hus:a0l ⟨4,d,a,b,k,base,size,n⟩=[]:=by simp[a0l]
 obtain ⟨x,hx⟩:∃ x,a3d ⟨4,d,a,b,k,base,size,n⟩ f regs words=x:=⟨_,rfl⟩
 rw[hx];have hX:(x=true↔FitsT ⟨4,d,a,b,k,base,size,n⟩ f regs words):=by rw[← hx];exact decide_eq_true_iff
 simp only[FitsT,hus,a3L,a0m,Int.reduceEq,or_false,or_true,false_or,true_or,or_self,if_true,if_false,List.mem_cons,List.not_mem_nil,forall_eq_or_imp,forall_eq,false_implies,implies_true,true_and,and_true,Int.reduceLE,List.length_cons,List.length_nil,Nat.reduceAdd,Nat.reduceLeDiff,Nat.le_refl,forall_const,reduceCtorEq,Nat.zero_le]at hX;cases hd:inB d regs
 ·have hx0:x=false:=by
   cases x
   ·rfl
   ·have:=hX.1 rfl;have h2:=of_decide_eq_false hd;omega
  subst hx0;by_cases h0:0≤d
  ·simp only[go_sem,a0o,Int.reduceEq,Int.reduceBEq,a0n,a0m,or_false,or_true,false_or,true_or,or_self,hus,Int.reduceNeg];refine VCall.of_contract (a0U ⟨4,d,a,b,k,base,size,n⟩) (SleL.pure rfl) fun r hr=>?_;subst hr;simp only[go_sem,Int.reduceEq,Int.reduceBEq,a0n,a0m,or_false,or_true,false_or,true_or,or_self,hus,Int.reduceNeg,eq_true h0];refine VCall.of_contract (a0A _ _) (SleL.pure rfl) fun r hr=>?_;subst hr;simp only[go_sem,hd];exact ⟨_,Frz.pure rfl,rfl⟩
  ·simp only[go_sem,a0o,Int.reduceEq,Int.reduceBEq,a0n,a0m,or_false,or_true,false_or,true_or,or_self,hus,Int.reduceNeg];refine VCall.of_contract (a0U ⟨4,d,a,b,k,base,size,n⟩) (SleL.pure rfl) fun r hr=>?_;subst hr;simp only[go_sem,Int.reduceEq,Int.reduceBEq,a0n,a0m,or_false,or_true,false_or,true_or,or_self,hus,Int.reduceNeg,eq_false h0];refine VCall.of_contract (a0A _ _) (SleL.pure rfl) fun r hr=>?_;subst hr;simp only[go_sem,hd];exact ⟨_,Frz.pure rfl,rfl⟩
 have h0:=(of_decide_eq_true hd).1;have h0':=(of_decide_eq_true hd).2;simp only[go_sem,a0o,Int.reduceEq,Int.reduceBEq,a0n,a0m,or_false,or_true,false_or,true_or,or_self,hus,Int.reduceNeg];refine VCall.of_contract (a0U ⟨4,d,a,b,k,base,size,n⟩) (SleL.pure rfl) fun r hr=>?_;subst hr;simp only[go_sem,Int.reduceEq,Int.reduceBEq,a0n,a0m,or_false,or_true,false_or,true_or,or_self,hus,Int.reduceNeg,eq_true h0];refine VCall.of_contract (a0A _ _) (SleL.pure rfl) fun r hr=>?_;subst hr;simp only[go_sem,Int.reduceEq,Int.reduceBEq,a0n,a0m,or_false,or_true,false_or,true_or,or_self,hus,Int.reduceNeg,hd];refine VCall.of_contractN (a2o ⟨4,d,a,b,k,base,size,n⟩) ?_ fun r hr=>?_
 ·exact ⟨_,_,rfl,Frz.pure rfl,rfl⟩
 subst hr;simp only[go_sem,Int.reduceEq,Int.reduceBEq,a0n,a0m,or_false,or_true,false_or,true_or,or_self,hus,Int.reduceNeg];refine a0r (fun i:Nat=>⟨[(1,I f),(2,I regs),(3,I words),(4,.ptr 0 0 0),(9,.ptr 1 1 0),(10,a2t []),(11,I i)],[⟨0,95,1,a8s ⟨4,d,a,b,k,base,size,n⟩⟩,⟨1,95,1,[I 4,I d,I 0,I 0,I 0,I 0,I 0,U32 0]⟩],2⟩)
  (fun i=>i≤0∧∀ j<i,inB (([]:List Int).getD j default) regs=true) (fun i=>0-i) 0 (Wk.mk (by simp[a0a]) ⟨[],rfl⟩ (Nat.le_refl _)) ⟨by omega,by omega⟩ ?_
 rintro i ⟨hi,hin⟩;obtain rfl:i=0:=by omega
 simp only[go_sem,Int.reduceEq,Int.reduceBEq,a0n,a0m,or_false,or_true,false_or,true_or,or_self,hus,Int.reduceNeg,Int.cast_ofNat_Int,Nat.cast_zero',Nat.cast_one'];refine VCall.of_contract (a0A _ _) (SleL.pure rfl) fun r hr=>?_;subst hr;cases hb:inB base words
 ·have hb':=of_decide_eq_false hb;simp only[go_sem,hb];refine ⟨_,Frz.pure rfl,?_⟩;congr 2;rw[Bool.eq_iff_iff,hX];simp only[Bool.and_eq_true,beq_iff_eq,true_and,and_true,Bool.false_eq_true,false_iff,not_and,and_imp]
  first | omega | (intros;omega)
 ·have hb':=of_decide_eq_true hb;simp only[go_sem,hb];refine ⟨_,Frz.pure rfl,?_⟩;congr 2;rw[Bool.eq_iff_iff,hX];simp only[Bool.and_eq_true,beq_iff_eq,true_and,and_true,Bool.false_eq_true,false_iff,not_and,and_imp]
  first | omega | (intros;omega)
theorem c5t (d a b k base size n f regs words:Int) (hw:0≤words∧words≤1048576):Contract Tryz.prog 57 [b5d ⟨5,d,a,b,k,base,size,n⟩,I f,I regs,I words] (fun r=>r=B (a3d ⟨5,d,a,b,k,base,size,n⟩ f regs words)):=by
 refine Contract.of_call (VCall.of_body a1g a0W (by simp) ?_);have hus:a0l ⟨5,d,a,b,k,base,size,n⟩=[a]:=by simp[a0l]
 obtain ⟨x,hx⟩:∃ x,a3d ⟨5,d,a,b,k,base,size,n⟩ f regs words=x:=⟨_,rfl⟩
 rw[hx];have hX:(x=true↔FitsT ⟨5,d,a,b,k,base,size,n⟩ f regs words):=by rw[← hx];exact decide_eq_true_iff
 simp only[FitsT,hus,a3L,a0m,Int.reduceEq,or_false,or_true,false_or,true_or,or_self,if_true,if_false,List.mem_cons,List.not_mem_nil,forall_eq_or_imp,forall_eq,false_implies,implies_true,true_and,and_true,Int.reduceLE,List.length_cons,List.length_nil,Nat.reduceAdd,Nat.reduceLeDiff,Nat.le_refl,forall_const,reduceCtorEq,Nat.zero_le]at hX;simp only[go_sem,a0o,Int.reduceEq,Int.reduceBEq,a0n,a0m,or_false,or_true,false_or,true_or,or_self,hus,Int.reduceNeg];refine VCall.of_contract (a0U ⟨5,d,a,b,k,base,size,n⟩) (SleL.pure rfl) fun r hr=>?_;subst hr;simp only[go_sem,Int.reduceEq,Int.reduceBEq,a0n,a0m,or_false,or_true,false_or,true_or,or_self,hus,Int.reduceNeg];refine VCall.of_contractN (a2o ⟨5,d,a,b,k,base,size,n⟩) ?_ fun r hr=>?_
 ·exact ⟨_,_,rfl,Frz.pure rfl,rfl⟩
 subst hr;simp only[go_sem,Int.reduceEq,Int.reduceBEq,a0n,a0m,or_false,or_true,false_or,true_or,or_self,hus,Int.reduceNeg];refine a0r (fun i:Nat=>⟨[(1,I f),(2,I regs),(3,I words),(4,.ptr 0 0 0),(9,.ptr 1 1 0),(10,a2t [a]),(11,I i)],[⟨0,95,1,a8s ⟨5,d,a,b,k,base,size,n⟩⟩,⟨1,95,1,[I 5,I 0,I 0,I 0,I 0,I 0,I 0,U32 0]⟩],2⟩)
  (fun i=>i≤1∧∀ j<i,inB (([a]:List Int).getD j default) regs=true) (fun i=>1-i) 0 (Wk.mk (by simp[a0a]) ⟨[],rfl⟩ (Nat.le_refl _)) ⟨by omega,by omega⟩ ?_
 rintro i ⟨hi,hin⟩;by_cases hi0:i=0
 ·subst hi0;simp only[go_sem,Int.reduceEq,Int.reduceBEq,a0n,a0m,or_false,or_true,false_or,true_or,or_self,hus,Int.reduceNeg,Int.cast_ofNat_Int,Nat.cast_zero',Nat.cast_one'];refine VCall.of_contract (a0A _ _) (SleL.pure rfl) fun r hr=>?_;subst hr;cases hu:inB a regs
  ·simp only[go_sem,hu];refine ⟨_,Frz.pure rfl,?_⟩;have h2:=of_decide_eq_false hu;cases x
   ·rfl
   ·have:=hX.1 rfl;omega
  ·simp only[go_sem,hu,a4V,a4W];refine ⟨1,⟨by omega,fun j hj=>?_⟩,by omega,Wk.mk (by simp[a0a]) ⟨[],rfl⟩ (Nat.le_refl _)⟩;by_cases e:j=0
   ·subst e;exact hu
   ·exact hin j (by omega)
 obtain rfl:i=1:=by omega
 have hu0:=of_decide_eq_true (hin 0 (by omega));simp only[List.getD_cons_zero,List.getD_cons_succ]at hu0;simp only[go_sem,Int.reduceEq,Int.reduceBEq,a0n,a0m,or_false,or_true,false_or,true_or,or_self,hus,Int.reduceNeg,Int.cast_ofNat_Int,Nat.cast_zero',Nat.cast_one'];refine VCall.of_contract (a0A _ _) (SleL.pure rfl) fun r hr=>?_;subst hr;cases hb:inB base words
 ·have hb':=of_decide_eq_false hb;simp only[go_sem,hb];refine ⟨_,Frz.pure rfl,?_⟩;congr 2;rw[Bool.eq_iff_iff,hX];simp only[Bool.and_eq_true,beq_iff_eq,true_and,and_true,Bool.false_eq_true,false_iff,not_and,and_imp]
  first | omega | (intros;omega)
 ·have hb':=of_decide_eq_true hb;simp only[go_sem,hb];refine ⟨_,Frz.pure rfl,?_⟩;congr 2;rw[Bool.eq_iff_iff,hX];simp only[Bool.and_eq_true,beq_iff_eq,true_and,and_true,Bool.false_eq_true,false_iff,not_and,and_imp]
  first | omega | (intros;omega)
theorem c5u (d a b k base size n f regs words:Int) (hw:0≤words∧words≤1048576):Contract Tryz.prog 57 [b5d ⟨6,d,a,b,k,base,size,n⟩,I f,I regs,I words] (fun r=>r=B (a3d ⟨6,d,a,b,k,base,size,n⟩ f regs words)):=by
 refine Contract.of_call (VCall.of_body a1g a0W (by simp) ?_);have hus:a0l ⟨6,d,a,b,k,base,size,n⟩=[a]:=by simp[a0l]
 obtain ⟨x,hx⟩:∃ x,a3d ⟨6,d,a,b,k,base,size,n⟩ f regs words=x:=⟨_,rfl⟩
 rw[hx];have hX:(x=true↔FitsT ⟨6,d,a,b,k,base,size,n⟩ f regs words):=by rw[← hx];exact decide_eq_true_iff
 simp only[FitsT,hus,a3L,a0m,Int.reduceEq,or_false,or_true,false_or,true_or,or_self,if_true,if_false,List.mem_cons,List.not_mem_nil,forall_eq_or_imp,forall_eq,false_implies,implies_true,true_and,and_true,Int.reduceLE,List.length_cons,List.length_nil,Nat.reduceAdd,Nat.reduceLeDiff,Nat.le_refl,forall_const,reduceCtorEq,Nat.zero_le]at hX;cases hd:inB d regs
 ·have hx0:x=false:=by
   cases x
   ·rfl
   ·have:=hX.1 rfl;have h2:=of_decide_eq_false hd;omega
  subst hx0;by_cases h0:0≤d
  ·simp only[go_sem,a0o,Int.reduceEq,Int.reduceBEq,a0n,a0m,or_false,or_true,false_or,true_or,or_self,hus,Int.reduceNeg];refine VCall.of_contract (a0U ⟨6,d,a,b,k,base,size,n⟩) (SleL.pure rfl) fun r hr=>?_;subst hr;simp only[go_sem,Int.reduceEq,Int.reduceBEq,a0n,a0m,or_false,or_true,false_or,true_or,or_self,hus,Int.reduceNeg,eq_true h0];refine VCall.of_contract (a0A _ _) (SleL.pure rfl) fun r hr=>?_;subst hr;simp only[go_sem,hd];exact ⟨_,Frz.pure rfl,rfl⟩
  ·simp only[go_sem,a0o,Int.reduceEq,Int.reduceBEq,a0n,a0m,or_false,or_true,false_or,true_or,or_self,hus,Int.reduceNeg];refine VCall.of_contract (a0U ⟨6,d,a,b,k,base,size,n⟩) (SleL.pure rfl) fun r hr=>?_;subst hr;simp only[go_sem,Int.reduceEq,Int.reduceBEq,a0n,a0m,or_false,or_true,false_or,true_or,or_self,hus,Int.reduceNeg,eq_false h0];refine VCall.of_contract (a0A _ _) (SleL.pure rfl) fun r hr=>?_;subst hr;simp only[go_sem,hd];exact ⟨_,Frz.pure rfl,rfl⟩
 have h0:=(of_decide_eq_true hd).1;have h0':=(of_decide_eq_true hd).2;simp only[go_sem,a0o,Int.reduceEq,Int.reduceBEq,a0n,a0m,or_false,or_true,false_or,true_or,or_self,hus,Int.reduceNeg];refine VCall.of_contract (a0U ⟨6,d,a,b,k,base,size,n⟩) (SleL.pure rfl) fun r hr=>?_;subst hr;simp only[go_sem,Int.reduceEq,Int.reduceBEq,a0n,a0m,or_false,or_true,false_or,true_or,or_self,hus,Int.reduceNeg,eq_true h0];refine VCall.of_contract (a0A _ _) (SleL.pure rfl) fun r hr=>?_;subst hr;simp only[go_sem,Int.reduceEq,Int.reduceBEq,a0n,a0m,or_false,or_true,false_or,true_or,or_self,hus,Int.reduceNeg,hd];refine VCall.of_contractN (a2o ⟨6,d,a,b,k,base,size,n⟩) ?_ fun r hr=>?_
 ·exact ⟨_,_,rfl,Frz.pure rfl,rfl⟩
 subst hr;simp only[go_sem,Int.reduceEq,Int.reduceBEq,a0n,a0m,or_false,or_true,false_or,true_or,or_self,hus,Int.reduceNeg];refine a0r (fun i:Nat=>⟨[(1,I f),(2,I regs),(3,I words),(4,.ptr 0 0 0),(9,.ptr 1 1 0),(10,a2t [a]),(11,I i)],[⟨0,95,1,a8s ⟨6,d,a,b,k,base,size,n⟩⟩,⟨1,95,1,[I 6,I d,I 0,I 0,I 0,I 0,I 0,U32 0]⟩],2⟩)
  (fun i=>i≤1∧∀ j<i,inB (([a]:List Int).getD j default) regs=true) (fun i=>1-i) 0 (Wk.mk (by simp[a0a]) ⟨[],rfl⟩ (Nat.le_refl _)) ⟨by omega,by omega⟩ ?_
 rintro i ⟨hi,hin⟩;by_cases hi0:i=0
 ·subst hi0;simp only[go_sem,Int.reduceEq,Int.reduceBEq,a0n,a0m,or_false,or_true,false_or,true_or,or_self,hus,Int.reduceNeg,Int.cast_ofNat_Int,Nat.cast_zero',Nat.cast_one'];refine VCall.of_contract (a0A _ _) (SleL.pure rfl) fun r hr=>?_;subst hr;cases hu:inB a regs
  ·simp only[go_sem,hu];refine ⟨_,Frz.pure rfl,?_⟩;have h2:=of_decide_eq_false hu;cases x
   ·rfl
   ·have:=hX.1 rfl;omega
  ·simp only[go_sem,hu,a4V,a4W];refine ⟨1,⟨by omega,fun j hj=>?_⟩,by omega,Wk.mk (by simp[a0a]) ⟨[],rfl⟩ (Nat.le_refl _)⟩;by_cases e:j=0
   ·subst e;exact hu
   ·exact hin j (by omega)
 obtain rfl:i=1:=by omega
 have hu0:=of_decide_eq_true (hin 0 (by omega));simp only[List.getD_cons_zero,List.getD_cons_succ]at hu0;simp only[go_sem,Int.reduceEq,Int.reduceBEq,a0n,a0m,or_false,or_true,false_or,true_or,or_self,hus,Int.reduceNeg,Int.cast_ofNat_Int,Nat.cast_zero',Nat.cast_one'];have hwr:1≤size→size≤4096→IntKind.i64.wrap (words-size)=words-size:=fun h1 h2=>a0e (by omega) (by omega)
 repeat' (first | (with_reducible apply And.intro) | (with_reducible intro _))
 all_goals
  refine ⟨_,Frz.pure rfl,?_⟩
  try (rename_i h1 h2 h3 h4;rw[hwr (by omega) (by omega)]at h4)
  congr 2;rw[Bool.eq_iff_iff,hX];simp only[Bool.and_eq_true,beq_iff_eq,true_and,and_true,Bool.false_eq_true,false_iff,not_and,and_imp]
  first | omega | (intros;omega)
theorem c5v (d a b k base size n f regs words:Int) (hw:0≤words∧words≤1048576):Contract Tryz.prog 57 [b5d ⟨7,d,a,b,k,base,size,n⟩,I f,I regs,I words] (fun r=>r=B (a3d ⟨7,d,a,b,k,base,size,n⟩ f regs words)):=by
 refine Contract.of_call (VCall.of_body a1g a0W (by simp) ?_);have hus:a0l ⟨7,d,a,b,k,base,size,n⟩=[a,b]:=by simp[a0l]
 obtain ⟨x,hx⟩:∃ x,a3d ⟨7,d,a,b,k,base,size,n⟩ f regs words=x:=⟨_,rfl⟩
 rw[hx];have hX:(x=true↔FitsT ⟨7,d,a,b,k,base,size,n⟩ f regs words):=by rw[← hx];exact decide_eq_true_iff
 simp only[FitsT,hus,a3L,a0m,Int.reduceEq,or_false,or_true,false_or,true_or,or_self,if_true,if_false,List.mem_cons,List.not_mem_nil,forall_eq_or_imp,forall_eq,false_implies,implies_true,true_and,and_true,Int.reduceLE,List.length_cons,List.length_nil,Nat.reduceAdd,Nat.reduceLeDiff,Nat.le_refl,forall_const,reduceCtorEq,Nat.zero_le]at hX;simp only[go_sem,a0o,Int.reduceEq,Int.reduceBEq,a0n,a0m,or_false,or_true,false_or,true_or,or_self,hus,Int.reduceNeg];refine VCall.of_contract (a0U ⟨7,d,a,b,k,base,size,n⟩) (SleL.pure rfl) fun r hr=>?_;subst hr;simp only[go_sem,Int.reduceEq,Int.reduceBEq,a0n,a0m,or_false,or_true,false_or,true_or,or_self,hus,Int.reduceNeg];refine VCall.of_contractN (a2o ⟨7,d,a,b,k,base,size,n⟩) ?_ fun r hr=>?_
 ·exact ⟨_,_,rfl,Frz.pure rfl,rfl⟩
 subst hr;simp only[go_sem,Int.reduceEq,Int.reduceBEq,a0n,a0m,or_false,or_true,false_or,true_or,or_self,hus,Int.reduceNeg];refine a0r (fun i:Nat=>⟨[(1,I f),(2,I regs),(3,I words),(4,.ptr 0 0 0),(9,.ptr 1 1 0),(10,a2t [a,b]),(11,I i)],[⟨0,95,1,a8s ⟨7,d,a,b,k,base,size,n⟩⟩,⟨1,95,1,[I 7,I 0,I 0,I 0,I 0,I 0,I 0,U32 0]⟩],2⟩)
  (fun i=>i≤2∧∀ j<i,inB (([a,b]:List Int).getD j default) regs=true) (fun i=>2-i) 0 (Wk.mk (by simp[a0a]) ⟨[],rfl⟩ (Nat.le_refl _)) ⟨by omega,by omega⟩ ?_
 rintro i ⟨hi,hin⟩;by_cases hi0:i=0
 ·subst hi0;simp only[go_sem,Int.reduceEq,Int.reduceBEq,a0n,a0m,or_false,or_true,false_or,true_or,or_self,hus,Int.reduceNeg,Int.cast_ofNat_Int,Nat.cast_zero',Nat.cast_one'];refine VCall.of_contract (a0A _ _) (SleL.pure rfl) fun r hr=>?_;subst hr;cases hu:inB a regs
  ·simp only[go_sem,hu];refine ⟨_,Frz.pure rfl,?_⟩;have h2:=of_decide_eq_false hu;cases x
   ·rfl
   ·have:=hX.1 rfl;omega
  ·simp only[go_sem,hu,a4V,a4W];refine ⟨1,⟨by omega,fun j hj=>?_⟩,by omega,Wk.mk (by simp[a0a]) ⟨[],rfl⟩ (Nat.le_refl _)⟩;by_cases e:j=0
   ·subst e;exact hu
   ·exact hin j (by omega)
 by_cases hi1:i=1
 ·subst hi1;simp only[go_sem,Int.reduceEq,Int.reduceBEq,a0n,a0m,or_false,or_true,false_or,true_or,or_self,hus,Int.reduceNeg,Int.cast_ofNat_Int,Nat.cast_zero',Nat.cast_one'];refine VCall.of_contract (a0A _ _) (SleL.pure rfl) fun r hr=>?_;subst hr;cases hu:inB b regs
  ·simp only[go_sem,hu];refine ⟨_,Frz.pure rfl,?_⟩;have h2:=of_decide_eq_false hu;cases x
   ·rfl
   ·have:=hX.1 rfl;omega
  ·simp only[go_sem,hu,a4V,a4W];refine ⟨2,⟨by omega,fun j hj=>?_⟩,by omega,Wk.mk (by simp[a0a]) ⟨[],rfl⟩ (Nat.le_refl _)⟩;by_cases e:j=1
   ·subst e;exact hu
   ·exact hin j (by omega)
 obtain rfl:i=2:=by omega
 have hu0:=of_decide_eq_true (hin 0 (by omega));simp only[List.getD_cons_zero,List.getD_cons_succ]at hu0;have hu1:=of_decide_eq_true (hin 1 (by omega));simp only[List.getD_cons_zero,List.getD_cons_succ]at hu1;simp only[go_sem,Int.reduceEq,Int.reduceBEq,a0n,a0m,or_false,or_true,false_or,true_or,or_self,hus,Int.reduceNeg,Int.cast_ofNat_Int,Nat.cast_zero',Nat.cast_one'];have hwr:1≤size→size≤4096→IntKind.i64.wrap (words-size)=words-size:=fun h1 h2=>a0e (by omega) (by omega)
 repeat' (first | (with_reducible apply And.intro) | (with_reducible intro _))
 all_goals
  refine ⟨_,Frz.pure rfl,?_⟩
  try (rename_i h1 h2 h3 h4;rw[hwr (by omega) (by omega)]at h4)
  congr 2;rw[Bool.eq_iff_iff,hX];simp only[Bool.and_eq_true,beq_iff_eq,true_and,and_true,Bool.false_eq_true,false_iff,not_and,and_imp]
  first | omega | (intros;omega)
theorem c5w (d a b k base size n f regs words:Int) (hw:0≤words∧words≤1048576):Contract Tryz.prog 57 [b5d ⟨8,d,a,b,k,base,size,n⟩,I f,I regs,I words] (fun r=>r=B (a3d ⟨8,d,a,b,k,base,size,n⟩ f regs words)):=by
 refine Contract.of_call (VCall.of_body a1g a0W (by simp) ?_);have hus:a0l ⟨8,d,a,b,k,base,size,n⟩=[]:=by simp[a0l]
 obtain ⟨x,hx⟩:∃ x,a3d ⟨8,d,a,b,k,base,size,n⟩ f regs words=x:=⟨_,rfl⟩
 rw[hx];have hX:(x=true↔FitsT ⟨8,d,a,b,k,base,size,n⟩ f regs words):=by rw[← hx];exact decide_eq_true_iff
 simp only[FitsT,hus,a3L,a0m,Int.reduceEq,or_false,or_true,false_or,true_or,or_self,if_true,if_false,List.mem_cons,List.not_mem_nil,forall_eq_or_imp,forall_eq,false_implies,implies_true,true_and,and_true,Int.reduceLE,List.length_cons,List.length_nil,Nat.reduceAdd,Nat.reduceLeDiff,Nat.le_refl,forall_const,reduceCtorEq,Nat.zero_le]at hX;cases hd:inB d regs
 ·have hx0:x=false:=by
   cases x
   ·rfl
   ·have:=hX.1 rfl;have h2:=of_decide_eq_false hd;omega
  subst hx0;by_cases h0:0≤d
  ·simp only[go_sem,a0o,Int.reduceEq,Int.reduceBEq,a0n,a0m,or_false,or_true,false_or,true_or,or_self,hus,Int.reduceNeg];refine VCall.of_contract (a0U ⟨8,d,a,b,k,base,size,n⟩) (SleL.pure rfl) fun r hr=>?_;subst hr;simp only[go_sem,Int.reduceEq,Int.reduceBEq,a0n,a0m,or_false,or_true,false_or,true_or,or_self,hus,Int.reduceNeg,eq_true h0];refine VCall.of_contract (a0A _ _) (SleL.pure rfl) fun r hr=>?_;subst hr;simp only[go_sem,hd];exact ⟨_,Frz.pure rfl,rfl⟩
  ·simp only[go_sem,a0o,Int.reduceEq,Int.reduceBEq,a0n,a0m,or_false,or_true,false_or,true_or,or_self,hus,Int.reduceNeg];refine VCall.of_contract (a0U ⟨8,d,a,b,k,base,size,n⟩) (SleL.pure rfl) fun r hr=>?_;subst hr;simp only[go_sem,Int.reduceEq,Int.reduceBEq,a0n,a0m,or_false,or_true,false_or,true_or,or_self,hus,Int.reduceNeg,eq_false h0];refine VCall.of_contract (a0A _ _) (SleL.pure rfl) fun r hr=>?_;subst hr;simp only[go_sem,hd];exact ⟨_,Frz.pure rfl,rfl⟩
 have h0:=(of_decide_eq_true hd).1;have h0':=(of_decide_eq_true hd).2;simp only[go_sem,a0o,Int.reduceEq,Int.reduceBEq,a0n,a0m,or_false,or_true,false_or,true_or,or_self,hus,Int.reduceNeg];refine VCall.of_contract (a0U ⟨8,d,a,b,k,base,size,n⟩) (SleL.pure rfl) fun r hr=>?_;subst hr;simp only[go_sem,Int.reduceEq,Int.reduceBEq,a0n,a0m,or_false,or_true,false_or,true_or,or_self,hus,Int.reduceNeg,eq_true h0];refine VCall.of_contract (a0A _ _) (SleL.pure rfl) fun r hr=>?_;subst hr;simp only[go_sem,Int.reduceEq,Int.reduceBEq,a0n,a0m,or_false,or_true,false_or,true_or,or_self,hus,Int.reduceNeg,hd];refine VCall.of_contractN (a2o ⟨8,d,a,b,k,base,size,n⟩) ?_ fun r hr=>?_
 ·exact ⟨_,_,rfl,Frz.pure rfl,rfl⟩
 subst hr;simp only[go_sem,Int.reduceEq,Int.reduceBEq,a0n,a0m,or_false,or_true,false_or,true_or,or_self,hus,Int.reduceNeg];refine a0r (fun i:Nat=>⟨[(1,I f),(2,I regs),(3,I words),(4,.ptr 0 0 0),(9,.ptr 1 1 0),(10,a2t []),(11,I i)],[⟨0,95,1,a8s ⟨8,d,a,b,k,base,size,n⟩⟩,⟨1,95,1,[I 8,I d,I 0,I 0,I 0,I 0,I 0,U32 0]⟩],2⟩)
  (fun i=>i≤0∧∀ j<i,inB (([]:List Int).getD j default) regs=true) (fun i=>0-i) 0 (Wk.mk (by simp[a0a]) ⟨[],rfl⟩ (Nat.le_refl _)) ⟨by omega,by omega⟩ ?_
 rintro i ⟨hi,hin⟩;obtain rfl:i=0:=by omega
 simp only[go_sem,Int.reduceEq,Int.reduceBEq,a0n,a0m,or_false,or_true,false_or,true_or,or_self,hus,Int.reduceNeg,Int.cast_ofNat_Int,Nat.cast_zero',Nat.cast_one'];have hwr:1≤size→size≤4096→IntKind.i64.wrap (words-size)=words-size:=fun h1 h2=>a0e (by omega) (by omega)
 repeat' (first | (with_reducible apply And.intro) | (with_reducible intro _))
 all_goals
  refine ⟨_,Frz.pure rfl,?_⟩
  try (rename_i h1 h2 h3 h4;rw[hwr (by omega) (by omega)]at h4)
  congr 2;rw[Bool.eq_iff_iff,hX];simp only[Bool.and_eq_true,beq_iff_eq,true_and,and_true,Bool.false_eq_true,false_iff,not_and,and_imp]
  first | omega | (intros;omega)
theorem c5x (d a b k base size n f regs words:Int) (hw:0≤words∧words≤1048576):Contract Tryz.prog 57 [b5d ⟨9,d,a,b,k,base,size,n⟩,I f,I regs,I words] (fun r=>r=B (a3d ⟨9,d,a,b,k,base,size,n⟩ f regs words)):=by
 refine Contract.of_call (VCall.of_body a1g a0W (by simp) ?_);have hus:a0l ⟨9,d,a,b,k,base,size,n⟩=[a]:=by simp[a0l]
 obtain ⟨x,hx⟩:∃ x,a3d ⟨9,d,a,b,k,base,size,n⟩ f regs words=x:=⟨_,rfl⟩
 rw[hx];have hX:(x=true↔FitsT ⟨9,d,a,b,k,base,size,n⟩ f regs words):=by rw[← hx];exact decide_eq_true_iff
 simp only[FitsT,hus,a3L,a0m,Int.reduceEq,or_false,or_true,false_or,true_or,or_self,if_true,if_false,List.mem_cons,List.not_mem_nil,forall_eq_or_imp,forall_eq,false_implies,implies_true,true_and,and_true,Int.reduceLE,List.length_cons,List.length_nil,Nat.reduceAdd,Nat.reduceLeDiff,Nat.le_refl,forall_const,reduceCtorEq,Nat.zero_le]at hX;simp only[go_sem,a0o,Int.reduceEq,Int.reduceBEq,a0n,a0m,or_false,or_true,false_or,true_or,or_self,hus,Int.reduceNeg];refine VCall.of_contract (a0U ⟨9,d,a,b,k,base,size,n⟩) (SleL.pure rfl) fun r hr=>?_;subst hr;simp only[go_sem,Int.reduceEq,Int.reduceBEq,a0n,a0m,or_false,or_true,false_or,true_or,or_self,hus,Int.reduceNeg];refine VCall.of_contractN (a2o ⟨9,d,a,b,k,base,size,n⟩) ?_ fun r hr=>?_
 ·exact ⟨_,_,rfl,Frz.pure rfl,rfl⟩
 subst hr;simp only[go_sem,Int.reduceEq,Int.reduceBEq,a0n,a0m,or_false,or_true,false_or,true_or,or_self,hus,Int.reduceNeg];refine a0r (fun i:Nat=>⟨[(1,I f),(2,I regs),(3,I words),(4,.ptr 0 0 0),(9,.ptr 1 1 0),(10,a2t [a]),(11,I i)],[⟨0,95,1,a8s ⟨9,d,a,b,k,base,size,n⟩⟩,⟨1,95,1,[I 9,I 0,I 0,I 0,I 0,I 0,I 0,U32 0]⟩],2⟩)
  (fun i=>i≤1∧∀ j<i,inB (([a]:List Int).getD j default) regs=true) (fun i=>1-i) 0 (Wk.mk (by simp[a0a]) ⟨[],rfl⟩ (Nat.le_refl _)) ⟨by omega,by omega⟩ ?_
 rintro i ⟨hi,hin⟩;by_cases hi0:i=0
 ·subst hi0;simp only[go_sem,Int.reduceEq,Int.reduceBEq,a0n,a0m,or_false,or_true,false_or,true_or,or_self,hus,Int.reduceNeg,Int.cast_ofNat_Int,Nat.cast_zero',Nat.cast_one'];refine VCall.of_contract (a0A _ _) (SleL.pure rfl) fun r hr=>?_;subst hr;cases hu:inB a regs
  ·simp only[go_sem,hu];refine ⟨_,Frz.pure rfl,?_⟩;have h2:=of_decide_eq_false hu;cases x
   ·rfl
   ·have:=hX.1 rfl;omega
  ·simp only[go_sem,hu,a4V,a4W];refine ⟨1,⟨by omega,fun j hj=>?_⟩,by omega,Wk.mk (by simp[a0a]) ⟨[],rfl⟩ (Nat.le_refl _)⟩;by_cases e:j=0
   ·subst e;exact hu
   ·exact hin j (by omega)
 obtain rfl:i=1:=by omega
 have hu0:=of_decide_eq_true (hin 0 (by omega));simp only[List.getD_cons_zero,List.getD_cons_succ]at hu0;simp only[go_sem,Int.reduceEq,Int.reduceBEq,a0n,a0m,or_false,or_true,false_or,true_or,or_self,hus,Int.reduceNeg,Int.cast_ofNat_Int,Nat.cast_zero',Nat.cast_one'];have hwr:1≤size→size≤4096→IntKind.i64.wrap (words-size)=words-size:=fun h1 h2=>a0e (by omega) (by omega)
 repeat' (first | (with_reducible apply And.intro) | (with_reducible intro _))
 all_goals
  refine ⟨_,Frz.pure rfl,?_⟩
  try (rename_i h1 h2 h3 h4;rw[hwr (by omega) (by omega)]at h4)
  congr 2;rw[Bool.eq_iff_iff,hX];simp only[Bool.and_eq_true,beq_iff_eq,true_and,and_true,Bool.false_eq_true,false_iff,not_and,and_imp]
  first | omega | (intros;omega)
theorem c3l (d a b k base size n f regs words:Int) (hw:0≤words∧words≤1048576):Contract Tryz.prog 57 [b5d ⟨10,d,a,b,k,base,size,n⟩,I f,I regs,I words] (fun r=>r=B (a3d ⟨10,d,a,b,k,base,size,n⟩ f regs words)):=by
 refine Contract.of_call (VCall.of_body a1g a0W (by simp) ?_);have hus:a0l ⟨10,d,a,b,k,base,size,n⟩=[]:=by simp[a0l]
 obtain ⟨x,hx⟩:∃ x,a3d ⟨10,d,a,b,k,base,size,n⟩ f regs words=x:=⟨_,rfl⟩
 rw[hx];have hX:(x=true↔FitsT ⟨10,d,a,b,k,base,size,n⟩ f regs words):=by rw[← hx];exact decide_eq_true_iff
 simp only[FitsT,hus,a3L,a0m,Int.reduceEq,or_false,or_true,false_or,true_or,or_self,if_true,if_false,List.mem_cons,List.not_mem_nil,forall_eq_or_imp,forall_eq,false_implies,implies_true,true_and,and_true,Int.reduceLE,List.length_cons,List.length_nil,Nat.reduceAdd,Nat.reduceLeDiff,Nat.le_refl,forall_const,reduceCtorEq,Nat.zero_le]at hX;simp only[go_sem,a0o,Int.reduceEq,Int.reduceBEq,a0n,a0m,or_false,or_true,false_or,true_or,or_self,hus,Int.reduceNeg];refine VCall.of_contract (a0U ⟨10,d,a,b,k,base,size,n⟩) (SleL.pure rfl) fun r hr=>?_;subst hr;simp only[go_sem,Int.reduceEq,Int.reduceBEq,a0n,a0m,or_false,or_true,false_or,true_or,or_self,hus,Int.reduceNeg];refine VCall.of_contractN (a2o ⟨10,d,a,b,k,base,size,n⟩) ?_ fun r hr=>?_
 ·exact ⟨_,_,rfl,Frz.pure rfl,rfl⟩
 subst hr;simp only[go_sem,Int.reduceEq,Int.reduceBEq,a0n,a0m,or_false,or_true,false_or,true_or,or_self,hus,Int.reduceNeg];refine a0r (fun i:Nat=>⟨[(1,I f),(2,I regs),(3,I words),(4,.ptr 0 0 0),(9,.ptr 1 1 0),(10,a2t []),(11,I i)],[⟨0,95,1,a8s ⟨10,d,a,b,k,base,size,n⟩⟩,⟨1,95,1,[I 10,I 0,I 0,I 0,I 0,I 0,I 0,U32 0]⟩],2⟩)
  (fun i=>i≤0∧∀ j<i,inB (([]:List Int).getD j default) regs=true) (fun i=>0-i) 0 (Wk.mk (by simp[a0a]) ⟨[],rfl⟩ (Nat.le_refl _)) ⟨by omega,by omega⟩ ?_
 rintro i ⟨hi,hin⟩;obtain rfl:i=0:=by omega
 simp only[go_sem,Int.reduceEq,Int.reduceBEq,a0n,a0m,or_false,or_true,false_or,true_or,or_self,hus,Int.reduceNeg,Int.cast_ofNat_Int,Nat.cast_zero',Nat.cast_one'];refine VCall.of_contract (a0A _ _) (SleL.pure rfl) fun r hr=>?_;subst hr;cases hb:inB base f
 ·have hb':=of_decide_eq_false hb;simp only[go_sem,hb];refine ⟨_,Frz.pure rfl,?_⟩;congr 2;rw[Bool.eq_iff_iff,hX];simp only[Bool.and_eq_true,beq_iff_eq,true_and,and_true,Bool.false_eq_true,false_iff,not_and,and_imp]
  first | omega | (intros;omega)
 ·have hb':=of_decide_eq_true hb;simp only[go_sem,hb];refine ⟨_,Frz.pure rfl,?_⟩;congr 2;rw[Bool.eq_iff_iff,hX];simp only[Bool.and_eq_true,beq_iff_eq,true_and,and_true,Bool.false_eq_true,false_iff,not_and,and_imp]
  first | omega | (intros;omega)
theorem c5y (t:Tac) (f regs words:Int) (hw:0≤words∧words≤1048576):Contract Tryz.prog 57 [b5d t,I f,I regs,I words] (fun r=>r=B (a3d t f regs words)):=by
 obtain ⟨op,d,a,b,k,base,size,n⟩:=t;by_cases ho:op<1∨op > 10
 ·refine Contract.of_call (VCall.of_body a1g a0W (by simp) ?_);have e:a3d ⟨op,d,a,b,k,base,size,n⟩ f regs words=false:=decide_eq_false (by unfold FitsT;simp only;omega);rw[e];rcases ho with h | h
  ·simp only[go_sem,a0o,eq_true h];exact ⟨_,Frz.pure rfl,rfl⟩
  ·simp only[go_sem,a0o,eq_false (show ¬ op<1 by omega),eq_true (show 10<op by omega)];exact ⟨_,Frz.pure rfl,rfl⟩
 have hop:op=1∨op=2∨op=3∨op=4∨op=5∨op=6∨op=7∨op=8∨op=9∨op=10:=by omega
 rcases hop with rfl | rfl | rfl | rfl | rfl | rfl | rfl | rfl | rfl | rfl
 ·exact c5p d a b k base size n f regs words hw
 ·exact c5q d a b k base size n f regs words hw
 ·exact c5r d a b k base size n f regs words hw
 ·exact c5s d a b k base size n f regs words hw
 ·exact c5t d a b k base size n f regs words hw
 ·exact c5u d a b k base size n f regs words hw
 ·exact c5v d a b k base size n f regs words hw
 ·exact c5w d a b k base size n f regs words hw
 ·exact c5x d a b k base size n f regs words hw
 ·exact c3l d a b k base size n f regs words hw
abbrev a5n (m:List (List Bool)):AV:=.imm 1 (m.map a7m)
structure LD where
 inn:List (List Bool)
 out:List (List Bool)
deriving Inhabited
abbrev c3m (L:LD):AV:=.agg [a5n L.inn,a5n L.out]
def gB (l:List Bool) (v:Nat):Bool:=l.getD v false
def LD.I (L:LD) (b v:Nat):Bool:=gB (L.inn.getD b []) v
def LD.O (L:LD) (b v:Nat):Bool:=gB (L.out.getD b []) v
def a0u (t:Tac) (l:List Bool):List Bool:=if 0≤a0n t then l.set (a0n t).toNat false else l
def a3W (l:List Bool) (us:List Int):List Bool:=us.foldl (fun l u=>l.set u.toNat true) l
def b5g (t:Tac) (l:List Bool):List Bool:=a3W (a0u t l) (a0l t)
def a8Q (b:Bk) (l:List Bool):List Bool:=if b.e=2 then l.set b.v.toNat true else l
def b2Z (ins:List Tac) (l:List Bool):List Bool:=ins.foldr b5g l
def a3D (b:Bk) (l:List Bool):List Bool:=b2Z b.ins (a8Q b l)
def a5E (b:Bk) (l:List Bool):List (List Bool):=(List.range b.ins.length).map fun i=>b2Z (b.ins.drop (i+1)) (a8Q b l)
theorem a2c:∀ (us:List Int) (l:List Bool),(a3W l us).length=l.length
 | [],_=>rfl
 | u::us,l=>by simp only[a3W,List.foldl_cons];rw[← a3W,a2c us];simp
theorem a1J (t:Tac) (l:List Bool):(a0u t l).length=l.length:=by unfold a0u;split<;>simp
theorem c1x (t:Tac) (l:List Bool):(b5g t l).length=l.length:=by unfold b5g;rw[a2c,a1J]
theorem a3E (b:Bk) (l:List Bool):(a8Q b l).length=l.length:=by unfold a8Q;split<;>simp
theorem a4n:∀ (ins:List Tac) (l:List Bool),(b2Z ins l).length=l.length
 | [],_=>rfl
 | t::ins,l=>by show (b5g t (b2Z ins l)).length=_;rw[c1x,a4n ins]
theorem a3e (b:Bk) (l:List Bool):(a3D b l).length=l.length:=by unfold a3D;rw[a4n,a3E]
theorem a8u (l:List Bool) (i v:Nat) (x:Bool) (hv:v<l.length):gB (l.set i x) v=if i=v then x else gB l v:=by
 unfold gB;rw[List.getD,List.getElem?_set];by_cases h:i=v
 ·subst h;simp[hv]
 ·rw[if_neg h,if_neg h];rfl
theorem a7C {a b:List Bool} (hl:a.length=b.length) (h:∀ v<a.length,gB a v=gB b v):a=b:=by
 refine List.ext_getElem hl fun i h1 h2=>?_;have:=h i h1;simp only[gB,List.getD,List.getElem?_eq_getElem h1,List.getElem?_eq_getElem h2,Option.getD_some]at this;exact this
def bk1 (t:Tac) (v:Nat) (x:Bool):Bool:=if (v:Int) ∈ a0l t then true else if a0n t=(v:Int) then false else x
def a5o (b:Bk) (v:Nat) (x:Bool):Bool:=if b.e=2∧b.v=(v:Int) then true else x
def thru1 (ins:List Tac) (v:Nat) (x:Bool):Bool:=ins.foldr (fun t x=>bk1 t v x) x
theorem c4J:∀ (us:List Int) (l:List Bool) (v:Nat),(∀ u ∈ us,0≤u)→v<l.length→gB (a3W l us) v=if (v:Int) ∈ us then true else gB l v
 | [],l,v,_,_=>by simp[a3W]
 | u::us,l,v,hu,hv=>by
  simp only[a3W,List.foldl_cons];rw[← a3W,c4J us _ v (fun w hw=>hu w (by simp[hw])) (by simpa using hv),a8u _ _ _ _ hv];have h0:=hu u (by simp);by_cases h1:(v:Int) ∈ us
  ·simp[h1]
  ·by_cases h2:(v:Int)=u
   ·rw[if_neg h1,if_pos (by omega),if_pos (by simp[h2])]
   ·rw[if_neg h1,if_neg (by omega),if_neg (by simp[h1,h2])]
def RegT (t:Tac) (n:Int):Prop:=(∀ u ∈ a0l t,0≤u∧u<n)∧(a0m t→0≤t.d∧t.d<n)
theorem RegT.sets {t:Tac} {n:Int} (h:RegT t n):a0n t = -1∨(0≤a0n t∧a0n t<n):=by
 unfold a0n;split
 ·rename_i h1;exact .inr (h.2 h1)
 ·exact .inl rfl
theorem c5z (t:Tac) (l:List Bool) (v:Nat) (hr:RegT t l.length) (hv:v<l.length):gB (b5g t l) v=bk1 t v (gB l v):=by
 unfold b5g bk1;rw[c4J _ _ _ (fun u hu=>(hr.1 u hu).1) (by rw[a1J];exact hv)];congr 1;unfold a0u;rcases hr.sets with h | ⟨h,_⟩
 ·rw[h,if_neg (by omega),if_neg (by omega)]
 ·rw[if_pos h,a8u _ _ _ _ hv];by_cases h2:a0n t=(v:Int)
  ·rw[if_pos (by omega),if_pos h2]
  ·rw[if_neg (by omega),if_neg h2]
theorem b7Z:∀ (ins:List Tac) (l:List Bool) (v:Nat),(∀ t ∈ ins,RegT t l.length)→v<l.length→gB (b2Z ins l) v=thru1 ins v (gB l v)
 | [],_,_,_,_=>rfl
 | t::ins,l,v,hr,hv=>by
  show gB (b5g t (b2Z ins l)) v=bk1 t v (thru1 ins v (gB l v));rw[c5z _ _ _ (by rw[a4n];exact hr t (by simp)) (by rw[a4n];exact hv),b7Z ins l v (fun t ht=>hr t (by simp[ht])) hv]
theorem c1y (b:Bk) (l:List Bool) (v:Nat) (hb:b.e=2→0≤b.v) (hv:v<l.length):gB (a8Q b l) v=a5o b v (gB l v):=by
 unfold a8Q a5o;by_cases h:b.e=2
 ·have:=hb h;rw[if_pos h,a8u _ _ _ _ hv];by_cases h2:b.v=(v:Int)
  ·rw[if_pos (by omega),if_pos ⟨h,h2⟩]
  ·rw[if_neg (by omega),if_neg (fun e=>h2 e.2)]
 ·rw[if_neg h,if_neg (fun e=>h e.1)]
def nxt (b:Bk):List Int:=if b.e=1 then [b.to] else if b.e=2 then [b.to,b.el] else []
theorem b3a (b:Bk):(nxt b).length≤2:=by unfold nxt;split;simp;split<;>simp
structure Fine (f:BF):Prop where
 r0:0≤f.regs
 r1:f.regs≤4000
 b0:f.bks≠[]
 b1:f.bks.length≤500
 ins:∀ b ∈ f.bks,∀ t ∈ b.ins,RegT t f.regs
 len:∀ b ∈ f.bks,b.ins.length≤1000
 v:∀ b ∈ f.bks,b.e=2→0≤b.v∧b.v<f.regs
 to:∀ b ∈ f.bks,∀ k ∈ nxt b,0≤k∧k<f.bks.length
def BF.n (f:BF):Nat:=f.bks.length
def BF.r (f:BF):Nat:=f.regs.toNat
def BF.bk (f:BF) (b:Nat):Bk:=f.bks.getD b default
theorem BF.mem {f:BF} {b:Nat} (h:b<f.n):f.bk b ∈ f.bks:=a0q h
def ahead1 (b:Bk) (v:Nat) (x:Bool):Bool:=thru1 b.ins v (a5o b v x)
theorem a4X {f:BF} (hf:Fine f) {b:Nat} (hb:b<f.n) (l:List Bool) (hl:l.length=f.r) {v:Nat} (hv:v<f.r):gB (a3D (f.bk b) l) v=ahead1 (f.bk b) v (gB l v):=by
 have hr0:=hf.r0;have hm:=BF.mem hb;have hlr:(l.length:Int)=f.regs:=by rw[hl];unfold BF.r;omega
 unfold a3D ahead1;rw[b7Z _ _ _ (fun t ht=>by rw[a3E,hlr];exact hf.ins _ hm t ht) (by rw[a3E,hl];exact hv),c1y _ _ _ (fun h=>(hf.v _ hm h).1) (by rw[hl];exact hv)]
def Tri (g:Bool→Bool):Prop:=(∀ x,g x=true)∨(∀ x,g x=false)∨(∀ x,g x=x)
theorem Tri.id:Tri fun x=>x:=.inr (.inr fun _=>rfl)
theorem Tri.comp {g h:Bool→Bool} (hg:Tri g) (hh:Tri h):Tri fun x=>g (h x):=by
 rcases hg with h1 | h1 | h1
 ·exact .inl fun x=>h1 _
 ·exact .inr (.inl fun x=>h1 _)
 ·rcases hh with h2 | h2 | h2
  ·exact .inl fun x=>by simp only[h1,h2]
  ·exact .inr (.inl fun x=>by simp only[h1,h2])
  ·exact .inr (.inr fun x=>by simp only[h1,h2])
theorem Tri.bk1 (t:Tac) (v:Nat):Tri (bk1 t v):=by
 unfold Go.Proofs.YtkbhfokbhkmfgaaGreat.bk1;by_cases h:(v:Int) ∈ a0l t
 ·exact .inl fun x=>if_pos h
 ·by_cases h2:a0n t=(v:Int)
  ·exact .inr (.inl fun x=>by simp only[if_neg h,if_pos h2])
  ·exact .inr (.inr fun x=>by simp only[if_neg h,if_neg h2])
theorem Tri.thru1 (v:Nat):∀ ins,Tri (thru1 ins v)
 | []=>Tri.id
 | t::ins=>(Tri.bk1 t v).comp (Tri.thru1 v ins)
theorem Tri.ahead1 (b:Bk) (v:Nat):Tri (ahead1 b v):=by
 refine (Tri.thru1 v b.ins).comp ?_;unfold a5o;by_cases h:b.e=2∧b.v=(v:Int)
 ·exact .inl fun x=>if_pos h
 ·exact .inr (.inr fun x=>if_neg h)
theorem Tri.mono {g:Bool→Bool} (h:Tri g) {x y:Bool} (hxy:x=true→y=true) (hx:g x=true):g y=true:=by
 rcases h with h | h | h
 ·exact h y
 ·rw[h]at hx;cases hx
 ·rw[h]at hx ⊢;exact hxy hx
theorem Tri.or {g:Bool→Bool} (h:Tri g) (x y:Bool):g (x || y)=(g x || g y):=by
 rcases h with h | h | h<;>simp[h]
theorem Tri.and {g:Bool→Bool} (h:Tri g) (x y:Bool):g (x && y)=(g x && g y):=by
 rcases h with h | h | h<;>simp[h]
def c1z (m:List (List Bool)) (n:Int) (r:Int):Bool:=decide ((m.length:Int)=n) && m.all fun l=>decide ((l.length:Int)=r)
def c1A (f:BF) (L:LD):Bool:=c1z L.inn f.bks.length f.regs && c1z L.out f.bks.length f.regs
structure SizedP (f:BF) (L:LD):Prop where
 i:L.inn.length=f.n
 o:L.out.length=f.n
 ir:∀ l ∈ L.inn,l.length=f.r
 or:∀ l ∈ L.out,l.length=f.r
theorem c0i {f:BF} (h0:0≤f.regs) (L:LD):c1A f L=true↔SizedP f L:=by
 unfold c1A c1z;simp only[Bool.and_eq_true,decide_eq_true_eq,List.all_eq_true];refine ⟨fun ⟨⟨h1,h2⟩,h3,h4⟩=>⟨by unfold BF.n;omega,by unfold BF.n;omega,fun l hl=>?_,fun l hl=>?_⟩,fun h=>⟨⟨by have:=h.i;unfold BF.n at this;omega,fun l hl=>?_⟩,by have:=h.o;unfold BF.n at this;omega,fun l hl=>?_⟩⟩
 ·have:=h2 l hl;unfold BF.r;omega
 ·have:=h4 l hl;unfold BF.r;omega
 ·have:=h.ir l hl;unfold BF.r at this;omega
 ·have:=h.or l hl;unfold BF.r at this;omega
theorem b8U {m:List (List Bool)} {b:Nat} (hb:b<m.length):m.getD b [] ∈ m:=by
 rw[List.getD,List.getElem?_eq_getElem hb];exact List.getElem_mem hb
theorem SizedP.il {f:BF} {L:LD} (h:SizedP f L) {b:Nat} (hb:b<f.n):(L.inn.getD b []).length=f.r:=h.ir _ (b8U (by rw[h.i];exact hb))
theorem SizedP.ol {f:BF} {L:LD} (h:SizedP f L) {b:Nat} (hb:b<f.n):(L.out.getD b []).length=f.r:=h.or _ (b8U (by rw[h.o];exact hb))
structure Closed (f:BF) (I O:Nat→Nat→Bool):Prop where
 way:∀ b<f.n,∀ k ∈ nxt (f.bk b),∀ v<f.r,I k.toNat v=true→O b v=true
 ahead:∀ b<f.n,∀ v<f.r,ahead1 (f.bk b) v (O b v)=true→I b v=true
structure ClosedP (f:BF) (L:LD):Prop where
 sz:SizedP f L
 cl:Closed f L.I L.O
def c1B (f:BF) (b v:Nat):Prop:=∀ I O,Closed f I O→I b v=true
def b6N (f:BF) (b v:Nat):Prop:=∀ I O,Closed f I O→O b v=true
structure Least (f:BF) (L:LD):Prop where
 cl:ClosedP f L
 min:∀ I O,Closed f I O→∀ b<f.n,∀ v<f.r,(L.I b v=true→I b v=true)∧(L.O b v=true→O b v=true)
theorem LD.ext {f:BF} {L M:LD} (hL:SizedP f L) (hM:SizedP f M) (hi:∀ b<f.n,∀ v<f.r,L.I b v=M.I b v) (ho:∀ b<f.n,∀ v<f.r,L.O b v=M.O b v):L=M:=by
 obtain ⟨i,o⟩:=L;obtain ⟨i',o'⟩:=M;have key:∀ (a a':List (List Bool)),a.length=f.n→a'.length=f.n→(∀ b<f.n,(a.getD b []).length=f.r)→(∀ b<f.n,(a'.getD b []).length=f.r) →
  (∀ b<f.n,∀ v<f.r,gB (a.getD b []) v=gB (a'.getD b []) v)→a=a':=fun a a' h1 h2 h3 h4 h5=>by
  refine List.ext_getElem (h1.trans h2.symm) fun b hb hb'=>?_;have hn:b<f.n:=by omega
  have:=a7C ((h3 b hn).trans (h4 b hn).symm) fun v hv=>h5 b hn v (by rw[h3 b hn]at hv;exact hv);simp only[List.getD,List.getElem?_eq_getElem hb,List.getElem?_eq_getElem hb',Option.getD_some]at this;exact this
 rw[key i i' hL.i hM.i (fun b hb=>hL.il hb) (fun b hb=>hM.il hb) hi,key o o' hL.o hM.o (fun b hb=>hL.ol hb) (fun b hb=>hM.ol hb) ho]
theorem Least.unique {f:BF} {L M:LD} (hL:Least f L) (hM:Least f M):L=M:=by
 refine LD.ext hL.cl.sz hM.cl.sz (fun b hb v hv=>?_) (fun b hb v hv=>?_)
 ·have h1:=(hL.min _ _ hM.cl.cl b hb v hv).1;have h2:=(hM.min _ _ hL.cl.cl b hb v hv).1;cases h:L.I b v<;>cases h':M.I b v<;>simp_all
 ·have h1:=(hL.min _ _ hM.cl.cl b hb v hv).2;have h2:=(hM.min _ _ hL.cl.cl b hb v hv).2;cases h:L.O b v<;>cases h':M.O b v<;>simp_all
def c0I (n r:Nat) (p:Nat→Nat→Bool):List (List Bool):=(List.range n).map fun b=>(List.range r).map fun v=>p b v
theorem b8V (n r:Nat) (p:Nat→Nat→Bool):(c0I n r p).length=n:=by simp[c0I]
theorem b8W (n r:Nat) (p:Nat→Nat→Bool):∀ l ∈ c0I n r p,l.length=r:=fun l hl=>by
 simp only[c0I,List.mem_map]at hl;obtain ⟨b,_,rfl⟩:=hl;simp
theorem b2j {n r b v:Nat} (p:Nat→Nat→Bool) (hb:b<n) (hv:v<r):gB ((c0I n r p).getD b []) v=p b v:=by
 simp[c0I,gB,List.getD,hb,hv]
theorem c1C (f:BF) (p q:Nat→Nat→Bool):SizedP f ⟨c0I f.n f.r p,c0I f.n f.r q⟩:=⟨b8V _ _ _,b8V _ _ _,b8W _ _ _,b8W _ _ _⟩
theorem Closed.congr {f:BF} (hf:Fine f) {I O I' O':Nat→Nat→Bool} (hi:∀ b<f.n,∀ v<f.r,I b v=I' b v) (ho:∀ b<f.n,∀ v<f.r,O b v=O' b v) (h:Closed f I O):Closed f I' O':=by
 refine ⟨fun b hb k hk v hv h1=>?_,fun b hb v hv h1=>?_⟩
 ·have hk':=hf.to _ (BF.mem hb) k hk;rw[← ho b hb v hv];rw[← hi _ (show k.toNat<f.n by unfold BF.n;omega) v hv]at h1;exact h.way b hb k hk v hv h1
 ·rw[← hi b hb v hv];rw[← ho b hb v hv]at h1;exact h.ahead b hb v hv h1
theorem b6O {f:BF} (hf:Fine f):∃ L,Least f L:=by
 classical
 refine ⟨⟨c0I f.n f.r fun b v=>decide (c1B f b v),c0I f.n f.r fun b v=>decide (b6N f b v)⟩,⟨c1C _ _ _,?_⟩,fun I O h b hb v hv=>⟨fun e=>?_,fun e=>?_⟩⟩
 ·refine Closed.congr hf (I:=fun b v=>decide (c1B f b v)) (O:=fun b v=>decide (b6N f b v)) (fun b hb v hv=>(b2j (fun b v=>decide (c1B f b v)) hb hv).symm) (fun b hb v hv=>(b2j (fun b v=>decide (b6N f b v)) hb hv).symm) ⟨fun b hb k hk v hv h1=>?_,fun b hb v hv h1=>?_⟩
  ·simp only[decide_eq_true_eq]at h1 ⊢;exact fun I O h=>h.way b hb k hk v hv (h1 I O h)
  ·simp only[decide_eq_true_eq]at h1 ⊢;refine fun I O h=>h.ahead b hb v hv ((Tri.ahead1 _ v).mono (fun e=>?_) h1);simp only[decide_eq_true_eq]at e;exact e I O h
 ·have:=b2j (fun b v=>decide (c1B f b v)) hb hv;have e':gB ((c0I f.n f.r fun b v=>decide (c1B f b v)).getD b []) v=true:=e;rw[this]at e';exact of_decide_eq_true e' I O h
 ·have:=b2j (fun b v=>decide (b6N f b v)) hb hv;have e':gB ((c0I f.n f.r fun b v=>decide (b6N f b v)).getD b []) v=true:=e;rw[this]at e';exact of_decide_eq_true e' I O h
set_option maxRecDepth 10000
open Go.V
def a3F (b:Bk) (blocks regs:Int):Prop :=
 if b.e=1 then 0≤b.to∧b.to<blocks∧b.v=0∧b.el=0
 else if b.e=2 then 0≤b.to∧b.to<blocks∧0≤b.el∧b.el<blocks∧0≤b.v∧b.v<regs
 else b.e=3∧b.v=0∧b.to=0∧b.el=0
instance (b:Bk) (n r:Int):Decidable (a3F b n r):=by unfold a3F;exact inferInstance
def b8a (b:Bk) (n r:Int):Bool:=decide (a3F b n r)
theorem c5A (b:Bk) (n r:Int):Contract Tryz.prog 56 [bkA b,I n,I r] (fun x=>x=B (b8a b n r)):=by
 refine Contract.of_call (VCall.of_body a1g b3E (by simp) ?_);obtain ⟨ins,e,v,to,el⟩:=b;obtain ⟨x,hx⟩:∃ x,b8a ⟨ins,e,v,to,el⟩ n r=x:=⟨_,rfl⟩
 rw[hx];have hX:(x=true↔a3F ⟨ins,e,v,to,el⟩ n r):=by rw[← hx];exact decide_eq_true_iff
 have he:e=1∨e=2∨e=3∨(e≠1∧e≠2∧e≠3):=by omega
 rcases he with rfl | rfl | rfl | ⟨h1,h2,h3⟩
 ·simp only[a3F,if_true]at hX;simp only[go_sem,a2n,Int.reduceEq,Int.reduceBEq];refine VCall.of_contract (a0A _ _) (SleL.pure rfl) fun y hy=>?_;subst hy;cases hb:inB to n
  ·have hb':=of_decide_eq_false hb;simp only[go_sem,hb];refine ⟨_,Frz.pure rfl,?_⟩;congr 2;rw[Bool.eq_iff_iff,hX];simp only[Bool.false_eq_true,false_iff,not_and,and_imp];intros;omega
  ·have hb':=of_decide_eq_true hb;simp only[go_sem,hb]
   repeat' (first | (with_reducible apply And.intro) | (with_reducible intro _))
   all_goals
    refine ⟨_,Frz.pure rfl,?_⟩;congr 2;rw[Bool.eq_iff_iff,hX];simp only[Bool.and_eq_true,beq_iff_eq,true_and,and_true,Bool.false_eq_true,false_iff,not_and,and_imp]
    first | omega | (intros;omega)
 ·simp only[a3F,if_true,Int.reduceEq,if_false]at hX;simp only[go_sem,a2n,Int.reduceEq,Int.reduceBEq];refine VCall.of_contract (a0A _ _) (SleL.pure rfl) fun y hy=>?_;subst hy;cases hb:inB to n
  ·have hb':=of_decide_eq_false hb;simp only[go_sem,hb];refine ⟨_,Frz.pure rfl,?_⟩;congr 2;rw[Bool.eq_iff_iff,hX];simp only[Bool.false_eq_true,false_iff,not_and,and_imp];intros;omega
  ·have hb':=of_decide_eq_true hb;simp only[go_sem,hb];refine VCall.of_contract (a0A _ _) (SleL.pure rfl) fun y hy=>?_;subst hy;cases hc:inB el n
   ·have hc':=of_decide_eq_false hc;simp only[go_sem,hc];refine ⟨_,Frz.pure rfl,?_⟩;congr 2;rw[Bool.eq_iff_iff,hX];simp only[Bool.false_eq_true,false_iff,not_and,and_imp];intros;omega
   ·have hc':=of_decide_eq_true hc;simp only[go_sem,hc];refine VCall.of_contract (a0A _ _) (SleL.pure rfl) fun y hy=>?_;subst hy;simp only[go_sem];refine ⟨_,Frz.pure rfl,?_⟩;congr 2;rw[Bool.eq_iff_iff,hX];unfold inB;rw[decide_eq_true_iff];omega
 ·simp only[a3F,if_true,Int.reduceEq,if_false]at hX;simp only[go_sem,a2n,Int.reduceEq,Int.reduceBEq]
  repeat' (first | (with_reducible apply And.intro) | (with_reducible intro _))
  all_goals
   refine ⟨_,Frz.pure rfl,?_⟩;congr 2;rw[Bool.eq_iff_iff,hX];simp only[Bool.and_eq_true,beq_iff_eq,true_and,and_true,Bool.false_eq_true,false_iff,not_and,and_imp]
   first | omega | (intros;omega)
 ·simp only[a3F,if_neg h1,if_neg h2]at hX;simp only[go_sem,a2n,eq_false h1,eq_false h2,eq_false h3,beq_false_of_ne h1,beq_false_of_ne h2,beq_false_of_ne h3];refine ⟨_,Frz.pure rfl,?_⟩;congr 2;rw[Bool.eq_iff_iff,hX];simp only[Bool.false_eq_true,false_iff,not_and,and_imp];intros;omega
def c7b (l:List Tac) (number regs words:Int):Bool:=l.all fun t=>a3d t number regs words
def c0J (n regs number words:Int) (b:Bk):Bool:=b8a b n regs && c7b b.ins number regs words
def b5H (f:BF) (number words:Int):Bool:=decide (0≤f.regs∧f.regs≤4000∧f.bks≠[]) && f.bks.all (c0J f.bks.length f.regs number words)
theorem c7q (f:BF) (number words:Int) (hw:0≤words∧words≤1048576) (hb:f.bks.length≤140737488355328) (hi:∀ b ∈ f.bks,b.ins.length≤140737488355328) :
 Contract Tryz.prog 34 [bfA f,I number,I words] (fun x=>x=B (b5H f number words)):=by
 refine Contract.of_call (VCall.of_body a1g b4U (by simp) ?_);by_cases h:0≤f.regs∧f.regs≤4000∧f.bks≠[]
 ·obtain ⟨h1,h2,h3⟩:=h;have h4:(f.bks.length:Int)≠0:=by intro e;exact h3 (List.eq_nil_of_length_eq_zero (by omega))
  simp only[go_sem,a2R,eq_false (show ¬ f.regs<0 by omega),eq_false (show ¬ 4000<f.regs by omega),eq_false h4,beq_false_of_ne h4];refine a0r (fun k:Nat=>⟨[(1,I number),(2,I words),(3,.ptr 0 0 0),(7,I k)],[⟨0,34,1,[I f.regs,b5e f.bks]⟩],1⟩) (fun k=>k≤f.bks.length∧(f.bks.take k).all (c0J f.bks.length f.regs number words)=true) (fun k=>f.bks.length-k) 0
   (Wk.mk (by simp[a0a]) ⟨[],rfl⟩ (Nat.le_refl _)) ⟨by omega,rfl⟩ ?_
  rintro k ⟨hk,hp⟩;by_cases hlt:k<f.bks.length
  ·have hbi:=hi _ (a0q hlt);have hstop:c0J f.bks.length f.regs number words (f.bks.getD k default)=false→b5H f number words=false:=fun e=>by unfold b5H;rw[b8S hlt e];simp
   have hstep:c0J f.bks.length f.regs number words (f.bks.getD k default)=true→(f.bks.take (k+1)).all (c0J f.bks.length f.regs number words)=true:=fun e=>b8T hlt hp e;simp only[go_sem,eq_true (show (k:Int)<f.bks.length by omega)];generalize hbk:f.bks.getD k default=b at hbi hstop hstep ⊢
   repeat (with_reducible refine And.intro (by omega) ?_)
   refine VCall.of_contract (c5A b _ _) (SleL.pure rfl) fun y hy=>?_;subst hy;cases he:b8a b f.bks.length f.regs
   ·simp only[go_sem,he];refine ⟨_,Frz.pure rfl,?_⟩;rw[hstop (by unfold c0J;rw[he];rfl)]
   ·simp only[go_sem,he];refine a0r (fun j:Nat=>⟨[(1,I number),(2,I words),(3,.ptr 0 0 0),(7,I k),(8,I j)],[⟨0,34,1,[I f.regs,b5e f.bks]⟩],1⟩) (fun j=>j≤b.ins.length∧(b.ins.take j).all (fun t=>a3d t number f.regs words)=true) (fun j=>b.ins.length-j) 0
     (Wk.mk (by simp[a0a]) ⟨[],rfl⟩ (Nat.le_refl _)) ⟨by omega,rfl⟩ ?_
    rintro j ⟨hj,hq⟩;by_cases hl2:j<b.ins.length
    ·simp only[go_sem,hbk,eq_true (show (j:Int)<b.ins.length by omega)]
     repeat (with_reducible refine And.intro (by omega) ?_)
     refine VCall.of_contract (c5y _ number f.regs words hw) (SleL.pure rfl) fun y hy=>?_;subst hy;cases hf:a3d (b.ins.getD j default) number f.regs words
     ·simp only[go_sem,hf];refine ⟨_,Frz.pure rfl,?_⟩;rw[hstop (by unfold c0J c7b;rw[b8S hl2 hf];simp)]
     ·simp only[go_sem,hf];rw[a0e (by omega) (by omega)];exact ⟨j+1,⟨by omega,b8T hl2 hq hf⟩,by omega,Wk.mk (by simp[a0a]) ⟨[],rfl⟩ (Nat.le_refl _)⟩
    ·simp only[go_sem,hbk,eq_false (show ¬ (j:Int)<b.ins.length by omega)]
     repeat (with_reducible refine And.intro (by omega) ?_)
     rw[a0e (by omega) (by omega)];exact ⟨k+1,⟨by omega,hstep (by unfold c0J c7b;rw[he,c1w (by omega) hq];rfl)⟩,by omega,Wk.mk (by simp[a0a]) ⟨[],rfl⟩ (Nat.le_refl _)⟩
  ·simp only[go_sem,eq_false (show ¬ (k:Int)<f.bks.length by omega)];refine ⟨_,Frz.pure rfl,?_⟩;unfold b5H;rw[c1w (by omega) hp,decide_eq_true ⟨h1,h2,h3⟩];rfl
 ·have e:b5H f number words=false:=by unfold b5H;rw[decide_eq_false h];rfl
  rw[e];by_cases h1:f.regs<0
  ·simp only[go_sem,a2R,eq_true h1];exact ⟨_,Frz.pure rfl,rfl⟩
  ·by_cases h2:4000<f.regs
   ·simp only[go_sem,a2R,eq_false h1,eq_true h2];exact ⟨_,Frz.pure rfl,rfl⟩
   ·have h3:f.bks=[]:=Classical.byContradiction fun e=>h ⟨by omega,by omega,e⟩;simp only[go_sem,a2R,eq_false h1,eq_false h2,h3,List.map_nil,Nat.cast_zero',Int.reduceEq];exact ⟨_,Frz.pure rfl,rfl⟩
theorem b8X {f:BF} {number words:Int} (h:b5H f number words=true) (hb:f.bks.length≤500) (hi:∀ b ∈ f.bks,b.ins.length≤1000):Fine f:=by
 unfold b5H at h;simp only[Bool.and_eq_true,decide_eq_true_eq,List.all_eq_true]at h;obtain ⟨⟨h1,h2,h3⟩,h4⟩:=h;have he:∀ b ∈ f.bks,a3F b f.bks.length f.regs:=fun b hbm=>by
  have:=h4 b hbm;unfold c0J b8a at this;simp only[Bool.and_eq_true,decide_eq_true_eq]at this;exact this.1
 have ht:∀ b ∈ f.bks,∀ t ∈ b.ins,FitsT t number f.regs words:=fun b hbm t htm=>by
  have:=h4 b hbm;unfold c0J c7b at this;simp only[Bool.and_eq_true,List.all_eq_true]at this;exact of_decide_eq_true (this.2 t htm)
 refine ⟨h1,h2,h3,hb,fun b hbm t htm=>?_,hi,fun b hbm h=>?_,fun b hbm k hk=>?_⟩
 ·obtain ⟨_,_,g1,g2,_⟩:=ht b hbm t htm;exact ⟨g2,fun hs=>by rw[if_pos hs]at g1;exact g1⟩
 ·have:=he b hbm;unfold a3F at this;rw[h,if_neg (by decide),if_pos rfl]at this;exact ⟨this.2.2.2.2.1,this.2.2.2.2.2⟩
 ·have:=he b hbm;unfold a3F at this;unfold nxt at hk;split at hk
  ·rename_i h1;rw[if_pos h1]at this;simp at hk;subst hk;exact ⟨this.1,this.2.1⟩
  ·rename_i h1;split at hk
   ·rename_i h2;rw[if_neg h1,if_pos h2]at this;simp at hk;rcases hk with rfl | rfl
    ·exact ⟨this.1,this.2.1⟩
    ·exact ⟨this.2.2.1,this.2.2.2.1⟩
   ·simp at hk
structure BP where
 words:Int
 funcs:List BF
deriving Inhabited,DecidableEq
abbrev bfL (f:BF):List AV:=[I f.regs,b5e f.bks]
abbrev bpA (b:BP):AV:=.agg [I b.words,.imm 2 (b.funcs.map bfA)]
def a7D (b:BP):Bool:=decide (0≤b.words∧b.words≤1048576∧b.funcs≠[]) && (List.range b.funcs.length).all fun i=>b5H (b.funcs.getD i default) i b.words
theorem c3n (b:BP) (hn:b.funcs.length≤140737488355328) (hb:∀ f ∈ b.funcs,f.bks.length≤140737488355328) (hi:∀ f ∈ b.funcs,∀ b ∈ f.bks,b.ins.length≤140737488355328) :
 Contract Tryz.prog 16 [bpA b] (fun x=>x=B (a7D b)):=by
 refine Contract.of_call (VCall.of_body a1g b2J (by simp) ?_);by_cases h:0≤b.words∧b.words≤1048576∧b.funcs≠[]
 ·obtain ⟨h1,h2,h3⟩:=h;have h4:(b.funcs.length:Int)≠0:=by intro e;exact h3 (List.eq_nil_of_length_eq_zero (by omega))
  simp only[go_sem,a1V,eq_false (show ¬ b.words<0 by omega),eq_false (show ¬ 1048576<b.words by omega),eq_false h4,beq_false_of_ne h4];refine a0r (fun k:Nat=>⟨[(1,.ptr 0 0 0),(3,I k)],[⟨0,24,1,[I b.words,.imm 2 (b.funcs.map bfA)]⟩],1⟩) (fun k=>k≤b.funcs.length∧∀ i<k,b5H (b.funcs.getD i default) i b.words=true) (fun k=>b.funcs.length-k) 0
   (Wk.mk (by simp[a0a]) ⟨[],rfl⟩ (Nat.le_refl _)) ⟨by omega,by omega⟩ ?_
  rintro k ⟨hk,hp⟩;by_cases hlt:k<b.funcs.length
  ·simp only[go_sem,eq_true (show (k:Int)<b.funcs.length by omega)]
   repeat (with_reducible refine And.intro (by omega) ?_)
   refine VCall.of_contract (c7q (b.funcs.getD k default) k b.words ⟨h1,h2⟩ (hb _ (a0q hlt)) (hi _ (a0q hlt))) (SleL.pure rfl) fun y hy=>?_;subst hy;cases ho:b5H (b.funcs.getD k default) k b.words
   ·simp only[go_sem,ho];refine ⟨_,Frz.pure rfl,?_⟩;rw[show a7D b=false from ?_];unfold a7D;rw[show (List.range b.funcs.length).all (fun i=>b5H (b.funcs.getD i default) i b.words)=false from List.all_eq_false.2 ⟨k,List.mem_range.2 hlt,by rw[ho];decide⟩];simp
   ·simp only[go_sem,ho];rw[a0e (by omega) (by omega)];refine ⟨k+1,⟨by omega,fun i hi=>?_⟩,by omega,Wk.mk (by simp[a0a]) ⟨[],rfl⟩ (Nat.le_refl _)⟩;by_cases e:i=k
    ·rw[e];exact ho
    ·exact hp i (by omega)
  ·simp only[go_sem,eq_false (show ¬ (k:Int)<b.funcs.length by omega)];refine ⟨_,Frz.pure rfl,?_⟩;rw[show a7D b=true from ?_];unfold a7D;rw[decide_eq_true ⟨h1,h2,h3⟩,Bool.true_and,List.all_eq_true];exact fun i hi=>hp i (by have:=List.mem_range.1 hi;omega)
 ·have e:a7D b=false:=by unfold a7D;rw[decide_eq_false h];rfl
  rw[e];by_cases h1:b.words<0
  ·simp only[go_sem,a1V,eq_true h1];exact ⟨_,Frz.pure rfl,rfl⟩
  ·by_cases h2:1048576<b.words
   ·simp only[go_sem,a1V,eq_false h1,eq_true h2];exact ⟨_,Frz.pure rfl,rfl⟩
   ·have h3:b.funcs=[]:=Classical.byContradiction fun e=>h ⟨by omega,by omega,e⟩;simp only[go_sem,a1V,eq_false h1,eq_false h2,h3,List.map_nil,Nat.cast_zero',Int.reduceEq];exact ⟨_,Frz.pure rfl,rfl⟩
structure Bst where
 ws:List Int
 out:List UInt8
 rd:Nat
 st:Nat
 en:Int
deriving Inhabited
def b8b (r:Int):UInt8:=UInt8.ofNat (IntKind.u8.wrap r).toNat
theorem c3o (r:Int):((b8b r).toNat:Int)=IntKind.u8.wrap r:=by
 unfold b8b;rw[IntKind.wrap_u8];simp only[UInt8.toNat_ofNat'];omega
def gR (rg:List Int) (i:Int):Int:=rg.getD i.toNat default
def sR (rg:List Int) (i x:Int):List Int:=rg.set i.toNat x
def opF (call:Nat→Bst→Bst) (inp:ByteArray) (t:Tac) (rg:List Int) (σ:Bst):List Int × Bst :=
 if t.op=1 then (sR rg t.d t.n,σ)
 else if t.op=2 then (sR rg t.d (gR rg t.a),σ)
 else if t.op=3 then (if (a0R t.k (gR rg t.a) (gR rg t.b)).2=0 then (sR rg t.d (a0R t.k (gR rg t.a) (gR rg t.b)).1,σ) else (rg,{ σ with en:=2 }))
 else if t.op=4 then (sR rg t.d (gR σ.ws t.base),σ)
 else if t.op=5 then (rg,{ σ with ws:=sR σ.ws t.base (gR rg t.a) })
 else if t.op=6 then (if gR rg t.a<t.size then (sR rg t.d (gR σ.ws (t.base+gR rg t.a)),σ) else (rg,{ σ with en:=3 }))
 else if t.op=7 then (if gR rg t.a<t.size then (rg,{ σ with ws:=sR σ.ws (t.base+gR rg t.a) (gR rg t.b) }) else (rg,{ σ with en:=3 }))
 else if t.op=8 then (if σ.rd<inp.size then (sR rg t.d (a1v inp σ.rd),{ σ with rd:=σ.rd+1 }) else (sR rg t.d 256,σ))
 else if t.op=9 then (if 65536≤σ.out.length then (rg,{ σ with en:=4 }) else (rg,{ σ with out:=σ.out++[b8b (gR rg t.a)] }))
 else if t.op=10 then (rg,call t.base.toNat σ)
 else (rg,σ)
def a5p (call:Nat→Bst→Bst) (inp:ByteArray) (fuel:Nat):List Tac→List Int→Bst→List Int × Bst
 | [],rg,σ=>(rg,σ)
 | t::l,rg,σ =>
  if fuel≤σ.st then (rg,{ σ with en:=5 })
  else if (opF call inp t rg { σ with st:=σ.st+1 }).2.en=0 then a5p call inp fuel l (opF call inp t rg { σ with st:=σ.st+1 }).1 (opF call inp t rg { σ with st:=σ.st+1 }).2
  else opF call inp t rg { σ with st:=σ.st+1 }
def goB (k:Bk) (rg:List Int):Int:=if k.e=2∧gR rg k.v=0 then k.el else k.to
def b7C (call:Nat→Bst→Bst) (inp:ByteArray) (fuel:Nat) (f:BF):Nat→Nat→List Int→Bst→Bst
 | 0,_,_,σ=>σ
 | g+1,i,rg,σ =>
  if (a5p call inp fuel (f.bks.getD i default).ins rg σ).2.en=0 then
   (if fuel≤(a5p call inp fuel (f.bks.getD i default).ins rg σ).2.st then { (a5p call inp fuel (f.bks.getD i default).ins rg σ).2 with en:=5 }
   else if (f.bks.getD i default).e=3 then { (a5p call inp fuel (f.bks.getD i default).ins rg σ).2 with st:=(a5p call inp fuel (f.bks.getD i default).ins rg σ).2.st+1 }
   else b7C call inp fuel f g (goB (f.bks.getD i default) (a5p call inp fuel (f.bks.getD i default).ins rg σ).1).toNat (a5p call inp fuel (f.bks.getD i default).ins rg σ).1
    { (a5p call inp fuel (f.bks.getD i default).ins rg σ).2 with st:=(a5p call inp fuel (f.bks.getD i default).ins rg σ).2.st+1 })
  else (a5p call inp fuel (f.bks.getD i default).ins rg σ).2
theorem b3b (call:Nat→Bst→Bst) (inp:ByteArray) (fuel:Nat) (t:Tac) (l:List Tac) (rg:List Int) (σ:Bst):a5p call inp fuel (t::l) rg σ=(if fuel≤σ.st then (rg,{ σ with en:=5 })
 else if (opF call inp t rg { σ with st:=σ.st+1 }).2.en=0 then a5p call inp fuel l (opF call inp t rg { σ with st:=σ.st+1 }).1 (opF call inp t rg { σ with st:=σ.st+1 }).2
 else opF call inp t rg { σ with st:=σ.st+1 }):=rfl
theorem b3c (call:Nat→Bst→Bst) (inp:ByteArray) (fuel:Nat) (f:BF) (g i:Nat) (rg:List Int) (σ:Bst):b7C call inp fuel f (g+1) i rg σ =
 (if (a5p call inp fuel (f.bks.getD i default).ins rg σ).2.en=0 then
   (if fuel≤(a5p call inp fuel (f.bks.getD i default).ins rg σ).2.st then { (a5p call inp fuel (f.bks.getD i default).ins rg σ).2 with en:=5 }
   else if (f.bks.getD i default).e=3 then { (a5p call inp fuel (f.bks.getD i default).ins rg σ).2 with st:=(a5p call inp fuel (f.bks.getD i default).ins rg σ).2.st+1 }
   else b7C call inp fuel f g (goB (f.bks.getD i default) (a5p call inp fuel (f.bks.getD i default).ins rg σ).1).toNat (a5p call inp fuel (f.bks.getD i default).ins rg σ).1
    { (a5p call inp fuel (f.bks.getD i default).ins rg σ).2 with st:=(a5p call inp fuel (f.bks.getD i default).ins rg σ).2.st+1 })
 else (a5p call inp fuel (f.bks.getD i default).ins rg σ).2):=rfl
def b8Y (fs:List BF) (inp:ByteArray) (fuel:Nat):Nat→Nat→Bst→Bst
 | 0,_,σ=>σ
 | k+1,i,σ=>b7C (b8Y fs inp fuel k) inp fuel (fs.getD i default) (fuel+1) 0 (List.replicate (fs.getD i default).regs.toNat 0) σ
structure BRes where
 en:Int
 out:List UInt8
 st:Nat
deriving Inhabited,DecidableEq
def b1Y (b:BP):Bst:=⟨List.replicate b.words.toNat 0,[],0,0,0⟩
def b3P (b:BP) (inp:ByteArray) (fuel:Nat):Bst:=b8Y b.funcs inp fuel b.funcs.length (b.funcs.length-1) (b1Y b)
def b1I (b:BP) (inp:ByteArray) (fuel:Nat):BRes:=⟨if (b3P b inp fuel).en=0 then 1 else (b3P b inp fuel).en,(b3P b inp fuel).out,(b3P b inp fuel).st⟩
structure WfB (inp:ByteArray) (fuel:Nat) (n:Nat) (σ:Bst):Prop where
 n:σ.ws.length=n
 w:∀ x ∈ σ.ws,a1b x
 o:σ.out.length≤65536
 r:σ.rd≤inp.size
 s:σ.st≤fuel
structure WfR (m:Nat) (rg:List Int):Prop where
 n:rg.length=m
 w:∀ x ∈ rg,a1b x
theorem b1Z {m:Nat} {rg:List Int} (h:WfR m rg) {i:Int} (hi:0≤i∧i<m):a1b (gR rg i):=h.w _ (a0q (by rw[h.n];omega))
theorem b8c {m:Nat} {rg:List Int} (h:WfR m rg) (i:Int) {x:Int} (hx:a1b x):WfR m (sR rg i x) :=
 ⟨by unfold sR;rw[List.length_set];exact h.n,fun y hy=>by
   rcases List.mem_or_eq_of_mem_set hy with h1 | h1
   ·exact h.w y h1
   ·rw[h1];exact hx⟩
theorem c7r {ws:List Int} (h:∀ x ∈ ws,a1b x) (i:Int) {x:Int} (hx:a1b x):∀ y ∈ sR ws i x,a1b y:=fun y hy=>by
 rcases List.mem_or_eq_of_mem_set hy with h1 | h1
 ·exact h y h1
 ·rw[h1];exact hx
theorem c4K (ws:List Int) (i x:Int):(sR ws i x).length=ws.length:=by simp[sR]
theorem b6P (s:ByteArray) (k:Nat):a1b (a1v s k)∧a1v s k≤255:=by
 have:=(s.data.toList.getD k 0).toNat_lt;unfold a1v;exact ⟨⟨by omega,by omega⟩,by omega⟩
theorem b1J (n:Int):a1b (w32 n):=a4m n
theorem c1D {op a b:Int} (ha:a1b a) (hb:a1b b):a1b (a0R op a b).1:=by
 obtain ⟨a1,a2⟩:=ha;obtain ⟨b1,b2⟩:=hb;have z:a1b 0:=⟨by omega,by omega⟩
 have o:a1b 1:=⟨by omega,by omega⟩
 unfold a0R;by_cases h4:op=4
 ·rw[if_pos h4];exact b1J _
 rw[if_neg h4];by_cases h5:op=5
 ·rw[if_pos h5];exact b1J _
 rw[if_neg h5];by_cases h6:op=6
 ·rw[if_pos h6];exact b1J _
 rw[if_neg h6];by_cases h7:op=7
 ·rw[if_pos h7];by_cases hb:b=0
  ·rw[if_pos hb];exact z
  ·rw[if_neg hb];exact b1J _
 rw[if_neg h7];by_cases h8:op=8
 ·rw[if_pos h8];by_cases hb:b=0
  ·rw[if_pos hb];exact z
  ·rw[if_neg hb];exact ⟨Int.tmod_nonneg _ a1,by have:=Int.tmod_lt_of_pos a (show 0<b by omega);show a.tmod b<_;omega⟩
 rw[if_neg h8];by_cases h9:op=9
 ·rw[if_pos h9];exact b1J _
 rw[if_neg h9];by_cases h10:op=10
 ·rw[if_pos h10];exact b1J _
 rw[if_neg h10];by_cases h11:op=11
 ·rw[if_pos h11];exact b1J _
 rw[if_neg h11];by_cases h12:op=12
 ·rw[if_pos h12];show a1b (if 31<b then 0 else c7o a b);by_cases hb:31<b
  ·rw[if_pos hb];exact z
  ·rw[if_neg hb];exact b1J _
 rw[if_neg h12];by_cases h13:op=13
 ·rw[if_pos h13];show a1b (if 31<b then 0 else c4I a b);by_cases hb:31<b
  ·rw[if_pos hb];exact z
  ·rw[if_neg hb];unfold c4I;have hp:(0:Int)<2 ^ (min b.toNat IntKind.u32.bits):=Int.pow_pos (by decide);rw[Int.fdiv_eq_ediv_of_nonneg _ (Int.le_of_lt hp)];exact ⟨Int.ediv_nonneg a1 (Int.le_of_lt hp),by have:=Int.ediv_le_self (2 ^ (min b.toNat IntKind.u32.bits)) a1;omega⟩
 rw[if_neg h13];by_cases h14:op=14
 ·rw[if_pos h14];show a1b (if a<b then 1 else 0);by_cases hb:a<b
  ·rw[if_pos hb];exact o
  ·rw[if_neg hb];exact z
 rw[if_neg h14];by_cases h15:op=15
 ·rw[if_pos h15];show a1b (if a=b then 1 else 0);by_cases hb:a=b
  ·rw[if_pos hb];exact o
  ·rw[if_neg hb];exact z
 rw[if_neg h15];exact z
def b5h (inp:ByteArray) (fuel n k:Nat) (call:Nat→Bst→Bst):Prop:=∀ i<k,∀ σ,WfB inp fuel n σ→σ.en=0→WfB inp fuel n (call i σ)∧σ.st≤(call i σ).st
theorem b8Z {call:Nat→Bst→Bst} {inp:ByteArray} {fuel n k m:Nat} {t:Tac} {rg:List Int} {σ:Bst} (hc:b5h inp fuel n k call) (ht:FitsT t k m n) (hn:a1b t.n) (hr:WfR m rg) (hw:WfB inp fuel n σ) (h0:σ.en=0) :
 WfR m (opF call inp t rg σ).1∧WfB inp fuel n (opF call inp t rg σ).2∧σ.st≤(opF call inp t rg σ).2.st:=by
 obtain ⟨op,d,a,b,kk,base,size,nn⟩:=t;obtain ⟨h1,h2,h3,h4,h5,h6,h7,h8⟩:=ht;simp only at h1 h2 h3 h4 h5 h6 h7 hn;obtain ⟨q1,q2,q3,q4,q5⟩:=hw;have hop:op=1∨op=2∨op=3∨op=4∨op=5∨op=6∨op=7∨op=8∨op=9∨op=10:=by omega
 rcases hop with rfl | rfl | rfl | rfl | rfl | rfl | rfl | rfl | rfl | rfl
 all_goals simp only[a0l,a0m,a3L,Int.reduceEq,or_false,or_true,false_or,true_or,or_self,if_true,if_false,List.mem_cons,List.not_mem_nil,forall_eq_or_imp,forall_eq,false_implies,implies_true,and_true]at h3 h4 h8
 all_goals simp only[opF,Int.reduceEq,if_true,if_false]
 ·exact ⟨b8c hr _ hn,⟨q1,q2,q3,q4,q5⟩,Nat.le_refl _⟩
 ·exact ⟨b8c hr _ (b1Z hr h4),⟨q1,q2,q3,q4,q5⟩,Nat.le_refl _⟩
 ·split
  ·exact ⟨b8c hr _ (c1D (b1Z hr h4.1) (b1Z hr h4.2)),⟨q1,q2,q3,q4,q5⟩,Nat.le_refl _⟩
  ·exact ⟨hr,⟨q1,q2,q3,q4,q5⟩,Nat.le_refl _⟩
 ·exact ⟨b8c hr _ (q2 _ (a0q (by omega))),⟨q1,q2,q3,q4,q5⟩,Nat.le_refl _⟩
 ·exact ⟨hr,⟨(c4K _ _ _).trans q1,c7r q2 _ (b1Z hr h4),q3,q4,q5⟩,Nat.le_refl _⟩
 ·have:=b1Z hr h4;have g1:=this.1;split
  ·exact ⟨b8c hr _ (q2 _ (a0q (by omega))),⟨q1,q2,q3,q4,q5⟩,Nat.le_refl _⟩
  ·exact ⟨hr,⟨q1,q2,q3,q4,q5⟩,Nat.le_refl _⟩
 ·split
  ·exact ⟨hr,⟨(c4K _ _ _).trans q1,c7r q2 _ (b1Z hr h4.2),q3,q4,q5⟩,Nat.le_refl _⟩
  ·exact ⟨hr,⟨q1,q2,q3,q4,q5⟩,Nat.le_refl _⟩
 ·split
  ·exact ⟨b8c hr _ (b6P _ _).1,⟨q1,q2,q3,by show σ.rd+1≤_;omega,q5⟩,Nat.le_refl _⟩
  ·exact ⟨b8c hr _ ⟨by omega,by omega⟩,⟨q1,q2,q3,q4,q5⟩,Nat.le_refl _⟩
 ·split
  ·exact ⟨hr,⟨q1,q2,q3,q4,q5⟩,Nat.le_refl _⟩
  ·exact ⟨hr,⟨q1,q2,by simp only[List.length_append,List.length_cons,List.length_nil];omega,q4,q5⟩,Nat.le_refl _⟩
 ·obtain ⟨g1,g2⟩:=hc base.toNat (by omega) σ ⟨q1,q2,q3,q4,q5⟩ h0;exact ⟨hr,g1,g2⟩
theorem b3d {call:Nat→Bst→Bst} {inp:ByteArray} {fuel n k m:Nat} (hc:b5h inp fuel n k call):∀ (l:List Tac) (rg:List Int) (σ:Bst),(∀ t ∈ l,FitsT t k m n∧a1b t.n)→WfR m rg→WfB inp fuel n σ→σ.en=0 →
 WfR m (a5p call inp fuel l rg σ).1∧WfB inp fuel n (a5p call inp fuel l rg σ).2∧σ.st≤(a5p call inp fuel l rg σ).2.st
 | [],rg,σ,_,hr,hw,_=>⟨hr,hw,Nat.le_refl _⟩
 | t::l,rg,σ,ht,hr,hw,h0=>by
  have h1:=ht t (by simp);rw[b3b];by_cases hf:fuel≤σ.st
  ·rw[if_pos hf];exact ⟨hr,⟨hw.n,hw.w,hw.o,hw.r,hw.s⟩,Nat.le_refl _⟩
  ·rw[if_neg hf];obtain ⟨a1,a2,a3⟩:=b8Z hc h1.1 h1.2 hr (σ:={ σ with st:=σ.st+1 }) ⟨hw.n,hw.w,hw.o,hw.r,by show σ.st+1≤fuel;omega⟩ h0;replace a3:σ.st+1≤_:=a3;split
   ·rename_i h2;obtain ⟨b1,b2,b3⟩:=b3d hc l _ _ (fun t ht'=>ht t (by simp[ht'])) a1 a2 h2;exact ⟨b1,b2,by omega⟩
   ·exact ⟨a1,a2,by omega⟩
theorem a5q {f:BF} {number words:Int} (h:b5H f number words=true):0≤f.regs∧f.regs≤4000∧f.bks≠[]∧∀ b ∈ f.bks,a3F b f.bks.length f.regs∧∀ t ∈ b.ins,FitsT t number f.regs words:=by
 unfold b5H at h;simp only[Bool.and_eq_true,decide_eq_true_eq,List.all_eq_true]at h;obtain ⟨⟨h1,h2,h3⟩,h4⟩:=h;refine ⟨h1,h2,h3,fun b hb=>?_⟩;have h5:=h4 b hb;unfold c0J b8a c7b a3d at h5;simp only[Bool.and_eq_true,decide_eq_true_eq,List.all_eq_true]at h5;exact h5
theorem FitsT.mono {t:Tac} {a b regs words:Int} (h:FitsT t a regs words) (hab:a≤b):FitsT t b regs words:=by
 obtain ⟨h1,h2,h3,h4,h5,h6,h7,h8⟩:=h;refine ⟨h1,h2,h3,h4,h5,h6,h7,?_⟩;unfold a3L at h8 ⊢
 repeat' split
 all_goals simp_all
 all_goals omega
theorem c5B {b:Bk} {n r:Int} (h:a3F b n r) (h3:b.e≠3):0≤b.to∧b.to<n∧(b.e=2→0≤b.el∧b.el<n∧0≤b.v∧b.v<r):=by
 unfold a3F at h;by_cases h1:b.e=1
 ·rw[if_pos h1]at h;exact ⟨h.1,h.2.1,fun e=>by omega⟩
 ·rw[if_neg h1]at h;by_cases h2:b.e=2
  ·rw[if_pos h2]at h;exact ⟨h.1,h.2.1,fun _=>⟨h.2.2.1,h.2.2.2.1,h.2.2.2.2⟩⟩
  ·rw[if_neg h2]at h;exact absurd h.1 h3
theorem c4L {b:Bk} {n r:Int} (h:a3F b n r) (h3:b.e≠3) (rg:List Int):0≤goB b rg∧goB b rg<n:=by
 obtain ⟨h1,h2,h4⟩:=c5B h h3;unfold goB;split
 ·rename_i h5;have:=h4 h5.1;exact ⟨this.1,this.2.1⟩
 ·exact ⟨h1,h2⟩
structure FnsOk (fs:List BF) (n:Nat):Prop where
 one:∀ i<fs.length,b5H (fs.getD i default) i n=true
 len:∀ f ∈ fs,∀ b ∈ f.bks,b.ins.length≤140737488355328
 w:∀ f ∈ fs,∀ b ∈ f.bks,∀ t ∈ b.ins,a1b t.n
theorem FnsOk.fit {fs:List BF} {n:Nat} (h:FnsOk fs n) {i:Nat} (hi:i<fs.length) {k:Nat} (hk:i≤k):∀ b ∈ (fs.getD i default).bks,∀ t ∈ b.ins,FitsT t k (fs.getD i default).regs n∧a1b t.n:=fun b hb t ht =>
 ⟨(((a5q (h.one i hi)).2.2.2 b hb).2 t ht).mono (by omega),h.w _ (a0q hi) b hb t ht⟩
theorem b8d {call:Nat→Bst→Bst} {inp:ByteArray} {fuel n k:Nat} (hc:b5h inp fuel n k call) {f:BF} (hr0:0≤f.regs) (hf:∀ b ∈ f.bks,a3F b f.bks.length f.regs∧∀ t ∈ b.ins,FitsT t k f.regs n∧a1b t.n) :
 ∀ (g i:Nat) (rg:List Int) (σ:Bst),i<f.bks.length→WfR f.regs.toNat rg→WfB inp fuel n σ→σ.en=0→WfB inp fuel n (b7C call inp fuel f g i rg σ)∧σ.st≤(b7C call inp fuel f g i rg σ).st
 | 0,_,_,σ,_,_,hw,_=>⟨hw,Nat.le_refl _⟩
 | g+1,i,rg,σ,hi,hr,hw,h0=>by
  have hm:f.bks.getD i default ∈ f.bks:=a0q hi;obtain ⟨hE,hT⟩:=hf _ hm;have hrr:((f.regs.toNat:Nat):Int)=f.regs:=by omega
  obtain ⟨w1,w2,w3⟩:=b3d hc (f.bks.getD i default).ins rg σ (fun t ht=>by rw[hrr];exact hT t ht) hr hw h0;rw[b3c];generalize a5p call inp fuel (f.bks.getD i default).ins rg σ=p at *
  split
  ·split
   ·exact ⟨⟨w2.n,w2.w,w2.o,w2.r,w2.s⟩,w3⟩
   ·have hs:WfB inp fuel n { p.2 with st:=p.2.st+1 }:=⟨w2.n,w2.w,w2.o,w2.r,by show p.2.st+1≤fuel;omega⟩
    split
    ·exact ⟨hs,by show σ.st≤p.2.st+1;omega⟩
    ·rename_i h1 h2 h3;have hg:=c4L hE h3 p.1;obtain ⟨a1,a2⟩:=b8d hc hr0 hf g (goB (f.bks.getD i default) p.1).toNat p.1 { p.2 with st:=p.2.st+1 } (by omega) w1 hs h1;replace a2:p.2.st+1≤_:=a2;exact ⟨a1,by omega⟩
  ·exact ⟨w2,w3⟩
theorem b6Q (m:Nat):WfR m (List.replicate m 0):=⟨by simp,fun x hx=>by rw[(List.mem_replicate.1 hx).2];exact ⟨by omega,by omega⟩⟩
theorem a8R {fs:List BF} {inp:ByteArray} {fuel n:Nat} (hf:FnsOk fs n):∀ k,k≤fs.length→b5h inp fuel n k (b8Y fs inp fuel k)
 | 0,_=>fun i hi=>absurd hi (Nat.not_lt_zero i)
 | k+1,hk=>fun i hi σ hw h0=>by
  have ho:=a5q (hf.one i (by omega));exact b8d (a8R hf k (by omega)) ho.1 (fun b hb=>⟨(ho.2.2.2 b hb).1,hf.fit (by omega) (by omega) b hb⟩) _ 0 _ σ (List.length_pos_iff.2 ho.2.2.1) (b6Q _) hw h0
set_option maxRecDepth 10000
open Go.V
structure FmB where
 fn:Nat
 bk:Nat
 at_:Nat
 rg:List Int
deriving Inhabited
structure SmB where
 s:Bst
 top:FmB
 below:List FmB
def newB (fs:List BF) (j:Nat):FmB:=⟨j,0,0,List.replicate (fs.getD j default).regs.toNat 0⟩
def a2d (fs:List BF) (inp:ByteArray) (fuel:Nat) (m:SmB):SmB :=
 if m.s.en≠0 then m
 else if fuel≤m.s.st then { m with s:={ m.s with en:=5 } }
 else if m.top.at_<((fs.getD m.top.fn default).bks.getD m.top.bk default).ins.length then
  (if (((fs.getD m.top.fn default).bks.getD m.top.bk default).ins.getD m.top.at_ default).op=10 then
    ⟨{ m.s with st:=m.s.st+1 },newB fs (((fs.getD m.top.fn default).bks.getD m.top.bk default).ins.getD m.top.at_ default).base.toNat,{ m.top with at_:=m.top.at_+1 }::m.below⟩
  else
   ⟨(opF (fun _ τ=>τ) inp (((fs.getD m.top.fn default).bks.getD m.top.bk default).ins.getD m.top.at_ default) m.top.rg { m.s with st:=m.s.st+1 }).2,
     { m.top with at_:=m.top.at_+1,rg:=(opF (fun _ τ=>τ) inp (((fs.getD m.top.fn default).bks.getD m.top.bk default).ins.getD m.top.at_ default) m.top.rg { m.s with st:=m.s.st+1 }).1 },m.below⟩)
 else if ((fs.getD m.top.fn default).bks.getD m.top.bk default).e=3 then
  (match m.below with
  | []=>⟨{ m.s with st:=m.s.st+1,en:=1 },m.top,[]⟩
  | c::r=>⟨{ m.s with st:=m.s.st+1 },c,r⟩)
 else ⟨{ m.s with st:=m.s.st+1 },⟨m.top.fn,(goB ((fs.getD m.top.fn default).bks.getD m.top.bk default) m.top.rg).toNat,0,m.top.rg⟩,m.below⟩
def a8Z (fs:List BF) (inp:ByteArray) (fuel:Nat) (m:SmB):Nat→SmB
 | 0=>m
 | k+1=>a2d fs inp fuel (a8Z fs inp fuel m k)
theorem c5C (call:Nat→Bst→Bst) (inp:ByteArray) (t:Tac) (rg:List Int) (σ:Bst) (h10:t.op≠10):(opF call inp t rg σ).2.st=σ.st:=by
 unfold opF;by_cases h:t.op=1
 ·rw[if_pos h]
 rw[if_neg h];clear h;by_cases h:t.op=2
 ·rw[if_pos h]
 rw[if_neg h];clear h;by_cases h:t.op=3
 ·rw[if_pos h];split<;>rfl
 rw[if_neg h];clear h;by_cases h:t.op=4
 ·rw[if_pos h]
 rw[if_neg h];clear h;by_cases h:t.op=5
 ·rw[if_pos h]
 rw[if_neg h];clear h;by_cases h:t.op=6
 ·rw[if_pos h];split<;>rfl
 rw[if_neg h];clear h;by_cases h:t.op=7
 ·rw[if_pos h];split<;>rfl
 rw[if_neg h];clear h;by_cases h:t.op=8
 ·rw[if_pos h];split<;>rfl
 rw[if_neg h];clear h;by_cases h:t.op=9
 ·rw[if_pos h];split<;>rfl
 rw[if_neg h];clear h;rw[if_neg h10]
section
variable {fs:List BF} {inp:ByteArray} {fuel:Nat}
theorem a9y (m:SmB) (a:Nat):∀ b,a8Z fs inp fuel m (a+b)=a8Z fs inp fuel (a8Z fs inp fuel m a) b
 | 0=>rfl
 | b+1=>by
  show a2d fs inp fuel (a8Z fs inp fuel m (a+b))=a2d fs inp fuel (a8Z fs inp fuel (a8Z fs inp fuel m a) b);rw[a9y m a b]
theorem c3p (m:SmB) (b:Nat):a8Z fs inp fuel m (1+b)=a8Z fs inp fuel (a2d fs inp fuel m) b:=a9y m 1 b
theorem b5i {m:SmB} (h:m.s.en≠0):∀ k,a8Z fs inp fuel m k=m
 | 0=>rfl
 | k+1=>by
  show a2d fs inp fuel (a8Z fs inp fuel m k)=m;rw[b5i h k];unfold a2d;rw[if_pos h]
def c8O (t:FmB) (S:List FmB) (σ:Bst):SmB:=match S with
 | []=>⟨{ σ with en:=1 },t,[]⟩
 | c::r=>⟨σ,c,r⟩
def ToB (fs:List BF) (inp:ByteArray) (fuel:Nat) (m:SmB) (σ:Bst) (Q:SmB→Prop):Prop :=
 ∃ c,(σ.en=0→Q (a8Z fs inp fuel m c))∧(σ.en≠0→(a8Z fs inp fuel m c).s=σ)
theorem ToB.mono {m:SmB} {σ:Bst} {Q Q':SmB→Prop} (h:ToB fs inp fuel m σ Q) (k:∀ x,Q x→Q' x):ToB fs inp fuel m σ Q':=by
 obtain ⟨c,h1,h2⟩:=h;exact ⟨c,fun e=>k _ (h1 e),h2⟩
theorem ToB.step {m:SmB} {σ:Bst} {Q:SmB→Prop} (h:ToB fs inp fuel (a2d fs inp fuel m) σ Q):ToB fs inp fuel m σ Q:=by
 obtain ⟨c,h1,h2⟩:=h;refine ⟨1+c,?_,?_⟩<;>rw[c3p]<;>assumption
theorem ToB.here {m:SmB} {Q:SmB→Prop} (h:Q m):ToB fs inp fuel m m.s Q:=⟨0,fun _=>h,fun _=>rfl⟩
theorem ToB.bind {m:SmB} {σ σ':Bst} {Q Q':SmB→Prop} (h:ToB fs inp fuel m σ Q) (h0:σ.en≠0→σ'=σ) (k:σ.en=0→∀ x,Q x→ToB fs inp fuel x σ' Q'):ToB fs inp fuel m σ' Q':=by
 obtain ⟨c,h1,h2⟩:=h;by_cases e:σ.en=0
 ·obtain ⟨d,k1,k2⟩:=k e _ (h1 e);refine ⟨c+d,?_,?_⟩<;>rw[a9y]<;>assumption
 ·have hs:=h2 e;rw[h0 e];exact ⟨c,fun e'=>absurd e' e,fun _=>hs⟩
def c5D (fs:List BF) (inp:ByteArray) (fuel n:Nat) (call:Nat→Bst→Bst) (k:Nat):Prop :=
 ∀ j<k,∀ (σ:Bst) (S:List FmB),WfB inp fuel n σ→σ.en=0→ToB fs inp fuel ⟨σ,newB fs j,S⟩ (call j σ) (fun x=>∃ t,x=c8O t S (call j σ))
theorem b8e {call:Nat→Bst→Bst} {k n m:Nat} (hc:c5D fs inp fuel n call k) (hP:b5h inp fuel n k call) {fn bk:Nat} {S:List FmB} :
 ∀ (l pre:List Tac) (rg:List Int) (σ:Bst),((fs.getD fn default).bks.getD bk default).ins=pre++l→(∀ t ∈ l,(t.op=10→t.base.toNat<k)∧FitsT t k m n∧a1b t.n)→WfR m rg→WfB inp fuel n σ→σ.en=0 →
  ToB fs inp fuel ⟨σ,⟨fn,bk,pre.length,rg⟩,S⟩ (a5p call inp fuel l rg σ).2 (fun x=>x=⟨(a5p call inp fuel l rg σ).2,⟨fn,bk,pre.length+l.length,(a5p call inp fuel l rg σ).1⟩,S⟩)
 | [],pre,rg,σ,_,_,_,_,_=>ToB.here rfl
 | t::l,pre,rg,σ,hb,hop,hr,hw,h0=>by
  have hs:=hw.s;have ht:=hop t (List.mem_cons_self ..);have hat:((fs.getD fn default).bks.getD bk default).ins.getD pre.length default=t:=by rw[hb];simp[List.getD]
  have hlt:pre.length<((fs.getD fn default).bks.getD bk default).ins.length:=by rw[hb];simp
  refine ToB.step ?_;rw[b3b];by_cases hf:fuel≤σ.st
  ·rw[if_pos hf];have e:a2d fs inp fuel ⟨σ,⟨fn,bk,pre.length,rg⟩,S⟩=⟨{ σ with en:=5 },⟨fn,bk,pre.length,rg⟩,S⟩:=by
    unfold a2d;rw[if_neg (by simp[h0]),if_pos hf]
   rw[e];exact ⟨0,fun e=>absurd e (by simp),fun _=>rfl⟩
  rw[if_neg hf];have hb':((fs.getD fn default).bks.getD bk default).ins=(pre++[t])++l:=by rw[hb];simp
  have hpl:(pre++[t]).length=pre.length+1:=by simp
  by_cases h10:t.op=10
  ·have eo:opF call inp t rg { σ with st:=σ.st+1 }=(rg,call t.base.toNat { σ with st:=σ.st+1 }):=by unfold opF;simp[h10]
   have e:a2d fs inp fuel ⟨σ,⟨fn,bk,pre.length,rg⟩,S⟩=⟨{ σ with st:=σ.st+1 },newB fs t.base.toNat,⟨fn,bk,pre.length+1,rg⟩::S⟩:=by
    unfold a2d;simp only[hat];rw[if_neg (by simp[h0]),if_neg hf,if_pos hlt,if_pos h10]
   have hj:=ht.1 h10;have hw1:WfB inp fuel n { σ with st:=σ.st+1 }:=⟨hw.n,hw.w,hw.o,hw.r,by show σ.st+1≤fuel;omega⟩
   have hcall:=hc _ hj { σ with st:=σ.st+1 } (⟨fn,bk,pre.length+1,rg⟩::S) hw1 h0;have hst':=(hP _ hj _ hw1 h0).1;rw[e,eo];simp only;generalize call t.base.toNat { σ with st:=σ.st+1 }=τ at *
   by_cases hτ:τ.en=0
   ·rw[if_pos hτ];refine ToB.bind hcall (fun h=>absurd hτ h) fun _ x hx=>?_;obtain ⟨u,rfl⟩:=hx;have ih:=b8e hc hP l (pre++[t]) rg τ hb' (fun y hy=>hop y (List.mem_cons_of_mem _ hy)) hr hst' hτ (S:=S);rw[hpl]at ih;refine ih.mono fun x hx=>?_;rw[hx,List.length_cons,show pre.length+1+l.length=pre.length+(l.length+1) by omega]
   ·rw[if_neg hτ];exact hcall.bind (fun _=>rfl) fun h=>absurd h hτ
  ·have eo:opF call inp t rg { σ with st:=σ.st+1 }=opF (fun _ τ=>τ) inp t rg { σ with st:=σ.st+1 }:=by unfold opF;simp[h10]
   have e:a2d fs inp fuel ⟨σ,⟨fn,bk,pre.length,rg⟩,S⟩=⟨(opF call inp t rg { σ with st:=σ.st+1 }).2,⟨fn,bk,pre.length+1,(opF call inp t rg { σ with st:=σ.st+1 }).1⟩,S⟩:=by
    rw[eo];unfold a2d;simp only[hat];rw[if_neg (by simp[h0]),if_neg hf,if_pos hlt,if_neg h10]
   have hw1:WfB inp fuel n { σ with st:=σ.st+1 }:=⟨hw.n,hw.w,hw.o,hw.r,by show σ.st+1≤fuel;omega⟩
   obtain ⟨v1,v2,_⟩:=b8Z hP ht.2.1 ht.2.2 hr hw1 h0;rw[e];generalize opF call inp t rg { σ with st:=σ.st+1 }=p at *
   by_cases hp:p.2.en=0
   ·rw[if_pos hp];have ih:=b8e hc hP l (pre++[t]) p.1 p.2 hb' (fun y hy=>hop y (List.mem_cons_of_mem _ hy)) v1 v2 hp (S:=S);rw[hpl]at ih;refine ih.mono fun x hx=>?_;rw[hx,List.length_cons,show pre.length+1+l.length=pre.length+(l.length+1) by omega]
   ·rw[if_neg hp];exact ⟨0,fun h=>absurd h hp,fun _=>rfl⟩
theorem c1E {call:Nat→Bst→Bst} {k n m:Nat} (hc:c5D fs inp fuel n call k) (hP:b5h inp fuel n k call) {fn:Nat} {S:List FmB} (hop:∀ b ∈ (fs.getD fn default).bks,∀ t ∈ b.ins,(t.op=10→t.base.toNat<k)∧FitsT t k m n∧a1b t.n)
 (hto:∀ i<(fs.getD fn default).bks.length,∀ rg,((fs.getD fn default).bks.getD i default).e≠3→(goB ((fs.getD fn default).bks.getD i default) rg).toNat<(fs.getD fn default).bks.length) :
 ∀ (g i:Nat) (rg:List Int) (σ:Bst),i<(fs.getD fn default).bks.length→WfR m rg→WfB inp fuel n σ→σ.en=0→fuel+1≤σ.st+g →
  ToB fs inp fuel ⟨σ,⟨fn,i,0,rg⟩,S⟩ (b7C call inp fuel (fs.getD fn default) g i rg σ) (fun x=>∃ t,x=c8O t S (b7C call inp fuel (fs.getD fn default) g i rg σ))
 | 0,i,rg,σ,hi,hr,hw,h0,hg=>absurd hg (by have:=hw.s;omega)
 | g+1,i,rg,σ,hi,hr,hw,h0,hg=>by
  have hm:(fs.getD fn default).bks.getD i default ∈ (fs.getD fn default).bks:=a0q hi;have hI:=b8e hc hP (fn:=fn) (bk:=i) (S:=S) ((fs.getD fn default).bks.getD i default).ins [] rg σ (by simp) (hop _ hm) hr hw h0;obtain ⟨v1,v2,hmo⟩:=b3d hP ((fs.getD fn default).bks.getD i default).ins rg σ (fun t ht=>(hop _ hm t ht).2) hr hw h0;rw[b3c];generalize hp:a5p call inp fuel ((fs.getD fn default).bks.getD i default).ins rg σ=p at *
  by_cases hp0:p.2.en=0
  ·rw[if_pos hp0];refine ToB.bind hI (fun h=>absurd hp0 h) fun _ x hx=>?_;subst hx;simp only[List.length_nil,Nat.zero_add];refine ToB.step ?_;by_cases hf:fuel≤p.2.st
   ·rw[if_pos hf];have e:a2d fs inp fuel ⟨p.2,⟨fn,i,((fs.getD fn default).bks.getD i default).ins.length,p.1⟩,S⟩=⟨{ p.2 with en:=5 },⟨fn,i,((fs.getD fn default).bks.getD i default).ins.length,p.1⟩,S⟩:=by
     unfold a2d;rw[if_neg (by simp[hp0]),if_pos hf]
    rw[e];exact ⟨0,fun e=>absurd e (by simp),fun _=>rfl⟩
   rw[if_neg hf];by_cases h3:((fs.getD fn default).bks.getD i default).e=3
   ·rw[if_pos h3];have e:a2d fs inp fuel ⟨p.2,⟨fn,i,((fs.getD fn default).bks.getD i default).ins.length,p.1⟩,S⟩=c8O ⟨fn,i,((fs.getD fn default).bks.getD i default).ins.length,p.1⟩ S { p.2 with st:=p.2.st+1 }:=by
     unfold a2d;simp only;rw[if_neg (by simp[hp0]),if_neg hf,if_neg (Nat.lt_irrefl _),if_pos h3];cases S<;>rfl
    rw[e];exact ⟨0,fun _=>⟨_,rfl⟩,fun h=>absurd hp0 h⟩
   ·rw[if_neg h3];have e:a2d fs inp fuel ⟨p.2,⟨fn,i,((fs.getD fn default).bks.getD i default).ins.length,p.1⟩,S⟩=⟨{ p.2 with st:=p.2.st+1 },⟨fn,(goB ((fs.getD fn default).bks.getD i default) p.1).toNat,0,p.1⟩,S⟩:=by
     unfold a2d;simp only;rw[if_neg (by simp[hp0]),if_neg hf,if_neg (Nat.lt_irrefl _),if_neg h3]
    rw[e];exact c1E hc hP hop hto g _ _ _ (hto i hi _ h3) v1 ⟨v2.n,v2.w,v2.o,v2.r,by show p.2.st+1≤fuel;omega⟩ hp0 (by show fuel+1≤p.2.st+1+g;omega)
  ·rw[if_neg hp0];exact hI.bind (fun _=>rfl) fun h=>absurd h hp0
theorem c1F {n:Nat} (hf:FnsOk fs n):∀ k,k≤fs.length→c5D fs inp fuel n (b8Y fs inp fuel k) k
 | 0,_=>fun i hi=>absurd hi (Nat.not_lt_zero i)
 | k+1,hk=>fun i hi σ S hw h0=>by
  have ho:=a5q (hf.one i (by omega));have hfit:=hf.fit (i:=i) (k:=k) (by omega) (by omega);have hrr:(((fs.getD i default).regs.toNat:Nat):Int)=(fs.getD i default).regs:=by have:=ho.1;omega
  refine c1E (m:=(fs.getD i default).regs.toNat) (c1F hf k (by omega)) (a8R hf k (by omega)) (fn:=i) (S:=S) (fun b hb t ht=>⟨fun h10=>?_,by rw[hrr];exact hfit b hb t ht⟩) (fun j hj rg h3=>?_) (fuel+1) 0 _ σ (List.length_pos_iff.2 ho.2.2.1) (b6Q _) hw h0 (by omega)
  ·have h:=(hfit b hb t ht).1.2.2.2.2.2.2.2;unfold a3L at h;simp only[h10,Int.reduceEq,if_false,or_self,if_true]at h;omega
  ·have hE:=(ho.2.2.2 _ (a0q hj)).1;unfold a3F at hE;unfold goB;split at hE
   ·rw[if_neg (by omega)];omega
   ·split at hE
    ·split<;>omega
    ·exact absurd hE.1 h3
theorem c5E {n:Nat} (hf:FnsOk fs n) (h:0<fs.length) {σ:Bst} (hw:WfB inp fuel n σ) (h0:σ.en=0) :
 ∃ c,(a8Z fs inp fuel ⟨σ,newB fs (fs.length-1),[]⟩ c).s=(if (b8Y fs inp fuel fs.length (fs.length-1) σ).en=0 then { b8Y fs inp fuel fs.length (fs.length-1) σ with en:=1 } else b8Y fs inp fuel fs.length (fs.length-1) σ)∧(a8Z fs inp fuel ⟨σ,newB fs (fs.length-1),[]⟩ c).s.en≠0:=by
 obtain ⟨c,h1,h2⟩:=c1F (inp:=inp) (fuel:=fuel) hf fs.length (Nat.le_refl _) (fs.length-1) (by omega) σ [] hw h0;refine ⟨c,?_⟩;by_cases e:(b8Y fs inp fuel fs.length (fs.length-1) σ).en=0
 ·obtain ⟨t,ht⟩:=h1 e;rw[ht,if_pos e];exact ⟨rfl,by simp[c8O]⟩
 ·rw[h2 e,if_neg e];exact ⟨rfl,e⟩
theorem c1G {m:SmB} {a b:Nat} (ha:(a8Z fs inp fuel m a).s.en≠0) (hb:(a8Z fs inp fuel m b).s.en≠0):a8Z fs inp fuel m a=a8Z fs inp fuel m b:=by
 rcases Nat.le_total a b with h | h
 ·rw[show b=a+(b-a) by omega,a9y,b5i ha]
 ·rw[show a=b+(a-b) by omega,a9y,b5i hb]
end
set_option maxRecDepth 10000
open Go.V
theorem c3q (op a b:Int) (h:op=7∨op=8):Contract Tryz.prog 70 [I op,U32 a,U32 b] (fun r=>r=b7B (a0R op a b)):=by
 refine Contract.of_call (VCall.of_body a1g b4Y (by simp) ?_);simp only[go_sem,a9s];refine ⟨fun h0=>⟨_,Frz.pure rfl,?_⟩,fun h0=>⟨fun h1=>⟨h0,_,Frz.pure rfl,?_⟩,fun h1=>⟨h0,_,Frz.pure rfl,?_⟩⟩⟩
 ·rcases h with rfl | rfl<;>simp[a0R,b7B,h0]
 ·subst h1;simp[a0R,b7B,h0]
 ·rcases h with rfl | rfl
  ·exact absurd rfl h1
  ·simp[a0R,b7B,h0]
theorem c5F (op a b:Int) (hb:0≤b):Contract Tryz.prog 71 [I op,U32 a,U32 b] (fun r=>r=U32 (if 31<b then 0 else if op=12 then c7o a b else c4I a b)):=by
 refine Contract.of_call (VCall.of_body a1g b6H (by simp) ?_);simp only[go_sem,b1F];refine ⟨fun h0=>⟨_,Frz.pure rfl,?_⟩,fun h0=>⟨fun h1=>⟨hb,_,Frz.pure rfl,?_⟩,fun h1=>⟨hb,_,Frz.pure rfl,?_⟩⟩⟩
 ·rw[if_pos h0]
 ·rw[if_neg h0,if_pos h1];rfl
 ·rw[if_neg h0,if_neg h1];rfl
theorem c1H (op a b:Int):Contract Tryz.prog 72 [I op,U32 a,U32 b] (fun r=>r=U32 (if (op=14∧a<b)∨(op=15∧a=b) then 1 else 0)):=by
 refine Contract.of_call (VCall.of_body a1g b3G (by simp) ?_);by_cases h1:op=14
 ·subst h1;by_cases h2:a<b
  ·simp only[go_sem,a1Q,eq_true h2,Int.reduceEq,Int.reduceBEq];exact ⟨_,Frz.pure rfl,by simp[h2]⟩
  ·simp only[go_sem,a1Q,eq_false h2,Int.reduceEq,Int.reduceBEq];exact ⟨_,Frz.pure rfl,by simp[h2]⟩
 ·by_cases h3:op=15
  ·subst h3;by_cases h2:a=b
   ·simp only[go_sem,a1Q,eq_true h2,Int.reduceEq,Int.reduceBEq];exact ⟨_,Frz.pure rfl,by simp[h2]⟩
   ·simp only[go_sem,a1Q,eq_false h2,Int.reduceEq,Int.reduceBEq];exact ⟨_,Frz.pure rfl,by simp[h2]⟩
  ·simp only[go_sem,a1Q,eq_false h1,eq_false h3];exact ⟨_,Frz.pure rfl,by simp[h1,h3]⟩
theorem c1I (op a b:Int) (hb:0≤b):Contract Tryz.prog 50 [I op,U32 a,U32 b] (fun r=>r=b7B (a0R op a b)):=by
 refine Contract.of_call (VCall.of_body a1g b6D (by simp) ?_);have hop:op=4∨op=5∨op=6∨op=9∨op=10∨op=11∨op=7∨op=8∨op=12∨op=13∨op=14∨op=15∨(op≠4∧op≠5∧op≠6∧op≠7∧op≠8∧op≠9∧op≠10∧op≠11∧op≠12∧op≠13∧op≠14∧op≠15):=by omega
 rcases hop with rfl | rfl | rfl | rfl | rfl | rfl | rfl | rfl | rfl | rfl | rfl | rfl | ⟨h1,h2,h3,h4,h5,h6,h7,h8,h9,h10,h11,h12⟩
 iterate 6
  ·simp only[go_sem,a2I,Int.reduceEq,Int.reduceBEq];exact ⟨_,Frz.pure rfl,by first | rfl | simp[a0R,b7B,c6Z,orW,c7n]⟩
 iterate 2
  ·simp only[go_sem,a2I,Int.reduceEq,Int.reduceBEq];refine VCall.of_contract (c3q _ a b (by simp)) (SleL.pure rfl) fun x hx=>?_;subst hx;simp only[go_sem];exact ⟨_,Frz.pure rfl,rfl⟩
 iterate 2
  ·simp only[go_sem,a2I,Int.reduceEq,Int.reduceBEq];refine VCall.of_contract (c5F _ a b hb) (SleL.pure rfl) fun x hx=>?_;subst hx;simp only[go_sem];exact ⟨_,Frz.pure rfl,by simp[a0R,b7B]⟩
 iterate 2
  ·simp only[go_sem,a2I,Int.reduceEq,Int.reduceBEq];refine VCall.of_contract (c1H _ a b) (SleL.pure rfl) fun x hx=>?_;subst hx;simp only[go_sem];exact ⟨_,Frz.pure rfl,by simp[a0R,b7B]⟩
 ·simp only[go_sem,a2I,eq_false h1,eq_false h2,eq_false h3,eq_false h4,eq_false h5,eq_false h6,eq_false h7,eq_false h8,eq_false h9,eq_false h10,eq_false h11,eq_false h12];exact ⟨_,Frz.pure rfl,by simp[a0R,b7B,h1,h2,h3,h4,h5,h6,h7,h8,h9,h10,h11,h12]⟩
set_option maxRecDepth 10000
open Go.V
def OutP (H:List VObj) (v:AV) (l:List UInt8):Prop :=
 (v=a0T∧l=[])∨∃ k s,v = .ref k s 0 l.length∧H[k]? = some ⟨s,5,1,l.map U8⟩
theorem OutP.one {H:List VObj} {v:AV} {l:List UInt8} (h:OutP H v l):v.one=true:=by
 rcases h with ⟨h,_⟩ | ⟨_,_,h,_⟩<;>rw[h]<;>rfl
theorem a0M {H:List VObj} {k:Nat} {ob:VObj} (h:H[k]? = some ob) (x:List VObj):(H++x)[k]? = some ob:=by
 rw[List.getElem?_append_left (List.getElem?_eq_some_iff.1 h).1];exact h
theorem get_set {H:List VObj} {k:Nat} {ob:VObj} (h:H[k]? = some ob) (x:VObj):(H.set k x)[k]? = some x:=by
 rw[List.getElem?_set,if_pos rfl,if_pos (List.getElem?_eq_some_iff.1 h).1]
theorem a0C {H:List VObj} {k j:Nat} {ob:VObj} (h:H[k]? = some ob) (hne:j≠k) (x:VObj):(H.set j x)[k]? = some ob:=by
 rw[List.getElem?_set,if_neg hne];exact h
theorem OutP.app {H:List VObj} {v:AV} {l:List UInt8} (h:OutP H v l) (x:List VObj):OutP (H++x) v l:=by
 rcases h with h | ⟨k,s,h1,h2⟩
 ·exact .inl h
 ·exact .inr ⟨k,s,h1,a0M h2 x⟩
theorem OutP.set {H:List VObj} {v:AV} {l:List UInt8} (h:OutP H v l) {q:Nat} {ob:VObj} (hq:H[q]? = some ob) (ht:ob.ty≠5) (ob':VObj):OutP (H.set q ob') v l:=by
 rcases h with h | ⟨k,s,h1,h2⟩
 ·exact .inl h
 ·refine .inr ⟨k,s,h1,a0C h2 (fun e=>?_) _⟩;subst e;rw[h2]at hq;cases hq;exact ht rfl
structure MacP (fs:List BF) (inp:ByteArray) (n nf sM kw sw kr sr:Nat) (H:List VObj) (σ:Bst) (vo:AV):Prop where
 m:H[4]? = some ⟨sM,86,1,[.imm 2 (fs.map bfA),.ref kw sw 0 n,.ref kr sr 0 nf,a2W inp,I σ.rd,vo]⟩
 w:H[kw]? = some ⟨sw,93,1,σ.ws.map U32⟩
 o:OutP H vo σ.out
def KeepM (kw q:Nat) (H H':List VObj):Prop:=∀ (k:Nat) (ob:VObj),H[k]? = some ob→ob.ty≠5→k≠4→k≠kw→k≠q→H'[k]? = some ob
theorem KeepM.refl (kw q:Nat) (H:List VObj):KeepM kw q H H:=fun _ _ h _ _ _ _=>h
theorem KeepM.set {kw q j:Nat} {H:List VObj} (h:j=4∨j=kw∨j=q) (x:VObj):KeepM kw q H (H.set j x):=fun k ob h1 _ h3 h4 h5=>a0C h1 (by rcases h with h | h | h<;>omega) x
theorem KeepM.app (kw q:Nat) (H x:List VObj):KeepM kw q H (H++x):=fun k ob h _ _ _ _=>a0M h x
theorem KeepM.trans {kw q:Nat} {H H' H'':List VObj} (h:KeepM kw q H H') (k:KeepM kw q H' H''):KeepM kw q H H'':=fun i ob h1 h2 h3 h4 h5=>k i ob (h i ob h1 h2 h3 h4 h5) h2 h3 h4 h5
section
variable {fs:List BF} {inp:ByteArray} {fuel n nf sM kw sw kr sr:Nat}
theorem c3r {H:List VObj} {k:Nat} {ob ob':VObj} (h:H[k]? = some ob) (hs:ob'.s=ob.s) (hz:ob'.sz=ob.sz):Stab (fun _=>True) 1 H (H.set k ob'):=fun id o _ ho=>by
 rw[List.getElem?_set];by_cases e:k=id
 ·subst e;rw[h]at ho;cases ho;rw[if_pos rfl,if_pos (List.getElem?_eq_some_iff.1 h).1];exact ⟨_,rfl,hs,hz⟩
 ·rw[if_neg e];exact ⟨o,ho,rfl,rfl⟩
theorem c7s (hi:inp.size≤1000000000) (σ:Bst) (hr:σ.rd≤inp.size) (H:List VObj) (vo:AV) (nx:Nat) (hm:MacP fs inp n nf sM kw sw kr sr H σ vo) (C:AV→List VObj→Nat→Prop)
 (hC:if σ.rd<inp.size then C (U32 (a1v inp σ.rd)) (H.set 4 ⟨sM,86,1,[.imm 2 (fs.map bfA),.ref kw sw 0 n,.ref kr sr 0 nf,a2W inp,I (σ.rd+1:Nat),vo]⟩) nx else C (U32 256) H nx) :
 VCall Tryz.prog 51 [.ptr 4 sM 0] H nx C:=by
 refine VCall.of_body a1g a8L (by simp) ?_;obtain ⟨hM,hw',hu⟩:=hm;have hu1:=hu.one;have e1:IntKind.i64.wrap ((σ.rd:Int)+1)=((σ.rd+1:Nat):Int):=by rw[a0e (by omega) (by omega)];omega
 have hb:IntKind.u32.wrap (a1v inp σ.rd)=a1v inp σ.rd:=a1I (b6P _ _).1;by_cases h:σ.rd<inp.size
 ·rw[if_pos h]at hC;simp only[go_sem,a2u,hM,hu1,Int.reduceEq,Int.reduceBEq,ge_iff_le,e1,hb,eq_false (show ¬ (inp.size:Int)≤(σ.rd:Int) by omega)]
  repeat ((with_reducible refine And.intro ?_ ?_);· first | omega | rfl)
  exact hC
 ·rw[if_neg h]at hC;simp only[go_sem,a2u,hM,hu1,Int.reduceEq,Int.reduceBEq,ge_iff_le,eq_true (show (inp.size:Int)≤(σ.rd:Int) by omega)];exact hC
set_option maxHeartbeats 2000000 in
theorem c9b (m:Nat) (hi:inp.size≤1000000000) (hn:n≤2000000) (t:Tac) {k:Nat} (ht:FitsT t k m n) (htn:a1b t.n) (h10:t.op≠10) (rg:List Int) (hr:WfR m rg) (σ:Bst) (hw:WfB inp fuel n σ) (h0:σ.en=0) (H:List VObj) (vo:AV) (q sq nx:Nat)
 (hm:MacP fs inp n nf sM kw sw kr sr H σ vo) (hq:H[q]? = some ⟨sq,93,1,rg.map U32⟩) (hqw:q≠kw) (hw4:kw≠4) (C:AV→List VObj→Nat→Prop)
 (hC:∀ H' vo' nx',MacP fs inp n nf sM kw sw kr sr H' (opF (fun _ τ=>τ) inp t rg σ).2 vo'→H'[q]? = some ⟨sq,93,1,(opF (fun _ τ=>τ) inp t rg σ).1.map U32⟩→KeepM kw q H H' →
   C (I (opF (fun _ τ=>τ) inp t rg σ).2.en) H' nx') :
 VCall Tryz.prog 29 [.ptr 4 sM 0,.ip (.agg (a8s t)),.ref q sq 0 m] H nx C:=by
 refine VCall.of_body a1g a9p (by simp) ?_;obtain ⟨op,d,a,b,kk,base,size,nn⟩:=t;obtain ⟨h1,h2,h3,h4,h5,h6,h7,h8⟩:=ht;simp only at h1 h2 h3 h4 h5 h6 h7 htn h10;obtain ⟨ws,out,rd,st,en⟩:=σ;obtain ⟨hM,hw',hu⟩:=hm;simp only at h0 hM hw' hu;subst h0;have hq4:q≠4:=fun e=>by subst e;rw[hM]at hq;cases hq
 have hu1:=hu.one;obtain ⟨q1,q2,q3,q4,q5⟩:=hw;simp only at q1 q2 q3 q4 q5;have hrl:=hr.n;have tn:93≠5:=by decide
 have hset:∀ (l:List Int) (i v:Int),(l.map U32).set i.toNat (U32 v)=(sR l i v).map U32:=fun l i v=>a0I U32 _ _ _;have regs:∀ (l:List Int),MacP fs inp n nf sM kw sw kr sr (H.set q ⟨sq,93,1,l.map U32⟩) ⟨ws,out,rd,st,0⟩ vo∧(H.set q ⟨sq,93,1,l.map U32⟩)[q]? = some ⟨sq,93,1,l.map U32⟩∧KeepM kw q H (H.set q ⟨sq,93,1,l.map U32⟩):=fun l =>
  ⟨⟨a0C hM hq4 _,a0C hw' hqw _,hu.set hq tn _⟩,get_set hq _,KeepM.set (.inr (.inr rfl)) _⟩
 have b2p:∀ (l:List Int),MacP fs inp n nf sM kw sw kr sr (H.set kw ⟨sw,93,1,l.map U32⟩) ⟨l,out,rd,st,0⟩ vo∧(H.set kw ⟨sw,93,1,l.map U32⟩)[q]? = some ⟨sq,93,1,rg.map U32⟩∧KeepM kw q H (H.set kw ⟨sw,93,1,l.map U32⟩):=fun l =>
  ⟨⟨a0C hM hw4 _,get_set hw' _,hu.set hw' tn _⟩,a0C hq (fun e=>hqw e.symm) _,KeepM.set (.inr (.inl rfl)) _⟩
 have same:∀ e,MacP fs inp n nf sM kw sw kr sr H ⟨ws,out,rd,st,e⟩ vo:=fun e=>⟨hM,hw',hu⟩
 have eg:∀ i:Int,rg.getD i.toNat default=gR rg i:=fun _=>rfl;have gl:∀ x:VObj,(H++[x])[H.length]? = some x:=fun x=>by simp
 have gM1:∀ x:VObj,(H++[x])[4]? = some ⟨sM,86,1,[.imm 2 (fs.map bfA),.ref kw sw 0 n,.ref kr sr 0 nf,a2W inp,I rd,vo]⟩:=fun x=>a0M hM _;have gM2:∀ x y:VObj,(H++[x]++[y])[4]? = some ⟨sM,86,1,[.imm 2 (fs.map bfA),.ref kw sw 0 n,.ref kr sr 0 nf,a2W inp,I rd,vo]⟩:=fun x y=>a0M (a0M hM _) _;have hop:op=1∨op=2∨op=3∨op=4∨op=5∨op=6∨op=7∨op=8∨op=9:=by omega
 rcases hop with rfl | rfl | rfl | rfl | rfl | rfl | rfl | rfl | rfl
 all_goals simp only[a0l,a0m,a3L,Int.reduceEq,or_false,or_true,false_or,true_or,or_self,if_true,if_false,List.mem_cons,List.not_mem_nil,forall_eq_or_imp,forall_eq,false_implies,implies_true,and_true]at h3 h4 h8
 ·
  simp only[go_sem,a0w,a0b,hM,hw',hq,hset,hu1,Int.reduceEq,Int.reduceBEq]
  repeat ((with_reducible refine And.intro ?_ ?_);· first | omega | rfl)
  obtain ⟨r1,r2,r3⟩:=regs _;exact hC _ _ _ r1 r2 r3
 ·
  simp only[go_sem,a0w,a0b,hM,hw',hq,hset,hu1,Int.reduceEq,Int.reduceBEq]
  repeat ((with_reducible refine And.intro ?_ ?_);· first | omega | rfl)
  obtain ⟨r1,r2,r3⟩:=regs _;exact hC _ _ _ r1 r2 r3
 ·
  have ha:=b1Z hr h4.1;have hb:=b1Z hr h4.2;simp only[go_sem,a0w,a0b,hM,hw',hq,hset,hu1,Int.reduceEq,Int.reduceBEq]
  repeat ((with_reducible refine And.intro ?_ ?_);· first | omega | rfl)
  refine ECall.of (c1I kk _ _ hb.1) (SleL.pure rfl) ⟨_,fun _=>Iff.rfl⟩ fun x hx=>?_;subst hx;by_cases h:(a0R kk (gR rg a) (gR rg b)).2=0
  ·have hs:opF (fun _ τ=>τ) inp ⟨3,d,a,b,kk,base,size,nn⟩ rg ⟨ws,out,rd,st,0⟩=(sR rg d (a0R kk (gR rg a) (gR rg b)).1,⟨ws,out,rd,st,0⟩):=by
    show (if (a0R kk (gR rg a) (gR rg b)).2=0 then _ else _)=_;rw[if_pos h]
   rw[hs]at hC;simp only[go_sem,a0b,hM,hw',hq,hset,hu1,Int.reduceEq,Int.reduceBEq,eg,h]
   repeat ((with_reducible refine And.intro ?_ ?_);· first | omega | rfl)
   obtain ⟨r1,r2,r3⟩:=regs _;exact hC _ _ _ r1 r2 r3
  ·have hs:opF (fun _ τ=>τ) inp ⟨3,d,a,b,kk,base,size,nn⟩ rg ⟨ws,out,rd,st,0⟩=(rg,⟨ws,out,rd,st,2⟩):=by
    show (if (a0R kk (gR rg a) (gR rg b)).2=0 then _ else _)=_;rw[if_neg h]
   rw[hs]at hC;simp only[go_sem,a0b,hM,hw',hq,hset,hu1,Int.reduceEq,Int.reduceBEq,eg,eq_false h]
   repeat ((with_reducible refine And.intro ?_ ?_);· first | omega | rfl)
   exact hC _ _ _ (same _) hq (KeepM.refl _ _ _)
 ·
  simp only[go_sem,a0w,a0b,hM,hw',hq,hset,hu1,Int.reduceEq,Int.reduceBEq]
  repeat ((with_reducible refine And.intro ?_ ?_);· first | omega | rfl)
  obtain ⟨r1,r2,r3⟩:=regs _;exact hC _ _ _ r1 r2 r3
 ·
  simp only[go_sem,a0w,a0b,hM,hw',hq,hset,hu1,Int.reduceEq,Int.reduceBEq]
  repeat ((with_reducible refine And.intro ?_ ?_);· first | omega | rfl)
  obtain ⟨r1,r2,r3⟩:=b2p _;exact hC _ _ _ r1 r2 r3
 ·
  have ha:=b1Z hr h4;have ha1:=ha.1;have ha2:=ha.2;have e1:IntKind.u64.wrap (rg.getD a.toNat default)=gR rg a:=by show IntKind.u64.wrap (gR rg a)=_;rw[IntKind.wrap_u64];omega
  have e2:IntKind.u64.wrap size=size:=by rw[IntKind.wrap_u64];omega
  have e3:IntKind.i64.wrap (rg.getD a.toNat default)=gR rg a:=a0e (by show -9223372036854775808≤gR rg a;omega) (by show gR rg a≤_;omega);by_cases h:gR rg a<size
  ·have hs:opF (fun _ τ=>τ) inp ⟨6,d,a,b,kk,base,size,nn⟩ rg ⟨ws,out,rd,st,0⟩=(sR rg d (gR ws (base+gR rg a)),⟨ws,out,rd,st,0⟩):=by
    show (if gR rg a<size then _ else _)=_;rw[if_pos h]
   rw[hs]at hC;simp only[go_sem,a0w,a0b,hM,hw',hq,hset,hu1,Int.reduceEq,Int.reduceBEq,e1,e2,e3,a0e (show -9223372036854775808≤base+gR rg a by omega) (show base+gR rg a≤9223372036854775807 by omega),ge_iff_le,eq_false (show ¬ size≤gR rg a by omega)]
   repeat ((with_reducible refine And.intro ?_ ?_);· first | omega | rfl)
   obtain ⟨r1,r2,r3⟩:=regs _;exact hC _ _ _ r1 r2 r3
  ·have hs:opF (fun _ τ=>τ) inp ⟨6,d,a,b,kk,base,size,nn⟩ rg ⟨ws,out,rd,st,0⟩=(rg,⟨ws,out,rd,st,3⟩):=by
    show (if gR rg a<size then _ else _)=_;rw[if_neg h]
   rw[hs]at hC;simp only[go_sem,a0w,a0b,hM,hw',hq,hset,hu1,Int.reduceEq,Int.reduceBEq,e1,e2,ge_iff_le,eq_true (show size≤gR rg a by omega)]
   repeat ((with_reducible refine And.intro ?_ ?_);· first | omega | rfl)
   exact hC _ _ _ (same _) hq (KeepM.refl _ _ _)
 ·
  have ha:=b1Z hr h4.1;have ha1:=ha.1;have ha2:=ha.2;have e1:IntKind.u64.wrap (rg.getD a.toNat default)=gR rg a:=by show IntKind.u64.wrap (gR rg a)=_;rw[IntKind.wrap_u64];omega
  have e2:IntKind.u64.wrap size=size:=by rw[IntKind.wrap_u64];omega
  have e3:IntKind.i64.wrap (rg.getD a.toNat default)=gR rg a:=a0e (by show -9223372036854775808≤gR rg a;omega) (by show gR rg a≤_;omega);by_cases h:gR rg a<size
  ·have hs:opF (fun _ τ=>τ) inp ⟨7,d,a,b,kk,base,size,nn⟩ rg ⟨ws,out,rd,st,0⟩=(rg,⟨sR ws (base+gR rg a) (gR rg b),out,rd,st,0⟩):=by
    show (if gR rg a<size then _ else _)=_;rw[if_pos h]
   rw[hs]at hC;simp only[go_sem,a0w,a0b,hM,hw',hq,hset,hu1,Int.reduceEq,Int.reduceBEq,e1,e2,e3,a0e (show -9223372036854775808≤base+gR rg a by omega) (show base+gR rg a≤9223372036854775807 by omega),ge_iff_le,eq_false (show ¬ size≤gR rg a by omega)]
   repeat ((with_reducible refine And.intro ?_ ?_);· first | omega | rfl)
   obtain ⟨r1,r2,r3⟩:=b2p _;exact hC _ _ _ r1 r2 r3
  ·have hs:opF (fun _ τ=>τ) inp ⟨7,d,a,b,kk,base,size,nn⟩ rg ⟨ws,out,rd,st,0⟩=(rg,⟨ws,out,rd,st,3⟩):=by
    show (if gR rg a<size then _ else _)=_;rw[if_neg h]
   rw[hs]at hC;simp only[go_sem,a0w,a0b,hM,hw',hq,hset,hu1,Int.reduceEq,Int.reduceBEq,e1,e2,ge_iff_le,eq_true (show size≤gR rg a by omega)]
   repeat ((with_reducible refine And.intro ?_ ?_);· first | omega | rfl)
   exact hC _ _ _ (same _) hq (KeepM.refl _ _ _)
 ·
  simp only[go_sem,a0w,a0b,hM,hw',hq,hset,hu1,Int.reduceEq,Int.reduceBEq]
  repeat ((with_reducible refine And.intro ?_ ?_);· first | omega | rfl)
  repeat' (with_reducible apply And.intro)
  all_goals
   refine c7s hi ⟨ws,out,rd,st,0⟩ q4 H vo nx ⟨hM,hw',hu⟩ _ ?_;by_cases h:rd<inp.size
   ·have hs:opF (fun _ τ=>τ) inp ⟨8,d,a,b,kk,base,size,nn⟩ rg ⟨ws,out,rd,st,0⟩=(sR rg d (a1v inp rd),⟨ws,out,rd+1,st,0⟩):=by
     show (if rd<inp.size then _ else _)=_;rw[if_pos h]
    rw[hs]at hC;rw[if_pos h];have hqs:=fun x=>a0C hq (fun e=>hq4 e.symm) (x:=x);refine ⟨c3r hM rfl rfl,?_⟩;simp only[go_sem,a0w,a0b,hM,hw',hq,hset,hu1,Int.reduceEq,Int.reduceBEq,hqs]
    repeat ((with_reducible refine And.intro ?_ ?_);· first | omega | rfl)
    refine hC _ _ _ ⟨a0C (get_set hM _) hq4 _,a0C (a0C hw' (fun e=>hw4 e.symm) _) hqw _,(hu.set hM (show 86≠5 by decide) _).set (hqs _) tn _⟩ (get_set (hqs _) _) ((KeepM.set (.inl rfl) _).trans (KeepM.set (.inr (.inr rfl)) _))
   ·have hs:opF (fun _ τ=>τ) inp ⟨8,d,a,b,kk,base,size,nn⟩ rg ⟨ws,out,rd,st,0⟩=(sR rg d 256,⟨ws,out,rd,st,0⟩):=by
     show (if rd<inp.size then _ else _)=_;rw[if_neg h]
    rw[hs]at hC;rw[if_neg h];refine ⟨Stab.refl _ _ _,?_⟩;simp only[go_sem,a0w,a0b,hM,hw',hq,hset,hu1,Int.reduceEq,Int.reduceBEq]
    repeat ((with_reducible refine And.intro ?_ ?_);· first | omega | rfl)
    obtain ⟨r1,r2,r3⟩:=regs _;exact hC _ _ _ r1 r2 r3
 ·
  have hU8:(AV.val (.int .u8 (IntKind.u8.wrap (rg.getD a.toNat default))))=U8 (b8b (gR rg a)):=by
   show AV.val (.int .u8 (IntKind.u8.wrap (gR rg a)))=AV.val (.int .u8 ((b8b (gR rg a)).toNat:Nat));rw[c3o]
  by_cases h:65536≤out.length
  ·have hs:opF (fun _ τ=>τ) inp ⟨9,d,a,b,kk,base,size,nn⟩ rg ⟨ws,out,rd,st,0⟩=(rg,⟨ws,out,rd,st,4⟩):=by
    show (if 65536≤out.length then _ else _)=_;rw[if_pos h]
   rw[hs]at hC;rcases hu with ⟨rfl,rfl⟩ | ⟨ko,so,rfl,hO⟩
   ·simp at h
   simp only[go_sem,a0w,a0b,hM,hw',hq,hset,hu1,Int.reduceEq,Int.reduceBEq,hO,ge_iff_le,eq_true (show (65536:Int)≤(out.length:Int) by omega)]
   repeat ((with_reducible refine And.intro ?_ ?_);· first | omega | rfl)
   exact hC _ _ _ ⟨hM,hw',.inr ⟨ko,so,rfl,hO⟩⟩ hq (KeepM.refl _ _ _)
  ·have hs:opF (fun _ τ=>τ) inp ⟨9,d,a,b,kk,base,size,nn⟩ rg ⟨ws,out,rd,st,0⟩=(rg,⟨ws,out++[b8b (gR rg a)],rd,st,0⟩):=by
    show (if 65536≤out.length then _ else _)=_;rw[if_neg h]
   rw[hs]at hC;have hmx:(2000000:Nat)≤maxLen:=by decide
   rcases hu with ⟨rfl,rfl⟩ | ⟨ko,so,rfl,hO⟩
   ·simp only[go_sem,a0w,a0b,hM,hw',hq,hset,hu1,Int.reduceEq,Int.reduceBEq,hU8,gl,gM1,gM2]
    repeat ((with_reducible refine And.intro ?_ ?_);· first | omega | rfl)
    refine hC _ _ _ ⟨get_set (gM2 _ _) _,a0C (a0M (a0M hw' _) _) (fun e=>hw4 e.symm) _,.inr ⟨H.length+1,nx+1,by simp,?_⟩⟩ (a0C (a0M (a0M hq _) _) (fun e=>hq4 e.symm) _) (((KeepM.app _ _ _ _).trans (KeepM.app _ _ _ _)).trans (KeepM.set (.inl rfl) _));refine a0C ?_ (by have:=(List.getElem?_eq_some_iff.1 hM).1;omega) _;rw[List.getElem?_append_right (by simp)];simp
   ·have hk4:ko≠4:=fun e=>by subst e;rw[hM]at hO;cases hO
    have hkw:ko≠kw:=fun e=>by subst e;rw[hw']at hO;cases hO
    have hkq:ko≠q:=fun e=>by subst e;rw[hq]at hO;cases hO
    have gO:∀ x:VObj,(H++[x])[ko]? = some ⟨so,5,1,out.map U8⟩:=fun x=>a0M hO _;have gM3:∀ x y:VObj,((H++[x]).set ko y)[4]? = some ⟨sM,86,1,[.imm 2 (fs.map bfA),.ref kw sw 0 n,.ref kr sr 0 nf,a2W inp,I rd,.ref ko so 0 out.length]⟩:=fun x y=>a0C (gM1 x) hk4 _;simp only[go_sem,a0w,a0b,hM,hw',hq,hset,hu1,Int.reduceEq,Int.reduceBEq,hO,hU8,gl,gM1,gO,gM3,ge_iff_le,eq_false (show ¬ (65536:Int)≤(out.length:Int) by omega)]
    repeat ((with_reducible refine And.intro ?_ ?_);· first | omega | rfl)
    refine hC _ _ _ ⟨get_set (gM3 _ _) _,a0C (a0C (a0M hw' _) hkw _) (fun e=>hw4 e.symm) _,.inr ⟨ko,nx+1,by simp,?_⟩⟩ (a0C (a0C (a0M hq _) hkq _) (fun e=>hq4 e.symm) _) (fun j ob j1 j2 j3 j4 j5=>a0C (a0C (a0M j1 _) (fun e=>?_) _) (fun e=>j3 e.symm) _)
    ·refine a0C ?_ (fun e=>hk4 e.symm) _;rw[get_set (gO _),List.take_of_length_le (by simp)];simp
    ·subst e;rw[hO]at j1;cases j1;exact j2 rfl
end
set_option maxRecDepth 10000
open Go.V
def rgN (fs:List BF) (f:Nat):Nat:=(fs.getD f default).regs.toNat
def rcv:Option (Nat × Nat × Nat)→AV
 | none=>a0T
 | some p=>.ref p.1 p.2.1 0 p.2.2
theorem c5G (x:Option (Nat × Nat × Nat)):(rcv x).one=true:=by cases x<;>rfl
theorem c3s:rcv none=a0T:=rfl
theorem b9a (k s m:Nat):rcv (some (k,s,m)) = .ref k s 0 m:=rfl
theorem b9b {rs:List (Option (Nat × Nat × Nat))} {off:Nat} {C:AV→Prop}:a0D (rs.map rcv) off false 1 C .mk=(off<rs.length∧C (rcv (rs.getD off default))):=a1j c5G
theorem c4M (rs:List (Option (Nat × Nat × Nat))) (f k s m:Nat):(rs.map rcv).set f (.ref k s 0 m)=(rs.set f (some (k,s,m))).map rcv:=by rw[List.map_set];rfl
structure RegP (fs:List BF) (nf kr sr kw:Nat) (H:List VObj) (rs:List (Option (Nat × Nat × Nat))):Prop where
 r:H[kr]? = some ⟨sr,40,1,rs.map rcv⟩
 l:rs.length=nf
 c:∀ f<nf,∀ k s m,rs.getD f default=some (k,s,m)→m=rgN fs f∧k≠kw∧∃ l,H[k]? = some ⟨s,93,1,l⟩∧l.length=m
 i:∀ f<nf,∀ g<nf,f≠g→∀ k s m k' s' m',rs.getD f default=some (k,s,m)→rs.getD g default=some (k',s',m')→k≠k'
section
variable {fs:List BF} {inp:ByteArray} {nf n sM kw sw kr sr:Nat}
set_option maxHeartbeats 1000000 in
theorem b9c (f:Nat) (hf:f<nf) (hfl:fs.length=nf) (hr:0≤(fs.getD f default).regs∧(fs.getD f default).regs≤4000) (σ:Bst) (H:List VObj) (vo:AV) (rs:List (Option (Nat × Nat × Nat))) (nx:Nat) (hk4:kr≠4) (hkw:kr≠kw) (hw4:kw≠4) (hm:MacP fs inp n nf sM kw sw kr sr H σ vo) (hR:RegP fs nf kr sr kw H rs) (C:AV→List VObj→Nat→Prop)
 (hC:∀ H' rs' nx' k s,MacP fs inp n nf sM kw sw kr sr H' σ vo→RegP fs nf kr sr kw H' rs'→rs'.getD f default=some (k,s,rgN fs f)→H'[k]? = some ⟨s,93,1,(List.replicate (rgN fs f) 0).map U32⟩ →
   (∀ j ob,H[j]? = some ob→j≠kr→(∀ s' m,rs.getD f default≠some (j,s',m))→H'[j]? = some ob)→(∀ g,g≠f→rs'.getD g default=rs.getD g default)→C (.agg [I f,I 0,I 0,.ref k s 0 (rgN fs f)]) H' nx') :
 VCall Tryz.prog 28 [.ptr 4 sM 0,I f] H nx C:=by
 refine VCall.of_body a1g a7t (by simp) ?_;obtain ⟨hM,hw',hu⟩:=hm;obtain ⟨r1,r2,r3,r4⟩:=hR;have hmx:(2000000:Nat)≤maxLen:=by decide
 have hu1:=hu.one;have hM1:∀ x:VObj,(H++[x])[4]? = some ⟨sM,86,1,[.imm 2 (fs.map bfA),.ref kw sw 0 n,.ref kr sr 0 nf,a2W inp,I σ.rd,vo]⟩:=fun x=>a0M hM _;have hr1:∀ x:VObj,(H++[x])[kr]? = some ⟨sr,40,1,rs.map rcv⟩:=fun x=>a0M r1 _;have hl4:=(List.getElem?_eq_some_iff.1 hM).1;have hlr:=(List.getElem?_eq_some_iff.1 r1).1;have gA:∀ x y:VObj,(H++[x]++[y])[kr]? = some ⟨sr,40,1,rs.map rcv⟩:=fun x y=>a0M (a0M r1 _) _;have gB:∀ x y z:VObj,((H++[x]++[y]).set kr z)[4]? = some ⟨sM,86,1,[.imm 2 (fs.map bfA),.ref kw sw 0 n,.ref kr sr 0 nf,a2W inp,I σ.rd,vo]⟩:=fun x y z=>a0C (a0M (a0M hM _) _) hk4 _;have gC:∀ x y z:VObj,((H++[x]++[y]).set kr z)[kr]? = some z:=fun x y z=>get_set (gA x y) _;have gD:∀ x y z:VObj,((H++[x]++[y]).set kr z)[H.length+1]? = some y:=fun x y z=>a0C (by rw[List.getElem?_append_right (by simp)];simp) (by omega) _
 have gE:∀ x y z w:VObj,(((H++[x]++[y]).set kr z).set (H.length+1) w)[4]? = some ⟨sM,86,1,[.imm 2 (fs.map bfA),.ref kw sw 0 n,.ref kr sr 0 nf,a2W inp,I σ.rd,vo]⟩:=fun x y z w=>a0C (gB x y z) (by omega) _;have gF:∀ x y z w:VObj,(((H++[x]++[y]).set kr z).set (H.length+1) w)[kr]? = some z:=fun x y z w=>a0C (gC x y z) (by omega) _;have gG:∀ x y z w:VObj,(((H++[x]++[y]).set kr z).set (H.length+1) w)[H.length]? = some x:=fun x y z w=>a0C (a0C (by rw[List.getElem?_append_left (by simp)];simp) (by omega) _) (by omega) _;have gH:∀ x y z w v:VObj,((((H++[x]++[y]).set kr z).set (H.length+1) w).set H.length v)[H.length]? = some v:=fun x y z w v=>get_set (gG x y z w) _;have gS:∀ p,(rs.set f p).getD f default=p:=fun p=>by rw[List.getD,List.getElem?_set,if_pos rfl,if_pos (by omega)];rfl
 have gL:∀ x:VObj,(H++[x]).length=H.length+1:=fun x=>by simp
 obtain ⟨rg,hrg⟩:∃ rg:Nat,(fs.getD f default).regs=rg:=⟨(fs.getD f default).regs.toNat,by omega⟩
 have hrN:rgN fs f=rg:=by unfold rgN;omega
 have made:∀ (x y z w v:VObj) (nx':Nat),x.ty=88→y.ty=93→z=⟨sr,40,1,(rs.set f (some (H.length+1,nx+1,rg))).map rcv⟩→w=⟨nx+1,93,1,(List.replicate rg (0:Int)).map U32⟩ →
  C (.agg [I f,I 0,I 0,.ref (H.length+1) (nx+1) 0 rg]) ((((H++[x]++[y]).set kr z).set (H.length+1) w).set H.length v) nx':=by
  intro x y z w v nx' hx hy hz hw;subst hz hw;have hff:=hrN;rw[hrN]at hC;have hY:∀ x y z w v:VObj,((((H++[x]++[y]).set kr z).set (H.length+1) w).set H.length v)[H.length+1]? = some w:=fun x y z w v=>a0C (get_set (gD x y z) _) (by omega) _;have hO:∀ x y z w v ob:VObj,∀ j,H[j]? = some ob→j≠kr→((((H++[x]++[y]).set kr z).set (H.length+1) w).set H.length v)[j]? = some ob:=fun x y z w v ob j hj hne=>by
   have hl:=(List.getElem?_eq_some_iff.1 hj).1;exact a0C (a0C (a0C (a0M (a0M hj _) _) (fun e=>hne e.symm) _) (by omega) _) (by omega) _
  refine hC _ (rs.set f (some (H.length+1,nx+1,rg))) _ (H.length+1) (nx+1) ⟨hO _ _ _ _ _ _ 4 hM (fun e=>hk4 e.symm),hO _ _ _ _ _ _ kw hw' (fun e=>hkw e.symm),?_⟩ ⟨a0C (gF _ _ _ _) (by omega) _,by rw[List.length_set];exact r2,fun g hg k s m hgs=>?_,fun g hg g' hg' hne k s m k' s' m' h1 h2=>?_⟩ (gS _) (hY _ _ _ _ _) (fun j ob hj hne _=>hO _ _ _ _ _ _ j hj hne) (fun g hgf=>by rw[List.getD,List.getD,List.getElem?_set,if_neg (fun e=>hgf e.symm)])
  ·exact (((((hu.app [_]).app [_])).set (gA _ _) (show 40≠5 by decide) _).set (gD _ _ _) (by rw[hy];decide) _).set (gG _ _ _ _) (by rw[hx];decide) _
  ·by_cases e2:g=f
   ·subst e2;rw[gS]at hgs;cases hgs;exact ⟨hff.symm,by have:=(List.getElem?_eq_some_iff.1 hw').1;omega,_,hY _ _ _ _ _,by simp⟩
   ·have hgs':rs.getD g default=some (k,s,m):=by
     rw[← hgs,List.getD,List.getD,List.getElem?_set,if_neg (fun e=>e2 e.symm)]
    obtain ⟨c1,c2,l,c3,c4⟩:=r3 g hg k s m hgs';exact ⟨c1,c2,l,hO _ _ _ _ _ _ k c3 (fun e=>by subst e;rw[r1]at c3;cases c3),c4⟩
  ·have hset:∀ g<nf,g≠f→(rs.set f (some (H.length+1,nx+1,rg))).getD g default=rs.getD g default:=fun g _ hgf=>by
    rw[List.getD,List.getD,List.getElem?_set,if_neg (fun e=>hgf e.symm)]
   have hlt:∀ g<nf,∀ k s m,rs.getD g default=some (k,s,m)→k<H.length:=fun g hg k s m h=>by
    obtain ⟨_,_,l,c3,_⟩:=r3 g hg k s m h;exact (List.getElem?_eq_some_iff.1 c3).1
   by_cases a1:g=f
   ·subst a1;rw[gS]at h1;rw[hset g' hg' (fun e=>hne e.symm)]at h2;cases h1;have:=hlt g' hg' _ _ _ h2;omega
   ·rw[hset g hg a1]at h1;by_cases a2:g'=f
    ·subst a2;rw[gS]at h2;cases h2;have:=hlt g hg _ _ _ h1;omega
    ·rw[hset g' hg' a2]at h2;exact r4 g hg g' hg' hne _ _ _ _ _ _ h1 h2
 cases e:rs.getD f default with
 | none =>
  simp only[go_sem,a1W,hM1,hr1,hu1,b9b,e,c3s,r2,Int.reduceEq,Int.reduceBEq,hrg,gA,gB,gC,gD,gE,gF,gG,gH,gL,c4M,gS,b9a,List.length_set];have hz:List.replicate rg (AV.val (.int .u32 0))++List.drop rg (List.replicate rg [AV.val (.int .u32 0)]).flatten=(List.replicate rg (0:Int)).map U32:=by
   rw[List.drop_eq_nil_of_le (by simp),List.append_nil,List.map_replicate]
  repeat ((with_reducible refine And.intro ?_ ?_);· first | omega | rfl | (simp;omega))
  rw[hz];exact made _ _ _ _ _ _ rfl rfl rfl rfl
 | some p =>
  obtain ⟨k,s,m⟩:=p;obtain ⟨hmr,hkw',l,hk,hl⟩:=r3 f hf k s m e;have hlk:=(List.getElem?_eq_some_iff.1 hk).1;have k4:k≠4:=fun e=>by subst e;rw[hM]at hk;cases hk
  have kkr:k≠kr:=fun e=>by subst e;rw[r1]at hk;cases hk
  have fA:∀ x:VObj,(H++[x])[k]? = some ⟨s,93,1,l⟩:=fun x=>a0M hk _;have fB:∀ x w:VObj,((H++[x]).set k w)[4]? = some ⟨sM,86,1,[.imm 2 (fs.map bfA),.ref kw sw 0 n,.ref kr sr 0 nf,a2W inp,I σ.rd,vo]⟩:=fun x w=>a0C (hM1 x) k4 _;have fC:∀ x w:VObj,((H++[x]).set k w)[kr]? = some ⟨sr,40,1,rs.map rcv⟩:=fun x w=>a0C (hr1 x) kkr _;have fD:∀ x w:VObj,((H++[x]).set k w)[H.length]? = some x:=fun x w=>a0C (by simp) (by omega) _;have fE:∀ x w v:VObj,(((H++[x]).set k w).set H.length v)[H.length]? = some v:=fun x w v=>get_set (fD x w) _;simp only[go_sem,a1W,hM1,hr1,hu1,b9b,e,b9a,r2,Int.reduceEq,Int.reduceBEq,hrg,fA,fB,fC,fD,fE,gA,gB,gC,gD,gE,gF,gG,gH,gL,c4M,gS,List.length_set,Nat.one_ne_zero];have hmg:m=rg:=hmr.trans hrN
  repeat ((with_reducible refine And.intro ?_ ?_);· omega)
  refine ⟨?_,fun h0=>?_⟩
  ·repeat ((with_reducible refine And.intro ?_ ?_);· omega)
   have hz:List.replicate m (AV.val (.int .u32 0))++List.drop m l=(List.replicate (rgN fs f) (0:Int)).map U32:=by
    rw[List.drop_eq_nil_of_le (by omega),List.append_nil,List.map_replicate,← hmr]
   rw[hz,hmr];have hO:∀ (x w v ob:VObj) (j:Nat),H[j]? = some ob→j≠k→(((H++[x]).set k w).set H.length v)[j]? = some ob:=fun x w v ob j hj hne=>by
    have hl:=(List.getElem?_eq_some_iff.1 hj).1;exact a0C (a0C (a0M hj _) (fun e=>hne e.symm) _) (by omega) _
   have hK:∀ x w v:VObj,(((H++[x]).set k w).set H.length v)[k]? = some w:=fun x w v=>a0C (get_set (fA x) _) (by omega) _;refine hC _ rs _ k s ⟨hO _ _ _ _ 4 hM (fun e=>k4 e.symm),hO _ _ _ _ kw hw' (fun e=>hkw' e.symm),?_⟩ ⟨hO _ _ _ _ kr r1 (fun e=>kkr e.symm),r2,fun g hg k' s' m' hgs=>?_,r4⟩ (by rw[e,hmr]) (hK _ _ _) (fun j ob hj hne h2=>hO _ _ _ _ j hj fun e2=>h2 s m (by rw[e,e2])) (fun _ _=>rfl)
   ·exact (((hu.app [_])).set (fA _) (show 93≠5 by decide) _).set (fD _ _) (show 88≠5 by decide) _
   ·by_cases e2:g=f
    ·subst e2;rw[e]at hgs;cases hgs;exact ⟨hmr,hkw',_,hK _ _ _,by simp[hmr]⟩
    ·obtain ⟨c1,c2,l',c3,c4⟩:=r3 g hg k' s' m' hgs;exact ⟨c1,c2,l',hO _ _ _ _ k' c3 (r4 g hg f hf e2 _ _ _ _ _ _ hgs e),c4⟩
  ·have hz:List.replicate rg (AV.val (.int .u32 0))++List.drop rg (List.replicate rg [AV.val (.int .u32 0)]).flatten=(List.replicate rg (0:Int)).map U32:=by
    rw[List.drop_eq_nil_of_le (by simp),List.append_nil,List.map_replicate]
   repeat ((with_reducible refine And.intro ?_ ?_);· first | omega | rfl | (simp;omega))
   rw[hz];exact made _ _ _ _ _ _ rfl rfl rfl rfl
end
set_option maxRecDepth 10000
open Go.V
def fmC (rs:List (Option (Nat × Nat × Nat))) (c:FmB):List AV:=[I c.fn,I c.bk,I c.at_,rcv (rs.getD c.fn default)]
theorem b8f (rs:List (Option (Nat × Nat × Nat))):∀ l:List FmB,(l.flatMap (fmC rs)).length=l.length*4
 | []=>rfl
 | c::l=>by simp only[List.flatMap_cons,List.length_append,b8f rs l,List.length_cons];simp[fmC];omega
structure FmP (fs:List BF) (nf:Nat) (rs:List (Option (Nat × Nat × Nat))) (H:List VObj) (c:FmB):Prop where
 f:c.fn<nf
 b:c.bk<(fs.getD c.fn default).bks.length
 a:c.at_≤((fs.getD c.fn default).bks.getD c.bk default).ins.length
 w:WfR (rgN fs c.fn) c.rg
 r:∃ k s,rs.getD c.fn default=some (k,s,rgN fs c.fn)∧H[k]? = some ⟨s,93,1,c.rg.map U32⟩
def PilC (rs:List (Option (Nat × Nat × Nat))) (H:List VObj) (vp:AV) (S:List FmB):Prop :=
 (vp=a0T∧S=[])∨∃ k s rest,vp = .ref k s 0 S.length∧H[k]? = some ⟨s,88,4,S.reverse.flatMap (fmC rs)++rest⟩
structure RunR (fs:List BF) (inp:ByteArray) (n nf sM kw sw kr sr kc sc:Nat) (wd:Int) (σ:Bst) (t:FmB) (S:List FmB) (H:List VObj) (rs:List (Option (Nat × Nat × Nat))) (vo vp:AV):Prop where
 mac:MacP fs inp n nf sM kw sw kr sr H σ vo
 reg:RegP fs nf kr sr kw H rs
 cur:∃ cs:List AV,H[kc]? = some ⟨sc,88,1,cs⟩∧cs.length=4
 pil:PilC rs H vp S
 fm:∀ c ∈ t::S,FmP fs nf rs H c
 ch:(t::S).Pairwise (fun a b=>a.fn<b.fn)
 o0:H[0]? = some ⟨0,24,1,[I wd,.imm 2 (fs.map bfA)]⟩
 o1:H[1]? = some ⟨1,47,1,[I 0,a2W ⟨#[]⟩,I 0]⟩
theorem PilC.one {rs:List (Option (Nat × Nat × Nat))} {H:List VObj} {vp:AV} {S:List FmB} (h:PilC rs H vp S):vp.one=true:=by
 rcases h with ⟨h,_⟩ | ⟨_,_,_,h,_⟩<;>rw[h]<;>rfl
section
variable {fs:List BF} {inp:ByteArray} {n nf sM kw sw kr sr kc sc:Nat} {wd:Int} {σ:Bst} {t:FmB} {S:List FmB} {H:List VObj} {rs:List (Option (Nat × Nat × Nat))} {vo vp:AV}
theorem a2w {k j:Nat} {a b:VObj} (ha:H[k]? = some a) (hb:H[j]? = some b) (h:a.ty≠b.ty∨a.sz≠b.sz):j≠k:=fun e=>by
 subst e;rw[ha]at hb;cases hb;rcases h with h | h<;>exact h rfl
theorem MacP.st {τ:Bst} (h:MacP fs inp n nf sM kw sw kr sr H σ vo) (h1:τ.ws=σ.ws) (h2:τ.out=σ.out) (h3:τ.rd=σ.rd):MacP fs inp n nf sM kw sw kr sr H τ vo :=
 ⟨by rw[h3];exact h.m,by rw[h1];exact h.w,by rw[h2];exact h.o⟩
theorem RunR.keep {H':List VObj} {τ:Bst} {vo':AV} (h:RunR fs inp n nf sM kw sw kr sr kc sc wd σ t S H rs vo vp) (hm:MacP fs inp n nf sM kw sw kr sr H' τ vo') {rg':List Int} (hw:WfR (rgN fs t.fn) rg') {q sq m:Nat} (hq:rs.getD t.fn default=some (q,sq,m))
 (hq':H'[q]? = some ⟨sq,93,1,rg'.map U32⟩) {bk at_:Nat} (hb:bk<(fs.getD t.fn default).bks.length) (ha:at_≤((fs.getD t.fn default).bks.getD bk default).ins.length)
 (hcur:∃ cs:List AV,H'[kc]? = some ⟨sc,88,1,cs⟩∧cs.length=4)
 (hk:∀ (k:Nat) (ob:VObj),H[k]? = some ob→ob.ty≠5→k≠4→k≠kw→k≠q→k≠kc→H'[k]? = some ob):RunR fs inp n nf sM kw sw kr sr kc sc wd τ ⟨t.fn,bk,at_,rg'⟩ S H' rs vo' vp:=by
 obtain ⟨h1,h2,h3,h4,h5,h6,h7,h8⟩:=h;obtain ⟨cs,h3,_⟩:=h3;have ft:=h5 t (List.mem_cons_self ..);obtain ⟨q0,sq0,hq0,hqo⟩:=ft.r;have hqm:q=q0∧sq=sq0∧m=rgN fs t.fn:=by rw[hq]at hq0;cases hq0;exact ⟨rfl,rfl,rfl⟩
 obtain ⟨rfl,rfl,rfl⟩:=hqm;have hK:∀ (k:Nat) (ob:VObj),H[k]? = some ob→ob.ty≠5→ob.ty≠86→ob.ty≠93→(ob.ty≠88∨ob.sz≠1)→H'[k]? = some ob:=fun k ob hk0 t1 t2 t3 t4 =>
  hk k ob hk0 t1 (a2w h1.m hk0 (.inl fun e=>t2 e.symm)) (a2w h1.w hk0 (.inl fun e=>t3 e.symm)) (a2w hqo hk0 (.inl fun e=>t3 e.symm)) (a2w h3 hk0 (t4.imp (fun e e2=>e e2.symm) (fun e e2=>e e2.symm)))
 have hU:∀ g<nf,g≠t.fn→∀ k s m' l,rs.getD g default=some (k,s,m')→H[k]? = some ⟨s,93,1,l⟩→H'[k]? = some ⟨s,93,1,l⟩:=fun g hg hne k s m' l e1 e2 =>
  hk k _ e2 (show 93≠5 by decide) (a2w h1.m e2 (.inl (show 86≠93 by decide))) (h2.c g hg k s m' e1).2.1 (h2.i g hg t.fn ft.f hne _ _ _ _ _ _ e1 hq) (a2w h3 e2 (.inl (show 88≠93 by decide)))
 refine ⟨hm,⟨hK kr _ h2.r (show 40≠5 by decide) (show 40≠86 by decide) (show 40≠93 by decide) (.inl (show 40≠88 by decide)),h2.l,fun g hg k s m' e=>?_,h2.i⟩,hcur,?_,?_,?_,
  hK 0 _ h7 (show 24≠5 by decide) (show 24≠86 by decide) (show 24≠93 by decide) (.inl (show 24≠88 by decide)),
  hK 1 _ h8 (show 47≠5 by decide) (show 47≠86 by decide) (show 47≠93 by decide) (.inl (show 47≠88 by decide))⟩
 ·obtain ⟨c1,c2,l,c3,c4⟩:=h2.c g hg k s m' e;by_cases e2:g=t.fn
  ·subst e2;rw[hq]at e;cases e;exact ⟨rfl,c2,_,hq',by rw[List.length_map,hw.n]⟩
  ·exact ⟨c1,c2,l,hU g hg e2 k s m' l e c3,c4⟩
 ·rcases h4 with h4 | ⟨k,s,rest,e1,e2⟩
  ·exact .inl h4
  ·exact .inr ⟨k,s,rest,e1,hK k _ e2 (show 88≠5 by decide) (show 88≠86 by decide) (show 88≠93 by decide) (.inr (show (4:Nat)≠1 by decide))⟩
 ·intro c hc;rcases List.mem_cons.1 hc with rfl | hc
  ·exact ⟨ft.f,hb,ha,hw,_,_,hq,hq'⟩
  ·have hc5:=h5 c (List.mem_cons_of_mem _ hc);obtain ⟨k,s,e1,e2⟩:=hc5.r;have hne:c.fn≠t.fn:=by have:=(List.pairwise_cons.1 h6).1 c hc;omega
   exact ⟨hc5.f,hc5.b,hc5.a,hc5.w,k,s,e1,hU _ hc5.f hne _ _ _ _ e1 e2⟩
 ·rw[List.pairwise_cons]at h6 ⊢;exact h6
theorem RunR.setc (h:RunR fs inp n nf sM kw sw kr sr kc sc wd σ t S H rs vo vp) (cs:List AV) (hl:cs.length=4) {τ:Bst} (s1:τ.ws=σ.ws) (s2:τ.out=σ.out) (s3:τ.rd=σ.rd) {bk at_:Nat} (hb:bk<(fs.getD t.fn default).bks.length) (ha:at_≤((fs.getD t.fn default).bks.getD bk default).ins.length) :
 RunR fs inp n nf sM kw sw kr sr kc sc wd τ ⟨t.fn,bk,at_,t.rg⟩ S (H.set kc ⟨sc,88,1,cs⟩) rs vo vp:=by
 obtain ⟨cs0,hc,hl0⟩:=h.cur;have ft:=h.fm t (List.mem_cons_self ..);obtain ⟨q,sq,hq,hqo⟩:=ft.r;have hm:=h.mac.st s1 s2 s3;refine h.keep ⟨a0C hm.m (a2w hm.m hc (.inl (show 86≠88 by decide))) _,a0C hm.w (a2w hm.w hc (.inl (show 93≠88 by decide))) _,hm.o.set hc (show 88≠5 by decide) _⟩ ft.w hq
  (a0C hqo (a2w hqo hc (.inl (show 93≠88 by decide))) _) hb ha ⟨cs,get_set hc _,hl⟩ fun k ob hk _ _ _ _ hkc=>a0C hk (fun e=>hkc e.symm) _
theorem RunR.op {H':List VObj} {τ:Bst} {vo':AV} (h:RunR fs inp n nf sM kw sw kr sr kc sc wd σ t S H rs vo vp) (hm:MacP fs inp n nf sM kw sw kr sr H' τ vo') {rg':List Int} (hw:WfR (rgN fs t.fn) rg') {q sq m:Nat} (hq:rs.getD t.fn default=some (q,sq,m))
 (hq':H'[q]? = some ⟨sq,93,1,rg'.map U32⟩) (hk:KeepM kw q H H'):RunR fs inp n nf sM kw sw kr sr kc sc wd τ ⟨t.fn,t.bk,t.at_,rg'⟩ S H' rs vo' vp:=by
 obtain ⟨cs0,hc,hl0⟩:=h.cur;have ft:=h.fm t (List.mem_cons_self ..);obtain ⟨q0,sq0,hq0,hqo⟩:=ft.r;have hqm:q=q0∧sq=sq0∧m=rgN fs t.fn:=by rw[hq]at hq0;cases hq0;exact ⟨rfl,rfl,rfl⟩
 obtain ⟨rfl,rfl,rfl⟩:=hqm;exact h.keep hm hw hq hq' ft.b ft.a ⟨cs0,hk kc _ hc (show 88≠5 by decide) (a2w h.mac.m hc (.inl (show 86≠88 by decide))) (a2w h.mac.w hc (.inl (show 93≠88 by decide))) (a2w hqo hc (.inl (show 93≠88 by decide))),hl0⟩
  fun k ob h1 h2 h3 h4 h5 _=>hk k ob h1 h2 h3 h4 h5
theorem RunR.enter {H2 H':List VObj} {vp2:AV} {f:Nat} {k s:Nat} {rs':List (Option (Nat × Nat × Nat))} (h:RunR fs inp n nf sM kw sw kr sr kc sc wd σ t S H rs vo vp) (hf:f<t.fn) (hb:0<(fs.getD f default).bks.length)
 (hp:PilC rs H2 vp2 (t::S)) (h2:∀ (j:Nat) (ob:VObj),H[j]? = some ob→ob.ty≠88∨ob.sz≠4→H2[j]? = some ob)
 (hm:MacP fs inp n nf sM kw sw kr sr H' σ vo) (hR:RegP fs nf kr sr kw H' rs') (hk:rs'.getD f default=some (k,s,rgN fs f)) (hko:H'[k]? = some ⟨s,93,1,(List.replicate (rgN fs f) 0).map U32⟩)
 (hkeep:∀ j ob,H2[j]? = some ob→j≠kr→(∀ s' m,rs.getD f default≠some (j,s',m))→H'[j]? = some ob) (hrs:∀ g,g≠f→rs'.getD g default=rs.getD g default) :
 RunR fs inp n nf sM kw sw kr sr kc sc wd σ (newB fs f) (t::S) H' rs' vo vp2:=by
 obtain ⟨h1,h2',h3,h4,h5,h6,h7,h8⟩:=h;obtain ⟨cs,h3,hl3⟩:=h3;have ft:=h5 t (List.mem_cons_self ..);have hfn:∀ c ∈ t::S,c.fn<nf∧c.fn≠f∧f<c.fn:=fun c hc=>by
  refine ⟨(h5 c hc).f,?_⟩;rcases List.mem_cons.1 hc with rfl | hc
  ·omega
  ·have:=(List.pairwise_cons.1 h6).1 c hc;omega
 have hN:∀ (j:Nat) (ob:VObj),H2[j]? = some ob→ob.ty≠93→j≠kr→H'[j]? = some ob:=fun j ob hj ht hne=>hkeep j ob hj hne fun s' m e=>by
  obtain ⟨_,_,l,c3,_⟩:=h2'.c f (by have:=ft.f;omega) _ _ _ e;have:=h2 j _ c3 (.inl (show 93≠88 by decide));rw[hj]at this;cases this;exact ht rfl
 have hkr2:=h2 kr _ h2'.r (.inl (show 40≠88 by decide));have hfc:∀ l:List FmB,(∀ c ∈ l,c ∈ t::S)→l.flatMap (fmC rs')=l.flatMap (fmC rs):=fun l hl=>by
  induction l with
  | nil=>rfl
  | cons c l ih =>
   rw[List.flatMap_cons,List.flatMap_cons,ih fun c hc=>hl c (List.mem_cons_of_mem _ hc)];congr 1;unfold fmC;rw[hrs c.fn (hfn c (hl c (List.mem_cons_self ..))).2.1]
 refine ⟨hm,hR,⟨cs,?_,hl3⟩,?_,?_,?_,?_,?_⟩
 ·exact hN kc _ (h2 kc _ h3 (.inr (show (1:Nat)≠4 by decide))) (show 88≠93 by decide) (a2w h2'.r h3 (.inl (show 40≠88 by decide)))
 ·rcases hp with ⟨_,hp⟩ | ⟨k',s',rest,e1,e2⟩
  ·cases hp
  ·refine .inr ⟨k',s',rest,e1,?_⟩;rw[hfc _ fun c hc=>List.mem_reverse.1 hc];exact hN k' _ e2 (show 88≠93 by decide) (a2w hkr2 e2 (.inl (show 40≠88 by decide)))
 ·intro c hc;rcases List.mem_cons.1 hc with rfl | hc
  ·exact ⟨by show f<nf;have:=ft.f;omega,hb,Nat.zero_le _,b6Q _,k,s,hk,hko⟩
  ·have hc5:=h5 c hc;obtain ⟨k',s',e1,e2⟩:=hc5.r;obtain ⟨f1,f2,f3⟩:=hfn c hc;refine ⟨f1,hc5.b,hc5.a,hc5.w,k',s',by rw[hrs _ f2];exact e1,?_⟩;exact hkeep k' _ (h2 k' _ e2 (.inl (show 93≠88 by decide))) (a2w h2'.r e2 (.inl (show 40≠93 by decide))) fun s2 m e=>h2'.i c.fn f1 f (by have:=ft.f;omega) f2 _ _ _ _ _ _ e1 e rfl
 ·rw[List.pairwise_cons];exact ⟨fun c hc=>(hfn c hc).2.2,h6⟩
 ·exact hN 0 _ (h2 0 _ h7 (.inl (show 24≠88 by decide))) (show 24≠93 by decide) (a2w h2'.r h7 (.inl (show 40≠24 by decide)))
 ·exact hN 1 _ (h2 1 _ h8 (.inl (show 47≠88 by decide))) (show 47≠93 by decide) (a2w h2'.r h8 (.inl (show 40≠47 by decide)))
theorem RunR.more {H2:List VObj} (h:RunR fs inp n nf sM kw sw kr sr kc sc wd σ t S H rs vo vp) (h2:∀ (j:Nat) (ob:VObj),H[j]? = some ob→ob.ty≠88∨ob.sz≠4→H2[j]? = some ob) :
 MacP fs inp n nf sM kw sw kr sr H2 σ vo∧RegP fs nf kr sr kw H2 rs:=by
 obtain ⟨⟨m1,m2,m3⟩,⟨r1,r2,r3,r4⟩,_⟩:=h;refine ⟨⟨h2 4 _ m1 (.inl (show 86≠88 by decide)),h2 kw _ m2 (.inl (show 93≠88 by decide)),?_⟩,h2 kr _ r1 (.inl (show 40≠88 by decide)),r2,fun f hf k s m e=>?_,r4⟩
 ·rcases m3 with m3 | ⟨k,s,e1,e2⟩
  ·exact .inl m3
  ·exact .inr ⟨k,s,e1,h2 k _ e2 (.inl (show 5≠88 by decide))⟩
 ·obtain ⟨c1,c2,l,c3,c4⟩:=r3 f hf k s m e;exact ⟨c1,c2,l,h2 k _ c3 (.inl (show 93≠88 by decide)),c4⟩
theorem RunR.pop {c:FmB} (h:RunR fs inp n nf sM kw sw kr sr kc sc wd σ t (c::S) H rs vo vp) :
 ∃ k s rest,vp = .ref k s 0 (S.length+1)∧H[k]? = some ⟨s,88,4,S.reverse.flatMap (fmC rs)++(fmC rs c++rest)⟩∧RunR fs inp n nf sM kw sw kr sr kc sc wd σ c S H rs vo (.ref k s 0 S.length):=by
 obtain ⟨h1,h2,h3,h4,h5,h6,h7,h8⟩:=h;rcases h4 with ⟨_,h4⟩ | ⟨k,s,rest,e1,e2⟩
 ·cases h4
 have e:(c::S).reverse.flatMap (fmC rs)++rest=S.reverse.flatMap (fmC rs)++(fmC rs c++rest):=by simp
 rw[e]at e2;exact ⟨k,s,rest,e1,e2,h1,h2,h3,.inr ⟨k,s,fmC rs c++rest,rfl,e2⟩,fun x hx=>h5 x (List.mem_cons_of_mem _ hx),(List.pairwise_cons.1 h6).2,h7,h8⟩
end
set_option maxRecDepth 10000
open Go.V
theorem b6R {α β:Type} (f:α→β) (l:List α):List.take l.length (l.map f)=l.map f:=List.take_of_length_le (by simp)
def a5F:Nat→VC→VC
 | n+1,.seq _ y=>a5F n y
 | _,c=>c
abbrev b6S (σ:Bst):AV:=.agg [I σ.en,a2W ⟨σ.out.toArray⟩,I σ.st]
structure QRB where
 m:SmB
 H:List VObj
 rs:List (Option (Nat × Nat × Nat))
 vo:AV
 vp:AV
 nx:Nat
section
variable {fs:List BF} {inp:ByteArray} {fuel n nf sM kw sw kr sr kc sc:Nat} {wd:Int}
theorem c3t {σ:Bst} {H:List VObj} {vo:AV} {C:AV→List VObj→Nat→Prop} (hC:∀ H nx,C (b6S σ) H nx) (hm:MacP fs inp n nf sM kw sw kr sr H σ vo) (h1:H[1]? = some ⟨1,47,1,[I 0,a2W ⟨#[]⟩,I 0]⟩) (nx:Nat) :
 VWs Tryz.prog (a5F 7 a0J) (a8D Tryz.prog [.cell 6 true 3] C) ⟨[(6,.ptr 1 1 0),(7,.ptr 4 sM 0),(10,I σ.en),(11,I σ.st)],H,nx⟩:=by
 obtain ⟨hM,hw',hu⟩:=hm;have hs:∀ x,(H.set 1 x)[1]? = some x:=fun x=>get_set h1 x;have hu1:=hu.one;rcases hu with ⟨rfl,ho⟩ | ⟨k,s,rfl,hO⟩
 ·simp only[a5F,a0J,go_sem,a0i,a0j,a0k,a0f,hM,h1,hs,hu1,a3Q];refine ⟨_,Wk.refl _,?_⟩;simp only[a5F,a0J,go_sem,a0i,a0j,a0k,a0f,hM,h1,hs,hu1];have:=hC (H.set 1 ⟨1,47,1,[I σ.en,a2W ⟨#[]⟩,I σ.st]⟩) nx;unfold b6S at this;rw[ho]at this;exact this
 ·simp only[a5F,a0J,go_sem,a0i,a0j,a0k,a0f,hM,h1,hs,hu1,hO,b6R,b0i];refine ⟨_,Wk.refl _,?_⟩;simp only[a5F,a0J,go_sem,a0i,a0j,a0k,a0f,hM,h1,hs,hu1];exact hC _ _
set_option maxHeartbeats 4000000 in
theorem c1J {m0:SmB} (hfo:FnsOk fs n) (hfl:fs.length=nf) (hn:n≤2000000) (hfu:fuel≤1000000) (hi:inp.size≤1000000000) {C:AV→List VObj→Nat→Prop} (hC:∀ c,(a8Z fs inp fuel m0 c).s.en≠0→∀ H nx,C (b6S (a8Z fs inp fuel m0 c).s) H nx)
 {t0:FmB} {σ0:Bst} (hm0:m0=⟨σ0,t0,[]⟩) (hst:σ0.st=0) (he0:σ0.en=0) (hw0:WfB inp fuel n σ0) {H0:List VObj} {rs0:List (Option (Nat × Nat × Nat))} {vo0:AV} (hR0:RunR fs inp n nf sM kw sw kr sr kc sc wd σ0 t0 [] H0 rs0 vo0 a0T) (hc0:H0[kc]? = some ⟨sc,88,1,fmC rs0 t0⟩) (hkw:kr≠kw) (nx0:Nat) :
 VWs Tryz.prog (a5F 6 a0J) (a8D Tryz.prog [.cell 6 true 3] C) ⟨[(2,I fuel),(3,.ptr 0 0 0),(6,.ptr 1 1 0),(7,.ptr 4 sM 0),(8,.ptr kc sc 0),(9,a0T),(10,I 0),(11,I 0)],H0,nx0⟩:=by
 have hfin:=@c3t fs inp n nf sM kw sw kr sr;simp only[a5F,a0J]at hfin;simp only[a5F,a0J,go_sem,a0i,a0j,a0k,a0f];refine a0r (fun q:QRB=>⟨[(2,I fuel),(3,.ptr 0 0 0),(6,.ptr 1 1 0),(7,.ptr 4 sM 0),(8,.ptr kc sc 0),(9,q.vp),(10,I 0),(11,I q.m.s.st)],q.H,q.nx⟩)
  (fun q=>(∃ c,q.m=a8Z fs inp fuel m0 c)∧q.m.s.en=0∧WfB inp fuel n q.m.s∧q.m.below.length≤q.m.s.st∧RunR fs inp n nf sM kw sw kr sr kc sc wd q.m.s q.m.top q.m.below q.H q.rs q.vo q.vp∧q.H[kc]? = some ⟨sc,88,1,fmC q.rs q.m.top⟩) (fun q=>fuel-q.m.s.st)
  ⟨m0,H0,rs0,vo0,a0T,nx0⟩ (Wk.mk (by subst hm0;simp[a0a,hst]) ⟨[],(List.append_nil _).symm⟩ (Nat.le_refl _)) ⟨⟨0,rfl⟩,by subst hm0;exact he0,by subst hm0;exact hw0,by subst hm0;exact Nat.zero_le _,by subst hm0;exact hR0,by subst hm0;exact hc0⟩ ?_
 rintro ⟨⟨σ,t,S⟩,H,rs,vo,vp,nx⟩ ⟨⟨c,hc⟩,h0,hw,hS,hR,hcur⟩;simp only at hc h0 hw hS hR hcur;have hnext:a8Z fs inp fuel m0 (c+1)=a2d fs inp fuel ⟨σ,t,S⟩:=by
  show a2d fs inp fuel (a8Z fs inp fuel m0 c)=_;rw[← hc]
 have hC':=hC (c+1);rw[hnext]at hC';have hst':=hw.s;have hp1:=hR.pil.one;by_cases hf:fuel≤σ.st
 ·have e:a2d fs inp fuel ⟨σ,t,S⟩=⟨{ σ with en:=5 },t,S⟩:=by
   unfold a2d;simp only;rw[if_neg (by simp[h0]),if_pos hf]
  rw[e]at hC';simp only[go_sem,eq_true (show (fuel:Int)≤(σ.st:Int) by omega),ge_iff_le];refine ⟨⟨[(6,.ptr 1 1 0),(7,.ptr 4 sM 0),(10,I 5),(11,I σ.st)],H,nx⟩,Wk.mk (by simp[a0a]) ⟨[],(List.append_nil _).symm⟩ (Nat.le_refl _),?_⟩;exact hfin (σ:={ σ with en:=5 }) (hC' (by simp)) (hR.mac.st rfl rfl rfl) hR.o1 nx
 have hf':=eq_false (show ¬ (fuel:Int)≤(σ.st:Int) by omega);have ft:=hR.fm t (List.mem_cons_self ..);have hfs:t.fn<fs.length:=by rw[hfl];exact ft.f
 have ho:=a5q (hfo.one t.fn hfs);obtain ⟨q,sq,hq,hqo⟩:=ft.r;have hb:=ft.b;have ha:=ft.a;have hx0:=a0q hb;have hlen:=hfo.len _ (a0q hfs) _ hx0;have hfit:=hfo.fit hfs (Nat.le_refl _) _ hx0;have hend:=(ho.2.2.2 _ hx0).1;obtain ⟨x,hx⟩:∃ x,(fs.getD t.fn default).bks.getD t.bk default=x:=⟨_,rfl⟩
 have hset:=fun (cs:List AV) (hl:cs.length=4) (bk at_:Nat)=>hR.setc (τ:={ σ with st:=σ.st+1 }) cs hl rfl rfl rfl (bk:=bk) (at_:=at_);simp only[hx]at ha hlen hfit hend;have e1:IntKind.i64.wrap ((σ.st:Int)+1)=((σ.st+1:Nat):Int):=by rw[a0e (by omega) (by omega)];omega
 have e2:IntKind.i64.wrap ((t.at_:Int)+1)=((t.at_+1:Nat):Int):=by rw[a0e (by omega) (by omega)];omega
 have hs1:∀ y,(H.set kc y)[kc]? = some y:=fun y=>get_set hcur y;have hs2:∀ y z,((H.set kc y).set kc z)[kc]? = some z:=fun y z=>get_set (hs1 y) z;have ho0:=hR.o0;have hfm:fmC rs t=[I t.fn,I t.bk,I t.at_,.ref q sq 0 (rgN fs t.fn)]:=by unfold fmC;rw[hq];rfl
 rw[hfm]at hcur;have hrr:((rgN fs t.fn:Nat):Int)=(fs.getD t.fn default).regs:=by unfold rgN;have:=ho.1;omega
 have hw4:kw≠4:=a2w hR.mac.m hR.mac.w (.inl (show 86≠93 by decide));have hk4:kr≠4:=a2w hR.mac.m hR.reg.r (.inl (show 86≠40 by decide));have hcu:=hcur;have hqk:q≠kc:=a2w hcu hqo (.inl (show 88≠93 by decide));have hw1:WfB inp fuel n { σ with st:=σ.st+1 }:=⟨hw.n,hw.w,hw.o,hw.r,by show σ.st+1≤fuel;omega⟩
 by_cases hat:t.at_<x.ins.length
 ·obtain ⟨y,hy⟩:∃ y,x.ins.getD t.at_ default=y:=⟨_,rfl⟩
  have hyf:=hfit y (by rw[← hy];exact a0q hat);have hatI:=eq_true (show (t.at_:Int)<(x.ins.length:Int) by omega);by_cases h10:y.op=10
  ·obtain ⟨f,hfb⟩:∃ f:Nat,y.base=f:=⟨y.base.toNat,by
    have h:=hyf.1.2.2.2.2.2.2.2;unfold a3L at h;simp only[h10,Int.reduceEq,if_false,or_self,if_true]at h;omega⟩
   have hff:f<t.fn:=by
    have h:=hyf.1.2.2.2.2.2.2.2;unfold a3L at h;simp only[h10,Int.reduceEq,if_false,or_self,if_true]at h;omega
   have hfo':=a5q (hfo.one f (by omega));have e:a2d fs inp fuel ⟨σ,t,S⟩=⟨{ σ with st:=σ.st+1 },newB fs f,{ t with at_:=t.at_+1 }::S⟩:=by
    unfold a2d;simp only[hx,hy];rw[if_neg (by simp[h0]),if_neg hf,if_pos hat,if_pos h10,hfb];rfl
   rw[e]at hC' hnext;have hK1:=hset [I t.fn,I t.bk,I (t.at_+1:Nat),.ref q sq 0 (rgN fs t.fn)] rfl t.bk (t.at_+1) hb (by rw[hx];omega);have hga:∀ x y:VObj,(H.set kc x++[y])[(H.set kc x).length]? = some y:=fun x y=>by simp
   have hmx:(2000000:Nat)≤maxLen:=by decide
   have hfm1:fmC rs ⟨t.fn,t.bk,t.at_+1,t.rg⟩=[I t.fn,I t.bk,I (t.at_+1:Nat),.ref q sq 0 (rgN fs t.fn)]:=by unfold fmC;rw[hq];rfl
   have hb0:0<(fs.getD f default).bks.length:=List.length_pos_iff.2 hfo'.2.2.1;have hfin2:∀ (H2:List VObj) (vp2:AV),PilC rs H2 vp2 (⟨t.fn,t.bk,t.at_+1,t.rg⟩::S)→(∀ (j:Nat) (ob:VObj),(H.set kc ⟨sc,88,1,[I t.fn,I t.bk,I (t.at_+1:Nat),.ref q sq 0 (rgN fs t.fn)]⟩)[j]? = some ob→ob.ty≠88∨ob.sz≠4→H2[j]? = some ob) →
    ∀ (nx2:Nat) (K:AV→List VObj→Nat→Prop),(∀ H' rs' nx' k s,RunR fs inp n nf sM kw sw kr sr kc sc wd { σ with st:=σ.st+1 } (newB fs f) (⟨t.fn,t.bk,t.at_+1,t.rg⟩::S) H' rs' vo vp2→rs'.getD f default=some (k,s,rgN fs f)→K (.agg [I f,I 0,I 0,.ref k s 0 (rgN fs f)]) H' nx') →
    VCall Tryz.prog 28 [.ptr 4 sM 0,I f] H2 nx2 K:=fun H2 vp2 hp2 hk2 nx2 K hK=>by
    obtain ⟨hm2,hr2⟩:=hK1.more hk2;exact b9c f (by omega) hfl ⟨hfo'.1,hfo'.2.1⟩ _ H2 vo rs nx2 hk4 hkw hw4 hm2 hr2 K fun H' rs' nx' k s g1 g2 g3 g4 g5 g6=>hK H' rs' nx' k s (hK1.enter hff hb0 hp2 hk2 g1 g2 g3 g4 g5 g6) g3
   have hlast:∀ (H':List VObj) (rs':List (Option (Nat × Nat × Nat))) (vp2:AV) (k s nx':Nat),RunR fs inp n nf sM kw sw kr sr kc sc wd { σ with st:=σ.st+1 } (newB fs f) (⟨t.fn,t.bk,t.at_+1,t.rg⟩::S) H' rs' vo vp2→rs'.getD f default=some (k,s,rgN fs f) →
    (∃ c,(⟨{ σ with st:=σ.st+1 },newB fs f,⟨t.fn,t.bk,t.at_+1,t.rg⟩::S⟩:SmB)=a8Z fs inp fuel m0 c)∧σ.en=0∧WfB inp fuel n { σ with st:=σ.st+1 }∧S.length+1≤σ.st+1 ∧
    RunR fs inp n nf sM kw sw kr sr kc sc wd { σ with st:=σ.st+1 } (newB fs f) (⟨t.fn,t.bk,t.at_+1,t.rg⟩::S) (H'.set kc ⟨sc,88,1,[I f,I 0,I 0,.ref k s 0 (rgN fs f)]⟩) rs' vo vp2∧(H'.set kc ⟨sc,88,1,[I f,I 0,I 0,.ref k s 0 (rgN fs f)]⟩)[kc]? = some ⟨sc,88,1,fmC rs' (newB fs f)⟩:=fun H' rs' vp2 k s nx' g gr=>by
    obtain ⟨cs,hck,hcl⟩:=g.cur;refine ⟨⟨c+1,hnext.symm⟩,h0,hw1,by omega,g.setc _ rfl rfl rfl rfl hb0 (Nat.zero_le _),?_⟩;rw[get_set hck];unfold fmC;show _=some (⟨sc,88,1,[I f,I (0:Nat),I (0:Nat),rcv (rs'.getD f default)]⟩:VObj);rw[gr];rfl
   rcases hR.pil with ⟨rfl,hS0⟩ | ⟨k,s,rest,rfl,hk⟩
   ·simp only[go_sem,Int.reduceEq,Int.reduceBEq,hf',ge_iff_le,e1,e2,ho0,hcur,hs1,hs2,hx,hy,hatI,eq_true h10,hfb,hga]
    repeat ((with_reducible refine And.intro ?_ ?_);· first | omega | rfl)
    subst hS0;refine hfin2 _ _ (.inr ⟨_,nx+1,[],rfl,by rw[List.getElem?_append_right (Nat.le_refl _)];simp[hfm1]⟩) (fun j ob hj _=>a0M (a0M hj _) _) _ _ fun H' rs' nx' k1 s1 g1 g2=>?_;obtain ⟨cs,hck,hcl⟩:=g1.cur;have hdr:List.drop 4 cs=[]:=List.drop_eq_nil_of_le (by omega);simp only[go_sem,Int.reduceEq,Int.reduceBEq,e1,hck,hcl,hdr]
    repeat ((with_reducible refine And.intro ?_ ?_);· first | omega | rfl)
    refine ⟨⟨⟨{ σ with st:=σ.st+1 },newB fs f,⟨t.fn,t.bk,t.at_+1,t.rg⟩::[]⟩,_,rs',vo,_,nx'⟩,hlast H' rs' _ k1 s1 nx' g1 g2,by show fuel-(σ.st+1)<fuel-σ.st;omega,Wk.mk ?_ ⟨[],(List.append_nil _).symm⟩ (Nat.le_refl _)⟩;simp[a0a]
   ·have hgk:∀ x y:VObj,(H.set kc x++[y])[k]? = some ⟨s,88,4,S.reverse.flatMap (fmC rs)++rest⟩:=fun x y=>a0M (a0C hk (a2w hk hcu (.inr (show (4:Nat)≠1 by decide))) _) _;simp only[go_sem,Int.reduceEq,Int.reduceBEq,hf',ge_iff_le,e1,e2,ho0,hcur,hs1,hs2,hx,hy,hatI,eq_true h10,hfb,hga,hgk]
    repeat ((with_reducible refine And.intro ?_ ?_);· first | omega | rfl)
    have hfl4:(S.reverse.flatMap (fmC rs)).length=S.length*4:=by rw[b8f,List.length_reverse]
    refine hfin2 _ _ (.inr ⟨k,nx+1,[],rfl,by rw[get_set (hgk _ _),List.take_append_of_le_length (by omega),List.take_of_length_le (by omega)];simp[hfm1]⟩) (fun j ob hj ht=>a0C (a0M hj _) (a2w hj (a0C hk (a2w hk hcu (.inr (show (4:Nat)≠1 by decide))) _) (ht.imp (fun e=>e) (fun e=>e))) _) _ _ fun H' rs' nx' k1 s1 g1 g2=>?_;obtain ⟨cs,hck,hcl⟩:=g1.cur;have hdr:List.drop 4 cs=[]:=List.drop_eq_nil_of_le (by omega);simp only[go_sem,Int.reduceEq,Int.reduceBEq,e1,hck,hcl,hdr]
    repeat ((with_reducible refine And.intro ?_ ?_);· first | omega | rfl)
    refine ⟨⟨⟨{ σ with st:=σ.st+1 },newB fs f,⟨t.fn,t.bk,t.at_+1,t.rg⟩::S⟩,_,rs',vo,_,nx'⟩,hlast H' rs' _ k1 s1 nx' g1 g2,by show fuel-(σ.st+1)<fuel-σ.st;omega,Wk.mk ?_ ⟨[],(List.append_nil _).symm⟩ (Nat.le_refl _)⟩;simp[a0a]
  ·have e:a2d fs inp fuel ⟨σ,t,S⟩=⟨(opF (fun _ τ=>τ) inp y t.rg { σ with st:=σ.st+1 }).2,{ t with at_:=t.at_+1,rg:=(opF (fun _ τ=>τ) inp y t.rg { σ with st:=σ.st+1 }).1 },S⟩:=by
    unfold a2d;simp only[hx,hy];rw[if_neg (by simp[h0]),if_neg hf,if_pos hat,if_neg h10]
   rw[e]at hC' hnext;simp only[go_sem,Int.reduceEq,Int.reduceBEq,hf',ge_iff_le,e1,e2,ho0,hcur,hs1,hs2,hx,hy,hatI,eq_false h10]
   repeat ((with_reducible refine And.intro ?_ ?_);· first | omega | rfl)
   have hK1:=hset [I t.fn,I t.bk,I (t.at_+1:Nat),.ref q sq 0 (rgN fs t.fn)] rfl t.bk (t.at_+1) hb (by rw[hx];omega);have hq1:∀ z,(H.set kc z)[q]? = some ⟨sq,93,1,t.rg.map U32⟩:=fun z=>a0C hqo (fun e=>hqk e.symm) z;have hyr:FitsT y t.fn (rgN fs t.fn:Nat) n:=by rw[hrr];exact hyf.1
   obtain ⟨v1,v2,_⟩:=b8Z (call:=fun _ τ=>τ) (k:=t.fn) (fun _ _ σ hw _=>⟨hw,Nat.le_refl _⟩) hyr hyf.2 ft.w hw1 h0;have v3:=c5C (fun _ τ=>τ) inp y t.rg { σ with st:=σ.st+1 } h10;refine c9b (rgN fs t.fn) hi hn y hyr hyf.2 h10 t.rg ft.w { σ with st:=σ.st+1 } hw1 h0 _ vo q sq nx hK1.mac (hq1 _) (hR.reg.c t.fn ft.f q sq _ hq).2.1 hw4 _ fun H' vo' nx' g1 g2 g3=>?_;have hK2:=hK1.op g1 v1 hq g2 g3;have hck:H'[kc]? = _:=g3 kc _ (hs1 _) (show 88≠5 by decide) (a2w hR.mac.m hcu (.inl (show 86≠88 by decide))) (a2w hR.mac.w hcu (.inl (show 93≠88 by decide))) (fun e=>hqk e.symm);generalize opF (fun _ τ=>τ) inp y t.rg { σ with st:=σ.st+1 }=p at *
   by_cases hp:p.2.en=0
   ·simp only[go_sem,Int.reduceEq,Int.reduceBEq,eq_true hp];refine ⟨⟨⟨p.2,⟨t.fn,t.bk,t.at_+1,p.1⟩,S⟩,H',rs,vo',vp,nx'⟩,⟨⟨c+1,hnext.symm⟩,hp,v2,by show S.length≤p.2.st;rw[v3];show S.length≤σ.st+1;omega,hK2,?_⟩,by show fuel-p.2.st<fuel-σ.st;rw[v3];show fuel-(σ.st+1)<_;omega,Wk.mk ?_ ⟨[],(List.append_nil _).symm⟩ (Nat.le_refl _)⟩
    ·show H'[kc]? = some ⟨sc,88,1,fmC rs ⟨t.fn,t.bk,t.at_+1,p.1⟩⟩;rw[hck];unfold fmC;rw[hq];rfl
    ·simp[a0a,hp,v3,e1]
   ·simp only[go_sem,Int.reduceEq,Int.reduceBEq,eq_false hp];refine ⟨⟨[(6,.ptr 1 1 0),(7,.ptr 4 sM 0),(10,I p.2.en),(11,I p.2.st)],H',nx'⟩,Wk.mk (by simp[a0a,v3,e1]) ⟨[],(List.append_nil _).symm⟩ (Nat.le_refl _),?_⟩;exact hfin (σ:=p.2) (hC' hp) hK2.mac hK2.o1 nx'
 ·have hatI:=eq_false (show ¬ (t.at_:Int)<(x.ins.length:Int) by omega);unfold a3F at hend;have hjump:∀ to:Int,0≤to→to<(fs.getD t.fn default).bks.length→a2d fs inp fuel ⟨σ,t,S⟩=⟨{ σ with st:=σ.st+1 },⟨t.fn,to.toNat,0,t.rg⟩,S⟩ →
   ∃ q':QRB,((∃ c,q'.m=a8Z fs inp fuel m0 c)∧q'.m.s.en=0∧WfB inp fuel n q'.m.s∧q'.m.below.length≤q'.m.s.st∧RunR fs inp n nf sM kw sw kr sr kc sc wd q'.m.s q'.m.top q'.m.below q'.H q'.rs q'.vo q'.vp∧q'.H[kc]? = some ⟨sc,88,1,fmC q'.rs q'.m.top⟩)∧fuel-q'.m.s.st<fuel-σ.st ∧
    q'.H=H.set kc ⟨sc,88,1,[I t.fn,I to,I 0,.ref q sq 0 (rgN fs t.fn)]⟩∧q'.vp=vp∧q'.nx=nx∧q'.m.s.st=σ.st+1:=fun to h1 h2 h3=>by
   have hto:(to.toNat:Int)=to:=Int.toNat_of_nonneg h1;refine ⟨⟨⟨{ σ with st:=σ.st+1 },⟨t.fn,to.toNat,0,t.rg⟩,S⟩,H.set kc ⟨sc,88,1,[I t.fn,I to,I 0,.ref q sq 0 (rgN fs t.fn)]⟩,rs,vo,vp,nx⟩,⟨⟨c+1,(hnext.trans h3).symm⟩,h0,hw1,by show S.length≤σ.st+1;omega,hset _ rfl to.toNat 0 (by omega) (Nat.zero_le _),?_⟩,by show fuel-(σ.st+1)<_;omega,rfl,rfl,rfl,rfl⟩;show (H.set kc _)[kc]? = some ⟨sc,88,1,fmC rs ⟨t.fn,to.toNat,0,t.rg⟩⟩;rw[hs1];unfold fmC;show _=some (⟨sc,88,1,[I t.fn,I (to.toNat:Nat),I (0:Nat),rcv (rs.getD t.fn default)]⟩:VObj);rw[hq,hto];rfl
  have hstep:x.e≠3→a2d fs inp fuel ⟨σ,t,S⟩=⟨{ σ with st:=σ.st+1 },⟨t.fn,(goB x t.rg).toNat,0,t.rg⟩,S⟩:=fun h3=>by
   unfold a2d;simp only[hx];rw[if_neg (by simp[h0]),if_neg hf,if_neg hat,if_neg h3]
  have hss:∀ y z,(H.set kc y).set kc z=H.set kc z:=fun y z=>List.set_set ..;split at hend
  ·rename_i h1;obtain ⟨j1,j2,_⟩:=hend;obtain ⟨⟨m',H',rs',vo',vp',nx'⟩,k1,k2,k3,k4,k5,k6⟩:=hjump x.to j1 j2 (by rw[hstep (by omega)];unfold goB;rw[if_neg (by omega)]);simp only at k1 k2 k3 k4 k5 k6;subst k3 k4 k5;simp only[go_sem,Int.reduceEq,Int.reduceBEq,hf',ge_iff_le,e1,e2,ho0,hcur,hs1,hs2,hss,hx,hatI,h1]
   repeat ((with_reducible refine And.intro ?_ ?_);· first | omega | rfl)
   refine ⟨⟨m',_,rs',vo',vp',nx'⟩,k1,k2,Wk.mk ?_ ⟨[],(List.append_nil _).symm⟩ (Nat.le_refl _)⟩;simp[a0a,k6]
  ·split at hend
   ·rename_i h1 h2;obtain ⟨j1,j2,j3,j4,j5,j6⟩:=hend;have eg:t.rg.getD x.v.toNat default=gR t.rg x.v:=rfl;have hrl:=ft.w.n;by_cases hv:gR t.rg x.v=0
    ·obtain ⟨⟨m',H',rs',vo',vp',nx'⟩,k1,k2,k3,k4,k5,k6⟩:=hjump x.el j3 j4 (by rw[hstep (by omega)];unfold goB;rw[if_pos ⟨h2,hv⟩]);simp only at k1 k2 k3 k4 k5 k6;subst k3 k4 k5;simp only[go_sem,Int.reduceEq,Int.reduceBEq,hf',ge_iff_le,e1,e2,ho0,hcur,hs1,hs2,hss,hx,hatI,h2,hqo,a0b,eg,eq_true hv]
     repeat ((with_reducible refine And.intro ?_ ?_);· first | omega | rfl)
     refine ⟨⟨m',_,rs',vo',vp',nx'⟩,k1,k2,Wk.mk ?_ ⟨[],(List.append_nil _).symm⟩ (Nat.le_refl _)⟩;simp[a0a,k6]
    ·obtain ⟨⟨m',H',rs',vo',vp',nx'⟩,k1,k2,k3,k4,k5,k6⟩:=hjump x.to j1 j2 (by rw[hstep (by omega)];unfold goB;rw[if_neg (fun h=>hv h.2)]);simp only at k1 k2 k3 k4 k5 k6;subst k3 k4 k5;simp only[go_sem,Int.reduceEq,Int.reduceBEq,hf',ge_iff_le,e1,e2,ho0,hcur,hs1,hs2,hss,hx,hatI,h2,hqo,a0b,eg,eq_false hv]
     repeat ((with_reducible refine And.intro ?_ ?_);· first | omega | rfl)
     refine ⟨⟨m',_,rs',vo',vp',nx'⟩,k1,k2,Wk.mk ?_ ⟨[],(List.append_nil _).symm⟩ (Nat.le_refl _)⟩;simp[a0a,k6]
   ·rename_i h1 h2;have h3:=hend.1;cases S with
    | nil =>
     have e:a2d fs inp fuel ⟨σ,t,[]⟩=⟨{ σ with st:=σ.st+1,en:=1 },t,[]⟩:=by
      unfold a2d;simp only[hx];rw[if_neg (by simp[h0]),if_neg hf,if_neg hat,if_pos h3]
     rw[e]at hC';rcases hR.pil with ⟨rfl,_⟩ | ⟨k,s,rest,rfl,hk⟩
     ·simp only[go_sem,Int.reduceEq,Int.reduceBEq,hf',ge_iff_le,e1,e2,ho0,hcur,hs1,hs2,hss,hx,hatI,h3]
      repeat ((with_reducible refine And.intro ?_ ?_);· first | omega | rfl)
      refine ⟨⟨[(6,.ptr 1 1 0),(7,.ptr 4 sM 0),(10,I 1),(11,I (σ.st+1:Nat))],H,nx⟩,Wk.mk (by simp[a0a]) ⟨[],(List.append_nil _).symm⟩ (Nat.le_refl _),?_⟩;exact hfin (σ:={ σ with st:=σ.st+1,en:=1 }) (hC' (by simp)) (hR.mac.st rfl rfl rfl) hR.o1 nx
     ·simp only[go_sem,Int.reduceEq,Int.reduceBEq,hf',ge_iff_le,e1,e2,ho0,hcur,hs1,hs2,hss,hx,hatI,h3,hk,eq_true (show ((0:Nat):Int)=0 from rfl)]
      repeat ((with_reducible refine And.intro ?_ ?_);· first | omega | rfl)
      refine ⟨⟨[(6,.ptr 1 1 0),(7,.ptr 4 sM 0),(10,I 1),(11,I (σ.st+1:Nat))],H,nx⟩,Wk.mk (by simp[a0a]) ⟨[],(List.append_nil _).symm⟩ (Nat.le_refl _),?_⟩;exact hfin (σ:={ σ with st:=σ.st+1,en:=1 }) (hC' (by simp)) (hR.mac.st rfl rfl rfl) hR.o1 nx
    | cons d S' =>
     have e:a2d fs inp fuel ⟨σ,t,d::S'⟩=⟨{ σ with st:=σ.st+1 },d,S'⟩:=by
      unfold a2d;simp only[hx];rw[if_neg (by simp[h0]),if_neg hf,if_neg hat,if_pos h3]
     rw[e]at hC' hnext;obtain ⟨k,s,rest,rfl,hk,hP⟩:=hR.pop;simp only[List.length_cons]at hS;have hfl4:(S'.reverse.flatMap (fmC rs)).length=S'.length*4:=by rw[b8f,List.length_reverse]
     have e5:IntKind.i64.wrap (((S'.length+1:Nat):Int)-1)=(S'.length:Int):=by rw[a0e (by omega) (by omega)];omega
     obtain ⟨q2,sq2,hq2,_⟩:=(hP.fm d (List.mem_cons_self ..)).r;have hfd:fmC rs d=[I d.fn,I d.bk,I d.at_,.ref q2 sq2 0 (rgN fs d.fn)]:=by unfold fmC;rw[hq2];rfl
     rw[hfd]at hk;have hne:=eq_false (show ¬ ((S'.length+1:Nat):Int)=0 by omega);have hcell:∀ C:AV→Prop,a0D (S'.reverse.flatMap (fmC rs)++I d.fn::I d.bk::I d.at_::.ref q2 sq2 0 (rgN fs d.fn)::rest) (S'.length*4) true 4 C .mk=C (.agg [I d.fn,I d.bk,I d.at_,.ref q2 sq2 0 (rgN fs d.fn)]):=fun C=>by
      simp only[a0D,a1E,a0F,a1f,if_true];rw[← hfl4,List.drop_left];simp
     have hkk:∀ z,(H.set kc z)[k]? = _:=fun z=>a0C hk (a2w hk hcu (.inr (show (4:Nat)≠1 by decide))) z;simp only[go_sem,Int.reduceEq,Int.reduceBEq,hf',ge_iff_le,e1,e2,ho0,hcur,hs1,hs2,hss,hx,hatI,h3,hk,hne,e5,hcell,hkk,Nat.sub_zero]
     repeat ((with_reducible refine And.intro ?_ ?_);· first | omega | rfl)
     have fd:=hP.fm d (List.mem_cons_self ..);refine ⟨⟨⟨{ σ with st:=σ.st+1 },d,S'⟩,_,rs,vo,.ref k s 0 S'.length,nx⟩,⟨⟨c+1,hnext.symm⟩,h0,hw1,by show S'.length≤σ.st+1;omega,hP.setc (τ:={ σ with st:=σ.st+1 }) _ rfl rfl rfl rfl fd.b fd.a,?_⟩,by show fuel-(σ.st+1)<fuel-σ.st;omega,Wk.mk ?_ ⟨[],(List.append_nil _).symm⟩ (Nat.le_refl _)⟩
     ·show (H.set kc _)[kc]? = some ⟨sc,88,1,fmC rs d⟩;rw[hfd];exact hs1 _
     ·simp[a0a]
end
set_option maxRecDepth 10000
open Go.V
section
variable {fs:List BF} {inp:ByteArray} {fuel n nf sM kw sw kr sr:Nat} {wd:Int}
set_option maxHeartbeats 2000000 in
theorem c3u (hfo:FnsOk fs n) (hfl:fs.length=nf) (hpos:0<nf) (hnf:nf≤140737488355328) (hn:n≤2000000) (hfu:fuel≤1000000) (hi:inp.size≤1000000000) {C:AV→List VObj→Nat→Prop} {σ0:Bst}
 (hC:∀ c,(a8Z fs inp fuel ⟨σ0,newB fs (nf-1),[]⟩ c).s.en≠0→∀ H nx,C (b6S (a8Z fs inp fuel ⟨σ0,newB fs (nf-1),[]⟩ c).s) H nx) (hst:σ0.st=0) (he0:σ0.en=0) (hw0:WfB inp fuel n σ0) {H:List VObj}
 (hm:MacP fs inp n nf sM kw sw kr sr H σ0 a0T) (hr:H[kr]? = some ⟨sr,40,1,List.replicate nf a0T⟩) (h0:H[0]? = some ⟨0,24,1,[I wd,.imm 2 (fs.map bfA)]⟩) (h1:H[1]? = some ⟨1,47,1,[I 0,a2W ⟨#[]⟩,I 0]⟩) (nx0:Nat) :
 VWs Tryz.prog (a5F 2 a0J) (a8D Tryz.prog [.cell 6 true 3] C) ⟨[(2,I fuel),(3,.ptr 0 0 0),(6,.ptr 1 1 0),(7,.ptr 4 sM 0)],H,nx0⟩:=by
 have hloop:=@c1J fs inp fuel n nf sM kw sw kr sr;simp only[a5F,a0J]at hloop;have e0:IntKind.i64.wrap ((nf:Int)-1)=((nf-1:Nat):Int):=by rw[a0e (by omega) (by omega)];omega
 have ho:=a5q (hfo.one (nf-1) (by omega));have hgn:∀ f,(List.replicate nf (none:Option (Nat × Nat × Nat))).getD f default=none:=fun f=>by
  simp only[List.getD,List.getElem?_replicate];split<;>rfl
 have hR:RegP fs nf kr sr kw H (List.replicate nf none):=⟨by rw[hr,List.map_replicate];rfl,by simp,fun f _ k s m e=>(by rw[hgn]at e;cases e),fun f _ g _ _ k s m k' s' m' e _=>(by rw[hgn]at e;cases e)⟩
 have hkw:kr≠kw:=a2w hm.w hr (.inl (show 93≠40 by decide));have hw4:kw≠4:=a2w hm.m hm.w (.inl (show 86≠93 by decide));have hk4:kr≠4:=a2w hm.m hr (.inl (show 86≠40 by decide));simp only[a5F,a0J,go_sem,a0i,a0j,a0k,a0f,h0,hfl,e0];refine b9c (nf-1) (by omega) hfl ⟨ho.1,ho.2.1⟩ σ0 H a0T _ nx0 hk4 hkw hw4 hm hR _ fun H' rs' nx' k s g1 g2 g3 g4 g5 _=>?_;have k0:H'[0]? = _:=g5 0 _ h0 (a2w hr h0 (.inl (show 40≠24 by decide))) (fun s' m e=>by rw[hgn]at e;cases e);have k1:H'[1]? = _:=g5 1 _ h1 (a2w hr h1 (.inl (show 40≠47 by decide))) (fun s' m e=>by rw[hgn]at e;cases e);have gl:∀ x:VObj,(H'++[x])[H'.length]? = some x:=fun x=>by simp
 have gs:∀ x y:VObj,(H'++[x]).set H'.length y=H'++[y]:=fun x y=>by rw[List.set_append_right _ _ (Nat.le_refl _)];simp
 simp only[a5F,a0J,go_sem,a0i,a0j,a0k,a0f,gl,gs];refine ⟨_,Wk.refl _,?_⟩;simp only[a5F,a0J,go_sem,a0i,a0j,a0k,a0f,gl,gs];refine ⟨_,Wk.refl _,?_⟩;simp only[a5F,a0J,go_sem,a0i,a0j,a0k,a0f,gl,gs];refine ⟨_,Wk.refl _,?_⟩;simp only[a5F,a0J,go_sem,a0i,a0j,a0k,a0f,gl,gs];refine ⟨⟨[(2,I fuel),(3,.ptr 0 0 0),(6,.ptr 1 1 0),(7,.ptr 4 sM 0),(8,.ptr H'.length nx' 0),(9,a0T),(10,I 0),(11,I 0)],H'++[⟨nx',88,1,fmC rs' (newB fs (nf-1))⟩],nx'+1⟩,Wk.mk (by simp[a0a]) ⟨[],?_⟩ (Nat.le_refl _),?_⟩
 ·show H'++[_]=(H'++[_])++[]
  rw[List.append_nil];unfold fmC;show _=H'++[(⟨nx',88,1,[I (nf-1:Nat),I (0:Nat),I (0:Nat),rcv (rs'.getD (nf-1) default)]⟩:VObj)]
  rw[g3];rfl
 refine hloop hfo hfl hn hfu hi hC rfl hst he0 hw0 ⟨⟨a0M g1.m _,a0M g1.w _,g1.o.app _⟩,⟨a0M g2.r _,g2.l,fun f hf k s m e=>?_,g2.i⟩,⟨_,gl _,rfl⟩,.inl ⟨rfl,rfl⟩,fun c hc=>?_,List.pairwise_singleton ..,a0M k0 _,a0M k1 _⟩ (gl _) hkw _
 ·obtain ⟨c1,c2,l,c3,c4⟩:=g2.c f hf k s m e;exact ⟨c1,c2,l,a0M c3 _,c4⟩
 ·rcases List.mem_singleton.1 hc with rfl;exact ⟨by show nf-1<nf;omega,List.length_pos_iff.2 ho.2.2.1,Nat.zero_le _,b6Q _,k,s,g3,a0M g4 _⟩
end
theorem c7t (b:BP) (inp:ByteArray) (fuel:Nat) (hne:b.funcs≠[]) (hw:0≤b.words∧b.words≤1048576) (hf:FnsOk b.funcs b.words.toNat) (hl:b.funcs.length≤1000000000000) (hfu:fuel≤1000000) (hi:inp.size≤1000000000) :
 Contract Tryz.prog 10 [bpA b,a2W inp,I fuel] (fun r=>r = .agg [I (b1I b inp fuel).en,a2W ⟨(b1I b inp fuel).out.toArray⟩,I (b1I b inp fuel).st]):=by
 have hq:=b7U;unfold a0z b2z at hq;refine Contract.of_call (VCall.of_bodyS (pt:=false) (pf:=false) a1g hq (by simp) ?_);have hpos:=List.length_pos_iff.2 hne;obtain ⟨n,hn⟩:∃ n:Nat,b.words=n:=⟨b.words.toNat,by omega⟩
 have hn':b.words.toNat=n:=by omega
 have hmid:=@c3u b.funcs inp fuel n b.funcs.length 4;simp only[a5F,a0J]at hmid;have hwB:WfB inp fuel n (b1Y b):=⟨by simp[b1Y,hn'],fun x hx=>by rw[(List.mem_replicate.1 hx).2];exact ⟨by omega,by omega⟩,by simp[b1Y],Nat.zero_le _,Nat.zero_le _⟩
 rw[hn']at hf;obtain ⟨c,h1,h2⟩:=c5E (inp:=inp) (fuel:=fuel) hf hpos hwB rfl;have hC:∀ c',(a8Z b.funcs inp fuel ⟨b1Y b,newB b.funcs (b.funcs.length-1),[]⟩ c').s.en≠0→∀ (H:List VObj) (nx:Nat),∃ y,Frz 0 H nx (b6S (a8Z b.funcs inp fuel ⟨b1Y b,newB b.funcs (b.funcs.length-1),[]⟩ c').s) y∧y = .agg [I (b1I b inp fuel).en,a2W ⟨(b1I b inp fuel).out.toArray⟩,I (b1I b inp fuel).st]:=fun c' h H nx=>by
  rw[c1G h h2,h1];refine ⟨_,Frz.pure rfl,?_⟩;unfold b1I b3P;split<;>rfl
 have hrep:(List.replicate n [AV.val (.int .u32 0)]).flatten=(b1Y b).ws.map U32:=by simp[b1Y,hn',U32]
 have hrep2:(List.replicate b.funcs.length [AV.val (.slice none 0 0)]).flatten=List.replicate b.funcs.length a0T:=by simp
 simp only[a5F,a0J,go_sem,a0i,a0j,a0k,a0f,hn,hrep,hrep2];refine ⟨_,Wk.refl _,?_⟩;simp only[a5F,a0J,go_sem,a0i,a0j,a0k,a0f,hn,hrep,hrep2];constructor
 all_goals
  repeat ((with_reducible refine And.intro ?_ ?_);· first | omega | rfl)
  refine ⟨⟨[(2,I fuel),(3,.ptr 0 0 0),(6,.ptr 1 1 0),(7,.ptr 4 4 0)],_,_⟩,Wk.mk (by simp[a0a]) ⟨[],(List.append_nil _).symm⟩ (Nat.le_refl _),?_⟩
 ·exact hmid (kw:=2) (sw:=2) (kr:=3) (sr:=3) (wd:=n) hf trivial hpos (by omega) (by omega) hfu hi hC rfl rfl hwB ⟨rfl,rfl,.inl ⟨rfl,rfl⟩⟩ rfl rfl rfl _
 ·exact hmid (kw:=3) (sw:=3) (kr:=2) (sr:=2) (wd:=n) hf trivial hpos (by omega) (by omega) hfu hi hC rfl rfl hwB ⟨rfl,rfl,.inl ⟨rfl,rfl⟩⟩ rfl rfl rfl _
/- A row as a word. -/
def wd:List Bool→Nat
 | []=>0
 | b::l=>b.toNat+2*wd l
theorem a7E:∀ (l:List Bool) (i:Nat),(wd l).testBit i=gB l i
 | [],i=>by simp[wd,gB]
 | b::l,0=>by
  show (b.toNat+2*wd l).testBit 0=b;rw[Nat.testBit_zero];cases b<;>simp<;>omega
 | b::l,i+1=>by
  show (b.toNat+2*wd l).testBit (i+1)=gB (b::l) (i+1);rw[Nat.testBit_succ,show (b.toNat+2*wd l) / 2=wd l by cases b<;>simp<;>omega,a7E l i];rfl
theorem c7u:∀ (l:List Bool),wd l<2 ^ l.length
 | []=>by simp[wd]
 | b::l=>by
  have:=c7u l;show b.toNat+2*wd l<2 ^ (l.length+1);rw[Nat.pow_succ];cases b<;>simp<;>omega
theorem a5G {l:List Bool} (h:l.length≤64):wd l<2 ^ 64:=Nat.lt_of_lt_of_le (c7u l) (Nat.pow_le_pow_right (by decide) h)
theorem c3v {l:List Bool} {n:Nat} (h:∀ i,n.testBit i=gB l i):n=wd l:=Nat.eq_of_testBit_eq fun i=>by rw[h,a7E]
theorem b1K {l:List Bool} {i:Nat} (h:l.length≤i):gB l i=false:=by
 unfold gB;rw[List.getD,List.getElem?_eq_none h];rfl
theorem b8g (n:Nat):wd (List.replicate n false)=0:=(c3v fun i=>by
 rw[Nat.zero_testBit];unfold gB;rw[List.getD,List.getElem?_replicate];split<;>rfl).symm
theorem c7v {a b:List Bool} (hl:a.length=b.length) (h:wd a=wd b):a=b:=a7C hl fun v _=>by rw[← a7E,← a7E,h]
def orL (a b:List Bool):List Bool:=(List.range a.length).map fun v=>gB a v || gB b v
def c4N (rd out st:List Bool):List Bool:=(List.range out.length).map fun v=>gB rd v || (gB out v && !gB st v)
theorem b5j (a b:List Bool) {v:Nat} (hv:v<a.length):gB (orL a b) v=(gB a v || gB b v):=by
 unfold orL;rw[gB,List.getD];simp[hv]
theorem c4O (rd out st:List Bool) {v:Nat} (hv:v<out.length):gB (c4N rd out st) v=(gB rd v || (gB out v && !gB st v)):=by
 unfold c4N;rw[gB,List.getD];simp[hv]
theorem a2j (a b:List Bool):(orL a b).length=a.length:=by simp[orL]
theorem b9d (a b c:List Bool):(c4N a b c).length=b.length:=by simp[c4N]
theorem c7w {a b:List Bool} (hl:a.length=b.length):wd a ||| wd b=wd (orL a b):=c3v fun i=>by
 rw[Nat.testBit_or,a7E,a7E];rcases Nat.lt_or_ge i a.length with h | h
 ·rw[b5j _ _ h]
 ·rw[b1K h,b1K (by omega),b1K (by rw[a2j];exact h)];rfl
theorem c1K {l:List Bool} {i:Nat} (hi:i<l.length):wd l ||| 2 ^ i=wd (l.set i true):=c3v fun j=>by
 rw[Nat.testBit_or,a7E,Nat.testBit_two_pow];rcases Nat.lt_or_ge j l.length with h | h
 ·rw[a8u _ _ _ _ h];by_cases e:i=j
  ·rw[if_pos e];simp[e]
  ·rw[if_neg e];simp[e]
 ·rw[b1K h,b1K (by simpa using h)];simp;omega
/- What a block reads ahead of setting it, and what it sets. -/
def a4v (b:Bk) (r:Nat):List Bool:=a3D b (List.replicate r false)
def a9z (ins:List Tac) (l:List Bool):List Bool:=ins.foldr (fun t l=>if 0≤a0n t then l.set (a0n t).toNat true else l) l
def b3e (b:Bk) (r:Nat):List Bool:=a9z b.ins (List.replicate r false)
theorem a7F:∀ (ins:List Tac) (l:List Bool),(a9z ins l).length=l.length
 | [],_=>rfl
 | t::ins,l=>by
  show (if 0≤a0n t then (a9z ins l).set (a0n t).toNat true else a9z ins l).length=_;split<;>simp[a7F ins l]
theorem c1L:∀ (ins:List Tac) (l:List Bool) (v:Nat),v<l.length→gB (a9z ins l) v=(gB l v || ins.any fun t=>decide (a0n t=(v:Int)))
 | [],l,v,_=>by simp[a9z]
 | t::ins,l,v,hv=>by
  have ih:=c1L ins l v hv;show gB (if 0≤a0n t then (a9z ins l).set (a0n t).toNat true else a9z ins l) v=_;rw[List.any_cons];by_cases h:0≤a0n t
  ·rw[if_pos h,a8u _ _ _ _ (by rw[a7F];exact hv)];by_cases h2:a0n t=(v:Int)
   ·rw[if_pos (by omega),decide_eq_true h2];simp
   ·rw[if_neg (by omega),decide_eq_false h2,ih,Bool.false_or]
  ·rw[if_neg h,decide_eq_false (by omega),ih,Bool.false_or]
theorem b6T (r v:Nat):gB (List.replicate r false) v=false:=by
 unfold gB;rw[List.getD,List.getElem?_replicate];split<;>rfl
theorem c5H {t:Tac} {v:Nat} (h:a0n t=(v:Int)) (x y:Bool):bk1 t v x=bk1 t v y:=by
 unfold bk1;split
 ·rfl
 ·simp[h]
theorem b6U:∀ {ins:List Tac} {v:Nat},(ins.any fun t=>decide (a0n t=(v:Int)))=true→∀ x y,thru1 ins v x=thru1 ins v y
 | [],v,h,_,_=>by simp at h
 | t::ins,v,h,x,y=>by
  show bk1 t v (thru1 ins v x)=bk1 t v (thru1 ins v y);rw[List.any_cons,Bool.or_eq_true,decide_eq_true_eq]at h;rcases h with h | h
  ·exact c5H h _ _
  ·rw[b6U h x y]
theorem b0o:∀ {ins:List Tac} {v:Nat},(ins.any fun t=>decide (a0n t=(v:Int)))=false→∀ x,thru1 ins v x=(thru1 ins v false || x)
 | [],v,_,x=>by simp[thru1]
 | t::ins,v,h,x=>by
  show bk1 t v (thru1 ins v x)=(bk1 t v (thru1 ins v false) || x)
  rw[List.any_cons,Bool.or_eq_false_iff,decide_eq_false_iff_not]at h;rw[b0o h.2 x];unfold bk1;split
  ·simp
  ·rw[if_neg h.1,if_neg h.1]
theorem c1M (b:Bk) (v:Nat) (x:Bool):ahead1 b v x=(ahead1 b v false || (x && !(b.ins.any fun t=>decide (a0n t=(v:Int))))):=by
 unfold ahead1;cases h:b.ins.any fun t=>decide (a0n t=(v:Int))
 ·rw[b0o h,b0o h (a5o b v false)];unfold a5o;by_cases h2:b.e=2∧b.v=(v:Int)
  ·rw[if_pos h2,if_pos h2];simp
  ·rw[if_neg h2,if_neg h2];simp
 ·rw[b6U h (a5o b v x) (a5o b v false)];simp
theorem c1N {f:BF} (hf:Fine f) {b:Nat} (hb:b<f.n) (l:List Bool) (hl:l.length=f.r):c4N (a4v (f.bk b) f.r) l (b3e (f.bk b) f.r)=a3D (f.bk b) l:=by
 refine a7C (by rw[b9d,a3e]) fun v hv=>?_;rw[b9d]at hv;have hv':v<f.r:=by omega
 rw[c4O _ _ _ hv,a4X hf hb l hl hv',c1M];unfold a4v b3e;rw[a4X hf hb _ (by simp) hv',b6T,c1L _ _ _ (by simp;exact hv'),b6T,Bool.false_or]
structure SV where
 I:List (List Bool)
 O:List (List Bool)
 wt:List Nat
deriving Inhabited
def SV.L (σ:SV):LD:=⟨σ.I,σ.O⟩
def c0j (I:List (List Bool)) (o:List Bool) (ks:List Int):List Bool:=ks.foldl (fun o k=>orL o (I.getD k.toNat default)) o
theorem b5k (I:List (List Bool)):∀ (ks:List Int) (o:List Bool),(c0j I o ks).length=o.length
 | [],_=>rfl
 | k::ks,o=>by
  show (c0j I (orL o (I.getD k.toNat default)) ks).length=_;rw[b5k I ks,a2j]
theorem b5l (I:List (List Bool)):∀ (ks:List Int) (o:List Bool) {v:Nat},v<o.length→gB (c0j I o ks) v=(gB o v || ks.any fun k=>gB (I.getD k.toNat default) v)
 | [],o,v,_=>by simp[c0j]
 | k::ks,o,v,hv=>by
  show gB (c0j I (orL o (I.getD k.toNat default)) ks) v=_;rw[b5l I ks _ (by rw[a2j];exact hv),b5j _ _ hv,List.any_cons,Bool.or_assoc]
def a7S (f:BF) (I O:List (List Bool)) (b:Nat):List Bool:=c0j I (O.getD b default) (nxt (f.bk b))
def b8h (f:BF) (L:LD):Prop:=∀ I O,Closed f I O→∀ b<f.n,∀ v<f.r,(L.I b v=true→I b v=true)∧(L.O b v=true→O b v=true)
theorem a5H {m:List (List Bool)} {b c:Nat} {l:List Bool} (hb:b<m.length):(m.set b l).getD c []=if b=c then l else m.getD c []:=by
 rw[List.getD,List.getElem?_set];by_cases h:b=c
 ·subst h;simp[hb]
 ·rw[if_neg h,if_neg h];rfl
theorem SizedP.setO {f:BF} {L:LD} (h:SizedP f L) {b:Nat} {l:List Bool} (hl:l.length=f.r):SizedP f ⟨L.inn,L.out.set b l⟩ :=
 ⟨h.i,by simp[h.o],h.ir,fun x hx=>by rcases List.mem_or_eq_of_mem_set hx with e | e;exact h.or x e;rw[e,hl]⟩
theorem SizedP.setI {f:BF} {L:LD} (h:SizedP f L) {b:Nat} {l:List Bool} (hl:l.length=f.r):SizedP f ⟨L.inn.set b l,L.out⟩ :=
 ⟨by simp[h.i],h.o,fun x hx=>by rcases List.mem_or_eq_of_mem_set hx with e | e;exact h.ir x e;rw[e,hl],h.or⟩
theorem b6V {f:BF} (hf:Fine f) {I O:List (List Bool)} (hs:SizedP f ⟨I,O⟩) (h:b8h f ⟨I,O⟩) {b:Nat} (hb:b<f.n):b8h f ⟨I,O.set b (a7S f I O b)⟩:=fun I' O' hc c hc' v hv=>by
 have hob:b<O.length:=by have:=hs.o;simp only at this;omega
 refine ⟨(h I' O' hc c hc' v hv).1,fun e=>?_⟩;have e':gB ((O.set b (a7S f I O b)).getD c []) v=true:=e;rw[a5H hob]at e';by_cases hbc:b=c
 ·subst hbc;rw[if_pos rfl]at e';unfold a7S at e';have hol:(O.getD b default).length=f.r:=hs.ol hb;rw[b5l _ _ _ (by rw[hol];exact hv),Bool.or_eq_true]at e';rcases e' with g | g
  ·exact (h I' O' hc b hb v hv).2 g
  ·obtain ⟨k,hk,g⟩:=List.any_eq_true.1 g;have hk':=hf.to _ (BF.mem hb) k hk;exact hc.way b hb k hk v hv ((h I' O' hc k.toNat (by unfold BF.n;omega) v hv).1 g)
 ·rw[if_neg hbc]at e';exact (h I' O' hc c hc' v hv).2 e'
theorem b9e {f:BF} (hf:Fine f) {I O:List (List Bool)} (hs:SizedP f ⟨I,O⟩) (h:b8h f ⟨I,O⟩) {b:Nat} (hb:b<f.n) {l:List Bool} (hl:∀ v<f.r,gB l v=true→gB (I.getD b []) v=true∨gB (a3D (f.bk b) (O.getD b [])) v=true) :
 b8h f ⟨I.set b l,O⟩:=fun I' O' hc c hc' v hv=>by
 have hob:b<I.length:=by have:=hs.i;simp only at this;omega
 refine ⟨fun e=>?_,(h I' O' hc c hc' v hv).2⟩;have e':gB ((I.set b l).getD c []) v=true:=e;rw[a5H hob]at e';by_cases hbc:b=c
 ·subst hbc;rw[if_pos rfl]at e';rcases hl v hv e' with g | g
  ·exact (h I' O' hc b hb v hv).1 g
  ·rw[a4X hf hb _ (hs.ol hb) hv]at g;exact hc.ahead b hb v hv ((Tri.ahead1 _ v).mono (fun e=>(h I' O' hc b hb v hv).2 e) g)
 ·rw[if_neg hbc]at e';exact (h I' O' hc c hc' v hv).1 e'
def b5m (m:List (List Bool)):Nat:=(m.map fun l=>l.countP (! ·)).sum
theorem c3w {a b:List Bool} (hl:a.length=b.length) (h:∀ v,gB a v=true→gB b v=true):b.countP (! ·)≤a.countP (! ·)∧(a≠b→b.countP (! ·)<a.countP (! ·)):=by
 induction a generalizing b with
 | nil=>cases b with
  | nil=>exact ⟨Nat.le_refl _,fun e=>absurd rfl e⟩
  | cons y b=>simp at hl
 | cons x a ih=>cases b with
  | nil=>simp at hl
  | cons y b =>
   have h0:=h 0;have hs:=ih (by simpa using hl) fun v hv=>by have:=h (v+1);simp only[gB,List.getD_cons_succ]at this ⊢;exact this hv
   simp only[gB,List.getD_cons_zero]at h0;rw[List.countP_cons,List.countP_cons];have h2:x::a≠y::b→x=y→a≠b:=fun e e1 e2=>e (by rw[e1,e2]);cases x<;>cases y
   ·refine ⟨by simp;exact hs.1,fun e=>by have:=hs.2 (h2 e rfl);simpa using this⟩
   ·exact ⟨by simp;omega,fun _=>by simp;omega⟩
   ·exact absurd (h0 rfl) (by simp)
   ·refine ⟨by simp;exact hs.1,fun e=>by have:=hs.2 (h2 e rfl);simpa using this⟩
theorem c1O {m:List (List Bool)} {b:Nat} {l:List Bool} (hb:b<m.length) (hl:l.length=(m.getD b []).length) (h:∀ v,gB (m.getD b []) v=true→gB l v=true):b5m (m.set b l)≤b5m m∧(m.getD b []≠l→b5m (m.set b l)<b5m m):=by
 induction m generalizing b with
 | nil=>simp at hb
 | cons x m ih =>
  cases b with
  | zero =>
   have:=c3w (a:=x) (b:=l) (by simpa using hl.symm) (by simpa using h);simp only[b5m,List.set_cons_zero,List.map_cons,List.sum_cons,List.getD_cons_zero]at this ⊢;exact ⟨by omega,fun e=>by have:=this.2 e;omega⟩
  | succ b =>
   have:=ih (b:=b) (by simpa using hb) (by simpa using hl) (by simpa using h);simp only[b5m,List.set_cons_succ,List.map_cons,List.sum_cons,List.getD_cons_succ]at this ⊢;exact ⟨by omega,fun e=>by have:=this.2 e;omega⟩
theorem a9A:∀ (n:Nat) (l:List Nat),l.Nodup→(∀ x ∈ l,x<n)→l.length≤n
 | 0,l,_,h=>by
  cases l with
  | nil=>exact Nat.le_refl _
  | cons x l=>exact absurd (h x (by simp)) (by omega)
 | n+1,l,hd,h=>by
  by_cases hm:n ∈ l
  ·have h1:=a9A n (l.erase n) (hd.erase n) fun x hx=>by
    have h2:=h x (List.mem_of_mem_erase hx);have h3:x≠n:=fun e=>by rw[e]at hx;exact (hd.not_mem_erase hx).elim
    omega
   rw[List.length_erase_of_mem hm]at h1;omega
  ·have h1:=a9A n l hd fun x hx=>by
    have h2:=h x hx;have h3:x≠n:=fun e=>hm (e▸hx);omega
   omega
def a3f (f:BF) (b:Nat):List Nat:=(List.range f.n).flatMap fun a=>((nxt (f.bk a)).filter fun k=>decide (k.toNat=b)).map fun _=>a
theorem mem_pred {f:BF} {b a:Nat}:a ∈ a3f f b↔a<f.n∧∃ k ∈ nxt (f.bk a),k.toNat=b:=by
 unfold a3f;simp only[List.mem_flatMap,List.mem_range,List.mem_map,List.mem_filter,decide_eq_true_eq];constructor
 ·rintro ⟨x,h1,k,⟨h2,h3⟩,rfl⟩;exact ⟨h1,k,h2,h3⟩
 ·rintro ⟨h1,k,h2,h3⟩;exact ⟨a,h1,k,⟨h2,h3⟩,rfl⟩
def b2a (wt:List Nat) (a:Nat):List Nat:=if a ∈ wt then wt else wt++[a]
def a4o (wt:List Nat) (ls:List Nat):List Nat:=ls.foldl b2a wt
theorem c3x {wt:List Nat} {a x:Nat}:x ∈ b2a wt a↔x ∈ wt∨x=a:=by
 unfold b2a;split
 ·rename_i h;exact ⟨.inl,fun e=>by rcases e with e | e;exact e;rw[e];exact h⟩
 ·simp
theorem mem_waits:∀ {ls wt:List Nat} {x:Nat},x ∈ a4o wt ls↔x ∈ wt∨x ∈ ls
 | [],wt,x=>by simp[a4o]
 | a::ls,wt,x=>by
  show x ∈ a4o (b2a wt a) ls↔_;rw[mem_waits,c3x,List.mem_cons,or_assoc]
theorem c0k {wt:List Nat} {a:Nat} (h:wt.Nodup):(b2a wt a).Nodup:=by
 unfold b2a;split
 ·exact h
 ·rename_i h2;rw[List.nodup_append];exact ⟨h,by simp,fun x hx y hy e=>by simp at hy;subst hy;subst e;exact h2 hx⟩
theorem a5I:∀ {ls wt:List Nat},wt.Nodup→(a4o wt ls).Nodup
 | [],_,h=>h
 | a::ls,_,h=>a5I (ls:=ls) (c0k h)
def grown (f:BF) (σ:SV) (b:Nat):List Bool:=a3D (f.bk b) (a7S f σ.I σ.O b)
def a5c (f:BF) (σ:SV) (b:Nat):Bool:=decide (σ.I.getD b []≠grown f σ b)
def a8d (f:BF) (σ:SV) (b:Nat):SV:=⟨σ.I.set b (grown f σ b),σ.O.set b (a7S f σ.I σ.O b),σ.wt⟩
def a4Y (f:BF) (σ:SV) (w0:List Nat) (b:Nat):SV :=
 ⟨(a8d f σ b).I,(a8d f σ b).O,if a5c f σ b=true then a4o w0 (a3f f b) else w0⟩
structure SInv (f:BF) (σ:SV):Prop where
 sz:SizedP f σ.L
 un:b8h f σ.L
 wn:∀ b ∈ σ.wt,b<f.n
 nd:σ.wt.Nodup
 low:∀ b<f.n,∀ v<f.r,gB (σ.I.getD b []) v=true→gB (a3D (f.bk b) (σ.O.getD b [])) v=true
 ok:∀ b<f.n,b ∉ σ.wt→(∀ k ∈ nxt (f.bk b),∀ v<f.r,gB (σ.I.getD k.toNat []) v=true→gB (σ.O.getD b []) v=true) ∧
  ∀ v<f.r,gB (a3D (f.bk b) (σ.O.getD b [])) v=true→gB (σ.I.getD b []) v=true
theorem SInv.wlen {f:BF} {σ:SV} (h:SInv f σ):σ.wt.length≤f.n:=a9A _ _ h.nd h.wn
def muS (f:BF) (σ:SV):Nat:=b5m σ.I*(f.n+1)+σ.wt.length
section
variable {f:BF} {σ:SV} {b:Nat}
theorem a9B (hf:Fine f) (h:SizedP f σ.L) (hb:b<f.n):(a7S f σ.I σ.O b).length=f.r:=by
 unfold a7S;rw[b5k];exact h.ol hb
theorem b6W (hf:Fine f) (h:SizedP f σ.L) (hb:b<f.n):(grown f σ b).length=f.r:=by
 unfold grown;rw[a3e,a9B hf h hb]
theorem c5I (hf:Fine f) (h:SizedP f σ.L) (hb:b<f.n) {v:Nat} (hv:v<f.r) (e:gB (σ.O.getD b []) v=true):gB (a7S f σ.I σ.O b) v=true:=by
 unfold a7S;rw[b5l _ _ _ (by have:=h.ol hb;exact Nat.lt_of_lt_of_eq hv this.symm)];rw[show gB (σ.O.getD b default) v=true from e];rfl
theorem c3y (hf:Fine f) (h:SizedP f σ.L) (hb:b<f.n) {k:Int} (hk:k ∈ nxt (f.bk b)) {v:Nat} (hv:v<f.r) (e:gB (σ.I.getD k.toNat []) v=true):gB (a7S f σ.I σ.O b) v=true:=by
 unfold a7S;rw[b5l _ _ _ (by have:=h.ol hb;exact Nat.lt_of_lt_of_eq hv this.symm),Bool.or_eq_true];exact .inr (List.any_eq_true.2 ⟨k,hk,e⟩)
theorem c3z (hf:Fine f) (h:SInv f σ) (hb:b<f.n) {v:Nat} (hv:v<f.r) (e:gB (σ.I.getD b []) v=true):gB (grown f σ b) v=true:=by
 have h1:=h.low b hb v hv e;rw[a4X hf hb (σ.O.getD b []) (h.sz.ol hb) hv]at h1;unfold grown;rw[a4X hf hb _ (a9B hf h.sz hb) hv];exact (Tri.ahead1 _ v).mono (fun e=>c5I hf h.sz hb hv e) h1
theorem SInv.round (hf:Fine f) {w0:List Nat} (h:SInv f σ) (hw:σ.wt=w0++[b]):SInv f (a4Y f σ w0 b)∧muS f (a4Y f σ w0 b)<muS f σ:=by
 have hb:b<f.n:=h.wn b (by rw[hw];simp);have hbI:b<σ.I.length:=by rw[show σ.I.length=f.n from h.sz.i];exact hb
 have hbO:b<σ.O.length:=by rw[show σ.O.length=f.n from h.sz.o];exact hb
 have hnd:=h.nd;rw[hw,List.nodup_append]at hnd;have hb0:b ∉ w0:=fun e=>hnd.2.2 b e b (by simp) rfl;have hol:=a9B hf h.sz hb;have hgl:=b6W hf h.sz hb;have hsz:SizedP f ⟨σ.I.set b (grown f σ b),σ.O.set b (a7S f σ.I σ.O b)⟩:=(h.sz.setO hol).setI hgl;have hI:∀ c,(σ.I.set b (grown f σ b)).getD c []=if b=c then grown f σ b else σ.I.getD c []:=fun c=>a5H hbI
 have hO:∀ c,(σ.O.set b (a7S f σ.I σ.O b)).getD c []=if b=c then a7S f σ.I σ.O b else σ.O.getD c []:=fun c=>a5H hbO
 have hsame:a5c f σ b=false→∀ c,(σ.I.set b (grown f σ b)).getD c []=σ.I.getD c []:=fun e c=>by
  rw[hI];have e':σ.I.getD b []=grown f σ b:=Classical.byContradiction fun g=>by rw[a5c,decide_eq_true g]at e;cases e
  by_cases hc:b=c
  ·rw[if_pos hc,← hc,e']
  ·rw[if_neg hc]
 have hun:b8h f ⟨σ.I.set b (grown f σ b),σ.O.set b (a7S f σ.I σ.O b)⟩:=by
  refine b9e hf (h.sz.setO hol) (b6V hf h.sz h.un hb) hb fun v hv e=>.inr ?_;show gB (a3D (f.bk b) ((σ.O.set b (a7S f σ.I σ.O b)).getD b [])) v=true;rw[hO,if_pos rfl];exact e
 have hmem:∀ c,c ∉ (a4Y f σ w0 b).wt→c ∉ w0∧(a5c f σ b=true→c ∉ a3f f b):=fun c hc=>by
  unfold a4Y at hc;simp only at hc;split at hc
  ·rw[mem_waits]at hc;exact ⟨fun e=>hc (.inl e),fun _ e=>hc (.inr e)⟩
  ·rename_i hm;exact ⟨hc,fun e=>absurd e hm⟩
 refine ⟨⟨hsz,hun,fun c hc=>?_,?_,fun c hc v hv e=>?_,fun c hc hw'=>?_⟩,?_⟩
 ·unfold a4Y at hc;simp only at hc;have hw0:∀ c ∈ w0,c<f.n:=fun c hc=>h.wn c (by rw[hw];simp[hc]);split at hc
  ·rcases mem_waits.1 hc with g | g
   ·exact hw0 c g
   ·exact (mem_pred.1 g).1
  ·exact hw0 c hc
 ·unfold a4Y;simp only;split
  ·exact a5I hnd.1
  ·exact hnd.1
 ·have e':gB ((σ.I.set b (grown f σ b)).getD c []) v=true:=e;show gB (a3D (f.bk c) ((σ.O.set b (a7S f σ.I σ.O b)).getD c [])) v=true;rw[hI]at e';rw[hO];by_cases hbc:b=c
  ·subst hbc;rw[if_pos rfl]at e' ⊢;exact e'
  ·rw[if_neg hbc]at e' ⊢;exact h.low c hc v hv e'
 ·obtain ⟨g1,g2⟩:=hmem c hw';show (∀ k ∈ nxt (f.bk c),∀ v<f.r,gB ((σ.I.set b (grown f σ b)).getD k.toNat []) v=true→gB ((σ.O.set b (a7S f σ.I σ.O b)).getD c []) v=true) ∧
   ∀ v<f.r,gB (a3D (f.bk c) ((σ.O.set b (a7S f σ.I σ.O b)).getD c [])) v=true→gB ((σ.I.set b (grown f σ b)).getD c []) v=true
  have hk':∀ k ∈ nxt (f.bk c),(σ.I.set b (grown f σ b)).getD k.toNat []=σ.I.getD k.toNat []:=fun k hk=>by
   cases hm:a5c f σ b
   ·exact hsame hm _
   ·rw[hI,if_neg];exact fun e=>g2 hm (mem_pred.2 ⟨hc,k,hk,e.symm⟩)
  by_cases hbc:b=c
  ·subst hbc;rw[hO,if_pos rfl,hI,if_pos rfl];refine ⟨fun k hk v hv e=>?_,fun v hv e=>e⟩;rw[hk' k hk]at e;exact c3y hf h.sz hb hk hv e
  ·rw[hO,if_neg hbc,hI c,if_neg hbc];have hcw:c ∉ σ.wt:=by
    rw[hw];simp only[List.mem_append,List.mem_singleton,not_or];exact ⟨g1,fun e=>hbc e.symm⟩
   refine ⟨fun k hk v hv e=>?_,(h.ok c hc hcw).2⟩;rw[hk' k hk]at e;exact (h.ok c hc hcw).1 k hk v hv e
 ·have hu:=c1O (m:=σ.I) (b:=b) (l:=grown f σ b) hbI (by rw[hgl];exact (h.sz.il hb).symm) (fun v e=>by
   rcases Nat.lt_or_ge v f.r with hv | hv
   ·exact c3z hf h hb hv e
   ·rw[b1K (by rw[show (σ.I.getD b []).length=f.r from h.sz.il hb];exact hv)]at e;cases e)
  have hwl:w0.length+1=σ.wt.length:=by rw[hw];simp
  have hwn:σ.wt.length≤f.n:=h.wlen;unfold muS a4Y;simp only[a8d];cases hm:a5c f σ b
  ·simp only[Bool.false_eq_true,if_false];have:=Nat.mul_le_mul_right (f.n+1) hu.1;omega
  ·simp only[if_true];have hlt:=hu.2 (of_decide_eq_true hm);have h1:=Nat.mul_le_mul_right (f.n+1) (show b5m (σ.I.set b (grown f σ b))+1≤b5m σ.I from hlt);rw[Nat.add_mul,Nat.one_mul]at h1;have h2:(a4o w0 (a3f f b)).length≤f.n:=a9A _ _ (a5I hnd.1) fun c hc=>by
    rcases mem_waits.1 hc with g | g
    ·exact h.wn c (by rw[hw];simp[g])
    ·exact (mem_pred.1 g).1
   omega
theorem SInv.least (hf:Fine f) (h:SInv f σ) (hw:σ.wt=[]):Least f σ.L:=by
 refine ⟨⟨h.sz,⟨fun b hb k hk v hv e=>(h.ok b hb (by rw[hw];simp)).1 k hk v hv e,fun b hb v hv e=>?_⟩⟩,h.un⟩;refine (h.ok b hb (by rw[hw];simp)).2 v hv ?_;rw[a4X hf hb (σ.O.getD b []) (h.sz.ol hb) hv];exact e
def a8v (f:BF):SV:=⟨List.replicate f.n (List.replicate f.r false),List.replicate f.n (List.replicate f.r false),List.range f.n⟩
theorem b8i (n r b v:Nat):gB ((List.replicate n (List.replicate r false)).getD b []) v=false:=by
 rw[List.getD,List.getElem?_replicate];split
 ·exact b6T r v
 ·rfl
theorem c1P (f:BF):SInv f (a8v f):=by
 refine ⟨⟨by simp[a8v,SV.L],by simp[a8v,SV.L],fun l hl=>?_,fun l hl=>?_⟩,fun I O _ b _ v _=>⟨fun e=>?_,fun e=>?_⟩,fun b hb=>by simpa [a8v] using hb,List.nodup_range,fun b hb v hv e=>?_,fun b hb hw=>absurd (by simpa [a8v] using hb) hw⟩
 ·simp[a8v,SV.L]at hl;rw[hl.2];simp
 ·simp[a8v,SV.L]at hl;rw[hl.2];simp
 ·have:gB ((List.replicate f.n (List.replicate f.r false)).getD b []) v=true:=e;rw[b8i]at this;cases this
 ·have:gB ((List.replicate f.n (List.replicate f.r false)).getD b []) v=true:=e;rw[b8i]at this;cases this
 ·have:gB ((List.replicate f.n (List.replicate f.r false)).getD b []) v=true:=e;rw[b8i]at this;cases this
end
set_option maxRecDepth 10000
open Go.V
theorem c3A (l:List Bool) (i:Nat) (x:Bool):(l.map B).set i (.val (.bool x))=(l.set i x).map B:=a0I B l i x
def c1Q (a b:List Bool):Bool:=decide (∀ i<a.length,gB a i=true→gB b i=true)
theorem b0p (l:List Bool) (i:Nat):l.getD i default=gB l i:=rfl
theorem a2U (l:List Bool) (us:List Int) {k:Nat} (hk:k<us.length):a3W l (us.take (k+1))=(a3W l (us.take k)).set (us.getD k default).toNat true:=by
 have e:us.take (k+1)=us.take k++[us.getD k default]:=by rw[List.take_add_one];simp[List.getD,List.getElem?_eq_getElem hk]
 rw[e];simp[a3W]
theorem c1R (ins:List Tac) (l:List Bool) {k:Nat} (hk:k<ins.length):b2Z (ins.drop k) l=b5g (ins.getD k default) (b2Z (ins.drop (k+1)) l):=by
 have e:ins.getD k default=ins[k]:=by simp[List.getD,List.getElem?_eq_getElem hk]
 rw[e]
 conv=>lhs;rw[List.drop_eq_getElem_cons hk]
 rfl
def b9f (b:Bk):AV:=if b.e=1 then a2t [b.to] else if b.e=2 then a2t [b.to,b.el] else a0T
theorem c3B (b:Bk):(b9f b).one=true:=by unfold b9f;(split;rfl;split<;>rfl)
theorem c3C (n:Nat) (H:List VObj) (nx:Nat) (b:Bk):Frz n H nx (b9f b) (a2t (nxt b)):=by
 unfold b9f nxt;split
 ·exact Frz.pure rfl
 ·split
  ·exact Frz.pure rfl
  ·exact Frz.nil 1
theorem c7x (f:BF) (hb:f.bks.length≤500):Contract Tryz.prog 42 [bfA f] (fun x=>x = .imm 1 (f.bks.map fun b=>a2t (nxt b))):=by
 obtain ⟨r,bs⟩:=f;simp only at hb ⊢;refine Contract.of_call (VCall.of_body a1g b7V (by simp) ?_);simp only[go_sem,b2R]
 repeat (refine And.intro (by omega) ?_)
 refine a0r (fun q:Nat × Nat=>⟨[(1,.ptr 0 0 0),(3,.ref 1 1 0 bs.length),(11,.imm 5 (bs.map bkA)),(12,I bs.length),(13,I q.1)],
  [⟨0,34,1,[I r,.imm 5 (bs.map bkA)]⟩,⟨1,28,1,a5h b9f a0T bs q.1⟩],q.2⟩) (fun q=>q.1≤bs.length∧2≤q.2) (fun q=>bs.length-q.1) (0,2)
  (Wk.mk (by simp[a0a]) ⟨[],by simp[a3S,b7R]⟩ (Nat.le_refl _)) ⟨by omega,by omega⟩ ?_
 rintro ⟨k,nx⟩ ⟨hk,hnx⟩;simp only[go_sem];refine ⟨fun h=>?_,fun h=>?_⟩
 ·have hl:=b4Q b9f a0T bs (show k≤bs.length by omega);rw[a0e (by omega) (by omega)];have hs:=b4o b9f a0T bs (show k<bs.length by omega);have hsk:=b7S b9f a0T bs (show k<bs.length by omega);generalize hx:bs.getD k default=b at *
  refine ⟨by omega,fun h1=>?_,fun h1=>⟨fun h2=>?_,fun h2=>?_⟩⟩
  ·repeat (refine And.intro (by omega) ?_)
   refine ⟨(k+1,nx+1+1),⟨by simp;omega,by simp⟩,by simp;omega,Wk.give (by simp[a0a]) ?_ (Nat.le_refl _)⟩;simp only[OW,CW.refl,Nat.reduceEqDiff,false_implies,true_and,and_true];rw[← hs,show b9f b=a2t [b.to] by simp[b9f,h1]];exact CW.set (a3R (by simp) rfl rfl)
  ·have h1:b.e≠1:=by simpa using h1
   repeat (refine And.intro (by omega) ?_)
   refine ⟨(k+1,nx+1+1),⟨by simp;omega,by simp⟩,by simp;omega,Wk.give (by simp[a0a]) ?_ (Nat.le_refl _)⟩;simp only[OW,CW.refl,Nat.reduceEqDiff,false_implies,true_and,and_true];rw[← hs,show b9f b=a2t [b.to,b.el] by simp[b9f,h2]];exact CW.set (a3R (by simp) rfl rfl)
  ·refine ⟨(k+1,nx+1),⟨by simp;omega,by simp;omega⟩,by simp;omega,Wk.give (by simp[a0a]) ?_ (Nat.le_refl _)⟩;simp only[OW,CW.refl,Nat.reduceEqDiff,false_implies,true_and,and_true];rw[← hsk (by (try simp at h1 h2);simp[b9f,h1,h2])];exact CW.refl _
 ·refine ⟨_,?_,rfl⟩;rw[c0d b9f a0T bs (by omega)];exact b2F (by omega) rfl rfl c3B (fun b _=>c3C _ _ _ b)
set_option maxRecDepth 10000
open Go.V
set_option maxRecDepth 10000
open Go.V
theorem c7y (n idY sy idN sN:Nat) (Inv:Nat→List VObj→Nat→Prop) (H0:List VObj) (nx0:Nat) (C:AV→List VObj→Nat→Prop) (hn:n≤1000000)
 (hbox:∀ k H nx,Inv k H nx→H[idN]? = some ⟨sN,3,1,[I n]⟩)
 (hy:∀ k H nx (C':AV→List VObj→Nat→Prop),k<n→Inv k H nx→(∀ H' nx',Inv (k+1) H' nx'→C' (B true) H' nx')→YCall Tryz.prog idY sy [I ((n:Int)-1-k)] H nx C')
 (h0:Inv 0 H0 nx0) (hC:∀ r H nx,Inv n H nx→C r H nx):VCall Tryz.prog 82 [.yld idY sy,.ptr idN sN 0] H0 nx0 C:=by
 refine VCall.of_bodyB a1g b4Z (by simp) ?_;simp only[go_sem,a9t,hbox _ _ _ h0];rw[a0e (by omega) (by omega)];refine a0r (fun q:Nat × List VObj × Nat=>⟨[(0,.yld idY sy),(1,.ptr idN sN 0),(3,I ((n:Int)-1-q.1))],q.2.1,q.2.2⟩) (fun q=>q.1≤n∧Inv q.1 q.2.1 q.2.2) (fun q=>n-q.1) (0,H0,nx0)
  (Wk.mk (by simp[a0a]) ⟨[],by simp⟩ (Nat.le_refl _)) ⟨by omega,h0⟩ ?_
 rintro ⟨k,H,nx⟩ ⟨hk,hI⟩;simp only at hk hI;by_cases h1:k<n
 ·simp only[go_sem,eq_true (show (0:Int)≤(n:Int)-1-k by omega)];refine hy k H nx _ h1 hI fun H' nx' hI'=>?_;simp only[go_sem];rw[a0e (by omega) (by omega)];exact ⟨(k+1,H',nx'),⟨by simp;omega,hI'⟩,by simp;omega,Wk.mk (by simp[a0a];omega) ⟨[],by simp⟩ (Nat.le_refl _)⟩
 ·simp only[go_sem,eq_false (show ¬ (0:Int)≤(n:Int)-1-k by omega)];obtain rfl:k=n:=by omega
  exact hC _ _ _ hI
theorem c9c (n:Nat):(List.replicate n [AV.val (.bool false)]).flatten=(List.replicate n false).map B:=by rw[a3S];simp
theorem c1S {t:Tac} {l:List Bool} (h:0≤a0n t):l.set (a0n t).toNat false=a0u t l:=(if_pos h).symm
theorem c1T {t:Tac} {l:List Bool} (h:¬ 0≤a0n t):a0u t l=l:=if_neg h
theorem b9g {b:Bk} {l:List Bool} (h:b.e=2):l.set b.v.toNat true=a8Q b l:=(if_pos h).symm
theorem b9h {b:Bk} {l:List Bool} (h:¬ b.e=2):a8Q b l=l:=if_neg h
abbrev atL (b:Bk) (l:List Bool) (k:Nat):List Bool:=b2Z (b.ins.drop (b.ins.length-k)) (a8Q b l)
theorem b8j (b:Bk) (l:List Bool) (k:Nat):(atL b l k).length=l.length:=by rw[atL,a4n,a3E]
theorem a3X (b:Bk) (l:List Bool) {k:Nat} (h:k<b.ins.length):b5g (b.ins.getD (b.ins.length-k-1) default) (atL b l k)=atL b l (k+1):=by
 unfold atL;rw[show b.ins.length-(k+1)=b.ins.length-k-1 by omega,c1R _ _ (show b.ins.length-k-1<b.ins.length by omega),show b.ins.length-k-1+1=b.ins.length-k by omega]
theorem b5n (b:Bk) (l:List Bool):atL b l 0=a8Q b l:=by simp[atL,b2Z]
theorem c5J (b:Bk) (l:List Bool):atL b l b.ins.length=a3D b l:=by simp[atL,a3D]
set_option maxRecDepth 10000
open Go.V Go.ChangeShapes Go.WideShapes Go.ChangeAt Go.RowKit
theorem Tryz.own:ownKnob Tryz.prog.godebug=none:=by kernel_rfl
theorem Tryz.laidOut:laidOutB Tryz.prog=true:=by kernel_rfl
set_option maxRecDepth 10000
open Go.V Go.ChangeShapes Go.WideShapes Go.ChangeAt Go.RowKit
def W32 (n:Int):Prop:=0≤n∧n<4294967296
abbrev c5K:Sh:=.agg [.int .i64,.int .i64,.int .i64,.int .i64,.int .i64,.int .i64,.int .i64,.int .u32]
abbrev c9d:Sh:=.agg [.sl 8 64 c5K,.int .i64,.int .i64,.int .i64,.int .i64]
abbrev c9e:Sh:=.agg [.int .i64,.sl 5 56 c9d]
theorem c9f {x:AV} (h:Sh.fit (.int .u32) x):∃ n:Int,x=U32 n∧W32 n:=by
 simp only[Sh.fit]at h;obtain ⟨n,rfl,h⟩:=h;simp[Lit.wf,IntKind.min,IntKind.max,IntKind.bits,IntKind.signed]at h;exact ⟨n,rfl,by unfold W32;omega⟩
structure TacOk (t:Tac):Prop where
 op:a8H t.op
 d:a8H t.d
 a:a8H t.a
 b:a8H t.b
 k:a8H t.k
 base:a8H t.base
 size:a8H t.size
 n:W32 t.n
theorem c7z {x:AV} (h:Sh.fit c5K x):∃ t:Tac,x=b5d t∧TacOk t:=by
 simp only[c5K,Sh.fit.eq_5,Sh.fitL]at h;obtain ⟨ys,rfl,a,_,rfl,ha,b,_,rfl,hb,c,_,rfl,hc,d,_,rfl,hd,e,_,rfl,he,f,_,rfl,hf,g,_,rfl,hg,i,_,rfl,hi,rfl⟩:=h;obtain ⟨_,rfl,k1⟩:=a3c ha;obtain ⟨_,rfl,k2⟩:=a3c hb;obtain ⟨_,rfl,k3⟩:=a3c hc;obtain ⟨_,rfl,k4⟩:=a3c hd;obtain ⟨_,rfl,k5⟩:=a3c he;obtain ⟨_,rfl,k6⟩:=a3c hf;obtain ⟨_,rfl,k7⟩:=a3c hg;obtain ⟨_,rfl,k8⟩:=c9f hi;exact ⟨⟨_,_,_,_,_,_,_,_⟩,rfl,k1,k2,k3,k4,k5,k6,k7,k8⟩
structure BkOk (b:Bk):Prop where
 len:b.ins.length≤140737488355328
 ins:∀ t ∈ b.ins,TacOk t
 e:a8H b.e
 v:a8H b.v
 to:a8H b.to
 el:a8H b.el
theorem c9g {x:AV} (h:Sh.fit c9d x):∃ b:Bk,x=bkA b∧BkOk b:=by
 simp only[c9d,Sh.fit.eq_5,Sh.fitL]at h;obtain ⟨ys,rfl,a,_,rfl,ha,b,_,rfl,hb,c,_,rfl,hc,d,_,rfl,hd,e,_,rfl,he,rfl⟩:=h;obtain ⟨_,rfl,k2⟩:=a3c hb;obtain ⟨_,rfl,k3⟩:=a3c hc;obtain ⟨_,rfl,k4⟩:=a3c hd;obtain ⟨_,rfl,k5⟩:=a3c he;simp only[Sh.fit.eq_4]at ha;obtain ⟨xs,rfl,_,h1,h2⟩:=ha;obtain ⟨l,rfl,h3⟩:=b4P (f:=b5d) (p:=TacOk) (fun y hy=>c7z hy) xs h2;exact ⟨⟨l,_,_,_,_⟩,rfl,by simp[reachBytes]at h1 ⊢;omega,h3,k2,k3,k4,k5⟩
structure BfOk (f:BF):Prop where
 r:a8H f.regs
 len:f.bks.length≤140737488355328
 bk:∀ b ∈ f.bks,BkOk b
theorem c9h {x:AV} (h:Sh.fit c9e x):∃ f:BF,x=bfA f∧BfOk f:=by
 simp only[c9e,Sh.fit.eq_5,Sh.fitL]at h;obtain ⟨ys,rfl,a,_,rfl,ha,e,_,rfl,he,rfl⟩:=h;obtain ⟨r,rfl,k1⟩:=a3c ha;simp only[Sh.fit.eq_4]at he;obtain ⟨xs,rfl,_,h1,h2⟩:=he;obtain ⟨l,rfl,h3⟩:=b4P (f:=bkA) (p:=BkOk) (fun y hy=>c9g hy) xs h2;exact ⟨⟨r,l⟩,rfl,k1,by simp[reachBytes]at h1 ⊢;omega,h3⟩
structure LOK (L:LD):Prop where
 i:L.inn.length≤140737488355328
 o:L.out.length≤140737488355328
 ir:∀ l ∈ L.inn,l.length≤140737488355328
 or:∀ l ∈ L.out,l.length≤140737488355328
theorem b6X {s:Sh} {ss:List Sh} {ys:List AV} (h:Sh.fitL (s::ss) ys):∃ y ys',ys=y::ys'∧s.fit y∧Sh.fitL ss ys':=by
 simp only[Sh.fitL]at h;exact h
set_option maxRecDepth 10000
open Go.V
def c8P (f:BF) (L:LD) (b:Nat):Bool:=(nxt (f.bk b)).all (fun k=>c1Q (L.inn.getD k.toNat default) (L.out.getD b default)) && c1Q (a3D (f.bk b) (L.out.getD b default)) (L.inn.getD b default)
def c1U (f:BF) (L:LD):Bool:=c1A f L && (List.range f.n).all (c8P f L)
theorem b4s {f:BF} (hf:Fine f) (L:LD):c1U f L=true↔ClosedP f L:=by
 unfold c1U;rw[Bool.and_eq_true,c0i hf.r0,List.all_eq_true];have hrow:∀ (m:List (List Bool)) b,m.getD b default=m.getD b []:=fun _ _=>rfl;refine ⟨fun ⟨hs,h⟩=>⟨hs,⟨fun b hb k hk v hv h1=>?_,fun b hb v hv h1=>?_⟩⟩,fun h=>⟨h.sz,fun b hb=>?_⟩⟩
 ·have:=h b (List.mem_range.2 hb);unfold c8P at this;rw[Bool.and_eq_true,List.all_eq_true]at this;have hk':=hf.to _ (BF.mem hb) k hk;exact of_decide_eq_true (this.1 k hk) v (by rw[hrow,hs.il (show k.toNat<f.n by unfold BF.n;omega)];exact hv) h1
 ·have:=h b (List.mem_range.2 hb);unfold c8P at this;rw[Bool.and_eq_true,List.all_eq_true]at this;refine of_decide_eq_true this.2 v (by rw[a3e,hrow,hs.ol hb];exact hv) ?_;rw[hrow,a4X hf hb _ (hs.ol hb) hv];exact h1
 ·have hb:=List.mem_range.1 hb;unfold c8P;rw[Bool.and_eq_true,List.all_eq_true];refine ⟨fun k hk=>?_,?_⟩
  ·have hk':=hf.to _ (BF.mem hb) k hk;refine decide_eq_true fun v hv h1=>h.cl.way b hb k hk v ?_ h1;rw[hrow,h.sz.il (show k.toNat<f.n by unfold BF.n;omega)]at hv;exact hv
  ·refine decide_eq_true fun v hv h1=>h.cl.ahead b hb v ?_ ?_
   ·rw[a3e,hrow,h.sz.ol hb]at hv;exact hv
   ·rw[a3e,hrow,h.sz.ol hb]at hv;have:=a4X hf hb _ (h.sz.ol hb) hv;rw[hrow]at h1;rw[h1]at this;exact this.symm
theorem Fine.regs {f:BF} (hf:Fine f) {b:Nat} (hb:b<f.n) {l:List Bool} (hl:l.length=f.r):(∀ t ∈ (f.bk b).ins,RegT t l.length)∧((f.bk b).e=2→0≤(f.bk b).v∧(f.bk b).v<l.length):=by
 have h0:=hf.r0;have e:(l.length:Int)=f.regs:=by rw[hl];unfold BF.r;omega
 rw[e];exact ⟨hf.ins _ (BF.mem hb),hf.v _ (BF.mem hb)⟩
set_option maxRecDepth 10000
open Go.V
theorem b9i {n:Nat} {H:List VObj} {nx id s ty:Nat} {m:List (List Bool)} {len:Nat} (hid:n≤id) (ho:H[id]? = some ⟨s,ty,1,m.map a7m⟩) (hlen:len=m.length):Frz n H nx (.ref id s 0 len) (a5n m) :=
 b2F hid ho hlen (fun _=>rfl) fun _ _=>Frz.pure rfl
set_option maxRecDepth 10000
open Go.V
abbrev U64 (n:Int):AV:=.val (.int .u64 n)
def rl (r:Nat):Nat:=if r=0 then 0 else 1
def a0c (l:List Bool):List AV:=if l.length=0 then [] else [U64 (wd l)]
theorem a0H {l:List Bool} (h:l.length≠0):a0c l=[U64 (wd l)]:=if_neg h
theorem a4p {r:Nat} (h:r≠0):rl r=1:=if_neg h
theorem c0l (l:List Bool):(a0c l).length=rl l.length:=by
 unfold a0c rl;split<;>rfl
theorem b3f {a:Nat} (h:a<2 ^ 64):IntKind.u64.wrap (a:Int)=a:=by
 rw[IntKind.wrap_u64];omega
theorem b4t {a:Nat}:BitVec.ofInt 64 (a:Int)=BitVec.ofNat 64 a:=by
 rw[BitVec.ofInt_natCast]
theorem c8Q {a b:Nat} (ha:a<2 ^ 64) (hb:b<2 ^ 64):IntKind.u64.wrap ((BitVec.ofInt 64 (a:Int) ||| BitVec.ofInt 64 (b:Int)).toNat:Nat)=((a ||| b:Nat):Int):=by
 rw[b4t,b4t];have e:((BitVec.ofNat 64 a ||| BitVec.ofNat 64 b).toNat)=a ||| b:=by
  rw[BitVec.toNat_or,BitVec.toNat_ofNat,BitVec.toNat_ofNat,Nat.mod_eq_of_lt ha,Nat.mod_eq_of_lt hb]
 have h:a ||| b<2 ^ 64:=Nat.or_lt_two_pow ha hb
 show IntKind.u64.wrap (((BitVec.ofNat 64 a ||| BitVec.ofNat 64 b).toNat:Nat):Int)=_;rw[e,b3f h]
def c0K (a b:List Bool):List Bool:=(List.range a.length).map fun v=>gB a v && !gB b v
theorem b2k (a b:List Bool):(c0K a b).length=a.length:=by simp[c0K]
theorem c1V (a b:List Bool) {v:Nat} (hv:v<a.length):gB (c0K a b) v=(gB a v && !gB b v):=by
 unfold c0K;rw[gB,List.getD];simp[hv]
theorem b5o {a b:List Bool} (ha:a.length≤64) (hb:b.length≤64):IntKind.u64.wrap ((BitVec.ofInt 64 (wd a:Int) &&& ~~~BitVec.ofInt 64 (wd b:Int)).toNat:Nat)=((wd (c0K a b):Nat):Int):=by
 rw[b4t,b4t];have e:(BitVec.ofNat 64 (wd a) &&& ~~~BitVec.ofNat 64 (wd b)).toNat=wd (c0K a b):=c3v fun i=>by
  rw[BitVec.testBit_toNat,BitVec.getLsbD_and,BitVec.getLsbD_not,BitVec.getLsbD_ofNat,BitVec.getLsbD_ofNat,a7E,a7E];rcases Nat.lt_or_ge i a.length with h | h
  ·rw[c1V _ _ h];have:i<64:=by omega
   simp[this]
  ·rw[b1K (l:=a) h,b1K (l:=c0K a b) (by rw[b2k];exact h)];simp
 show IntKind.u64.wrap (((BitVec.ofNat 64 (wd a) &&& ~~~BitVec.ofNat 64 (wd b)).toNat:Nat):Int)=_;rw[e,b3f (a5G (by rw[b2k];exact ha))]
theorem c3D {i:Nat} (h:i<64):IntKind.u64.wrap (1*2 ^ (min i 64))=((2 ^ i:Nat):Int):=by
 rw[Nat.min_eq_left (by omega),Int.one_mul];have h2:2 ^ i<2 ^ 64:=Nat.pow_lt_pow_right (by decide) h;have:=b3f h2;rw[← this];congr 1
theorem c4P {l:List Bool} {i:Nat} (hi:i<l.length):2 ^ i=wd ((List.replicate l.length false).set i true):=by
 have:=c1K (l:=List.replicate l.length false) (i:=i) (by simpa using hi);rw[b8g,Nat.zero_or]at this;exact this
theorem c1W {l:List Bool} {i:Nat} (hi:i<l.length):c0K l ((List.replicate l.length false).set i true)=l.set i false:=a7C (by simp[c0K]) fun v hv=>by
 rw[b2k]at hv;rw[c1V _ _ hv,a8u _ _ _ _ (by simpa using hv),a8u _ _ _ _ hv,b6T];by_cases h:i=v
 ·rw[if_pos h,if_pos h];simp
 ·rw[if_neg h,if_neg h];simp
def KeepT (tys:List Nat) (H H':List VObj):Prop:=∀ (k:Nat) (ob:VObj),H[k]? = some ob→ob.ty ∉ tys→H'[k]? = some ob
theorem KeepT.refl (tys:List Nat) (H:List VObj):KeepT tys H H:=fun _ _ h _=>h
theorem KeepT.trans {ts:List Nat} {A B C:List VObj} (h:KeepT ts A B) (k:KeepT ts B C):KeepT ts A C:=fun i ob h1 h2=>k i ob (h i ob h1 h2) h2
theorem KeepT.mono {ts us:List Nat} {A B:List VObj} (h:KeepT ts A B) (hs:∀ t ∈ ts,t ∈ us):KeepT us A B:=fun i ob h1 h2=>h i ob h1 fun e=>h2 (hs _ e)
theorem KeepT.app (ts:List Nat) (H R:List VObj):KeepT ts H (H++R):=fun k ob h _=>by rw[List.getElem?_append_left (List.getElem?_eq_some_iff.1 h).1];exact h
theorem KeepT.set {ts:List Nat} {H:List VObj} {k:Nat} {ob ob':VObj} (h:H[k]? = some ob) (ht:ob.ty ∈ ts):KeepT ts H (H.set k ob'):=fun i o h1 h2=>by
 have hne:k≠i:=fun e=>by subst e;rw[h]at h1;cases h1;exact h2 ht
 rw[List.getElem?_set,if_neg hne];exact h1
theorem a2L {H:List VObj} {i j:Nat} {a b:VObj} (h:H[i]? = some a) (k:H[j]? = some b) (ht:a.ty≠b.ty):(i=j)=False:=eq_false fun e=>by subst e;rw[h]at k;cases k;exact ht rfl
theorem a1l {H:List VObj} {i:Nat} {a:VObj} (h:H[i]? = some a):(i<H.length)=True:=eq_true (List.getElem?_eq_some_iff.1 h).1
theorem a2p {H:List VObj} {i:Nat} {a:VObj} (h:H[i]? = some a):(H.length=i)=False:=eq_false fun e=>by have:=(List.getElem?_eq_some_iff.1 h).1;omega
theorem b5p {H:List VObj} {i:Nat} {a:VObj} (h:H[i]? = some a):(H.length+1=i)=False:=eq_false fun e=>by have:=(List.getElem?_eq_some_iff.1 h).1;omega
theorem b0q {α:Type} {l:List α} {i:Nat} {x:α} (h:l[i]? = some x):l.set i x=l:=by
 obtain ⟨hlt,rfl⟩:=List.getElem?_eq_some_iff.1 h;exact List.set_getElem_self hlt
theorem a0N {H:List VObj} {k:Nat} {a x:VObj} (h:H[k]? = some a):(H.set k x)[k]? = some x:=by
 rw[List.getElem?_set_self (List.getElem?_eq_some_iff.1 h).1]
theorem a0O {H:List VObj} {k j:Nat} {x:VObj} (h:k≠j):(H.set k x)[j]? = H[j]?:=by rw[List.getElem?_set_ne h]
theorem a2q {n b:Nat} (h:b<n):(List.range n).getD b default=b:=by simp[List.getD,h]
section
variable {H R:List VObj} {i:Nat} {x:VObj}
theorem a8S:(H++R)[H.length+i]? = R[i]?:=by rw[List.getElem?_append_right (by omega)];congr 1;omega
theorem a5J:(H++R)[H.length]? = R[0]?:=by rw[List.getElem?_append_right (by omega),Nat.sub_self]
theorem b8k:(H++R).set (H.length+i) x=H++R.set i x:=by rw[List.set_append_right _ _ (by omega)];congr 2;omega
theorem a9C:(H++R).set H.length x=H++R.set 0 x:=by rw[List.set_append_right _ _ (by omega),Nat.sub_self]
theorem a0p {a:VObj} (h:H[i]? = some a):∀ R,(H++R)[i]? = some a:=fun R=>by rw[List.getElem?_append_left (List.getElem?_eq_some_iff.1 h).1];exact h
end
theorem b2l (H R:List VObj):Stab (fun _=>True) 1 H (H++R):=fun id ob _ h=>⟨ob,by rw[List.getElem?_append_left (List.getElem?_eq_some_iff.1 h).1];exact h,rfl,rfl⟩
theorem stab_set {H:List VObj} {k:Nat} {ob ob':VObj} (h:H[k]? = some ob) (hs:ob'.s=ob.s) (hz:ob'.sz=ob.sz):Stab (fun _=>True) 1 H (H.set k ob'):=fun id o _ ho=>by
 rw[List.getElem?_set];by_cases e:k=id
 ·subst e;rw[h]at ho;cases ho;rw[if_pos rfl,if_pos (List.getElem?_eq_some_iff.1 h).1];exact ⟨_,rfl,hs,hz⟩
 ·rw[if_neg e];exact ⟨o,ho,rfl,rfl⟩
theorem c0m (l:List Bool):(a0c l).all AV.one=true:=by unfold a0c;split<;>rfl
theorem b5q {n:Nat} {H:List VObj} {nx id s ty len:Nat} {l:List Bool} (hid:n≤id) (ho:H[id]? = some ⟨s,ty,1,a0c l⟩) (hlen:len=rl l.length):Frz n H nx (.ref id s 0 len) (.imm 1 (a0c l)):=by
 refine b6u hid ho (by rw[c0l,hlen]) rfl (c0m l) fun i x y hx hy=>?_;rw[hx]at hy;cases hy;unfold a0c at hx;split at hx
 ·simp at hx
 ·cases i with
  | zero=>simp at hx;subst hx;exact Frz.pure rfl
  | succ i=>simp at hx
def b6Y (l:List Bool) (k:Nat):List Bool:=(List.range l.length).map fun v=>if v<k then gB l v else false
theorem a7T (l:List Bool) (k:Nat):(b6Y l k).length=l.length:=by simp[b6Y]
theorem b6Z (l:List Bool):b6Y l 0=List.replicate l.length false:=by
 refine List.ext_getElem (by simp[b6Y]) fun i h1 h2=>?_;simp[b6Y]
theorem b9j (l:List Bool) {k:Nat} (hk:k<l.length):(b6Y l k).set k (gB l k)=b6Y l (k+1):=by
 refine List.ext_getElem (by simp[b6Y]) fun i h1 h2=>?_;rw[List.getElem_set];simp only[b6Y,List.getElem_map,List.getElem_range];by_cases h:k=i
 ·subst h;simp
 ·rw[if_neg h];by_cases h3:i<k
  ·rw[if_pos h3,if_pos (by omega)]
  ·rw[if_neg h3,if_neg (by omega)]
theorem b9k (l:List Bool):b6Y l l.length=l:=a7C (a7T _ _) fun v hv=>by
 rw[a7T]at hv;unfold b6Y;rw[gB,List.getD];simp[hv]
abbrev a7G (f:BF):AV:=.imm 1 (f.bks.map fun b=>a2t (nxt b))
theorem c1X (I:List (List Bool)) (o:List Bool) (ks:List Int) {j:Nat} (hj:j<ks.length):c0j I o (ks.take (j+1))=orL (c0j I o (ks.take j)) (I.getD (ks.getD j default).toNat default):=by
 have e:ks.take (j+1)=ks.take j++[ks.getD j default]:=by rw[List.take_add_one];simp[List.getD,List.getElem?_eq_getElem hj]
 rw[e];simp[c0j]
set_option maxRecDepth 10000
open Go.V
theorem c7A {l:List Bool} {v:Nat} (hv:v<64) (hl:l.length≤64):IntKind.u64.wrap ((BitVec.ofInt 64 ((wd l:Int).fdiv (2 ^ min v 64)) &&& BitVec.ofInt 64 1).toNat:Nat)=if gB l v then 1 else 0:=by
 rw[Nat.min_eq_left (by omega),Int.fdiv_eq_ediv_of_nonneg _ (by exact Int.le_of_lt (Int.pow_pos (by decide)))];have e:((wd l:Int) / 2 ^ v)=((wd l >>> v:Nat):Int):=by rw[Nat.shiftRight_eq_div_pow];simp
 have hlt:wd l >>> v<2 ^ 64:=Nat.lt_of_le_of_lt (Nat.shiftRight_le _ _) (a5G hl);rw[e,b4t,show BitVec.ofInt 64 1=BitVec.ofNat 64 1 from rfl,BitVec.toNat_and,BitVec.toNat_ofNat,BitVec.toNat_ofNat,Nat.mod_eq_of_lt hlt,show 1 % 2 ^ 64=1 by decide,Nat.and_one_is_mod];have h2:=a7E l v;rw[Nat.testBit_eq_decide_div_mod_eq,← Nat.shiftRight_eq_div_pow]at h2;rw[b3f (Nat.lt_of_lt_of_le (Nat.mod_lt _ (by decide)) (by decide)),← h2];rcases Nat.mod_two_eq_zero_or_one (wd l >>> v) with g | g<;>rw[g]<;>rfl
theorem b3g (r:Nat) (hr:r≤64) (H:List VObj) (nx:Nat) (C:AV→List VObj→Nat→Prop)
 (hC:C (.ref H.length nx 0 (rl r)) (H++[⟨nx,108,1,a0c (List.replicate r false)⟩]) (nx+1)):VCall Tryz.prog 35 [I r] H nx C:=by
 refine VCall.of_body a1g b2P (by simp) ?_;have e1:IntKind.i64.wrap ((r:Int)+63)=r+63:=a0e (by omega) (by omega);have e2:((r:Int)+63).tdiv 64=rl r:=by
  unfold rl;split
  ·rename_i h;subst h;rfl
  ·rw[Int.tdiv_eq_ediv_of_nonneg (by omega)];omega
 have e3:IntKind.i64.wrap (rl r:Int)=rl r:=by unfold rl;split<;>rfl
 have e4:rl r≤1:=by unfold rl;split<;>decide
 simp only[go_sem,a7u,e1,e2,e3]
 repeat ((with_reducible refine And.intro ?_ ?_);· first | omega | decide)
 rw[show (List.replicate (rl r) [AV.val (.int .u64 0)]).flatten=a0c (List.replicate r false) by
  unfold rl a0c;by_cases h:r=0
  ·subst h;rfl
  ·rw[if_neg h,if_neg (by simpa using h),b8g];rfl]
 exact hC
theorem c3E (l:List Bool) (j:Nat) (H:List VObj) (nx k s m:Nat) (hm:m=rl l.length) (hl:l.length≤64) (hj:j<l.length) (ho:H[k]? = some ⟨s,108,1,a0c l⟩) (C:AV→List VObj→Nat→Prop)
 (hC:C (B (gB l j)) H nx):VCall Tryz.prog 18 [.ref k s 0 m,I j] H nx C:=by
 refine VCall.of_body a1g b1T (by simp) ?_;subst hm;have hne:l.length≠0:=by omega
 have e1:((j:Int)).tdiv 64=0:=by rw[Int.tdiv_eq_ediv_of_nonneg (by omega)];omega
 have e2:((j:Int)).tmod 64=j:=by rw[Int.tmod_eq_emod_of_nonneg (by omega)];omega
 have e4:IntKind.i64.wrap 0=0:=rfl;have e5:IntKind.i64.wrap (j:Int)=j:=a0e (by omega) (by omega);have e6:=c7A (l:=l) (v:=j) (by omega) hl;rw[a0H hne]at ho;cases hg:gB l j
 all_goals
  rw[hg]at hC e6;simp only[go_sem,a5U,e1,e2,e4,e5,ho,a4p hne]
  repeat ((with_reducible refine And.intro ?_ ?_);· first | omega | decide)
  have h7:C (B ((IntKind.u64.wrap ((BitVec.ofInt 64 ((wd l:Int).fdiv (2 ^ min j 64)) &&& BitVec.ofInt 64 1).toNat:Nat):Int) != 0)) H nx:=by rw[e6];exact hC
  exact h7
theorem a8w (l:List Bool) (i:Int) (H:List VObj) (nx k s m:Nat) (hm:m=rl l.length) (hl:l.length≤64) (hi:0≤i∧i<l.length) (ho:H[k]? = some ⟨s,108,1,a0c l⟩) (C:AV→List VObj→Nat→Prop)
 (hC:∀ r,C r (H.set k ⟨s,108,1,a0c (l.set i.toNat true)⟩) nx):VCall Tryz.prog 38 [.ref k s 0 m,I i] H nx C:=by
 refine VCall.of_body a1g b1U (by simp) ?_;subst hm;obtain ⟨j,rfl⟩:∃ j:Nat,i=j:=⟨i.toNat,by omega⟩
 have hj:j<l.length:=by omega
 have hne:l.length≠0:=by omega
 have e1:((j:Int)).tdiv 64=0:=by rw[Int.tdiv_eq_ediv_of_nonneg (by omega)];omega
 have e2:((j:Int)).tmod 64=j:=by rw[Int.tmod_eq_emod_of_nonneg (by omega)];omega
 have e3:=c3D (show j<64 by omega);have e4:IntKind.i64.wrap 0=0:=rfl;have e5:IntKind.i64.wrap (j:Int)=j:=a0e (by omega) (by omega);have e6:=c8Q (a5G hl) (show 2 ^ j<2 ^ 64 from Nat.pow_lt_pow_right (by decide) (by omega));rw[c1K hj]at e6;have hC':=hC;rw[a0H (by simpa using hne),Int.toNat_natCast]at hC';rw[a0H hne]at ho;simp only[go_sem,a5V,e1,e2,e3,e4,e5,ho,a4p hne]
 repeat ((with_reducible refine And.intro ?_ ?_);· first | omega | decide)
 have h7:∀ r,C r (H.set k ⟨s,108,1,[U64 (IntKind.u64.wrap ((BitVec.ofInt 64 (wd l:Int) ||| BitVec.ofInt 64 ((2 ^ j:Nat):Int)).toNat:Nat))]⟩) nx:=fun r=>by rw[e6];exact hC' _
 exact h7 _
theorem b5r (l:List Bool) (i:Int) (H:List VObj) (nx k s m:Nat) (hm:m=rl l.length) (hl:l.length≤64) (hi:0≤i∧i<l.length) (ho:H[k]? = some ⟨s,108,1,a0c l⟩) (C:AV→List VObj→Nat→Prop)
 (hC:∀ r,C r (H.set k ⟨s,108,1,a0c (l.set i.toNat false)⟩) nx):VCall Tryz.prog 40 [.ref k s 0 m,I i] H nx C:=by
 refine VCall.of_body a1g b0k (by simp) ?_;subst hm;obtain ⟨j,rfl⟩:∃ j:Nat,i=j:=⟨i.toNat,by omega⟩
 have hj:j<l.length:=by omega
 have hne:l.length≠0:=by omega
 have e1:((j:Int)).tdiv 64=0:=by rw[Int.tdiv_eq_ediv_of_nonneg (by omega)];omega
 have e2:((j:Int)).tmod 64=j:=by rw[Int.tmod_eq_emod_of_nonneg (by omega)];omega
 have e3:=c3D (show j<64 by omega);have e4:IntKind.i64.wrap 0=0:=rfl;have e5:IntKind.i64.wrap (j:Int)=j:=a0e (by omega) (by omega);have e6:=b5o (b:=(List.replicate l.length false).set j true) hl (by simpa using hl);rw[← c4P hj,c1W hj]at e6;have hC':=hC;rw[a0H (by simpa using hne),Int.toNat_natCast]at hC';rw[a0H hne]at ho;simp only[go_sem,a5k,e1,e2,e3,e4,e5,ho,a4p hne]
 repeat ((with_reducible refine And.intro ?_ ?_);· first | omega | decide)
 have h7:∀ r,C r (H.set k ⟨s,108,1,[U64 (IntKind.u64.wrap ((BitVec.ofInt 64 (wd l:Int) &&& ~~~BitVec.ofInt 64 ((2 ^ j:Nat):Int)).toNat:Nat))]⟩) nx:=fun r=>by rw[e6];exact hC' _
 exact h7 _
theorem c7B {a b:List Bool} (hl:a.length=b.length) (ha:a.length≤64):IntKind.u64.wrap ((BitVec.ofInt IntKind.u64.bits (wd a:Int) ||| BitVec.ofInt IntKind.u64.bits (wd b:Int)).toNat:Nat)=((wd (orL a b):Nat):Int):=by
 rw[← c7w hl];exact c8Q (a5G ha) (a5G (by omega))
theorem a5K (x y:List Bool) (H:List VObj) (nx k s k2 s2 m:Nat) (hm:m=rl x.length) (hl:x.length≤64) (hxy:x.length=y.length) (hx:H[k]? = some ⟨s,108,1,a0c x⟩) (hy:H[k2]? = some ⟨s2,108,1,a0c y⟩) (hne:k≠k2) (C:AV→List VObj→Nat→Prop)
 (hC:C (.tup []) (H.set k ⟨s,108,1,a0c (orL x y)⟩) nx):VCall Tryz.prog 37 [.ref k s 0 m,.ref k2 s2 0 m] H nx C:=by
 refine VCall.of_body a1g a8I (by simp) ?_;subst hm;have lk:=a1l hx;have e5:(k=k2)=False:=eq_false hne;have hr1:rl x.length≤1:=by unfold rl;split<;>omega
 simp only[go_sem,a4e,hy];refine a0r (fun i:Nat=>⟨[(0,.ref k s 0 (rl x.length)),(6,.ref k2 s2 0 (rl x.length)),(7,I (rl x.length)),(8,I i)],H.set k ⟨s,108,1,a0c (if i=0 then x else orL x y)⟩,nx⟩) (fun i=>i≤rl x.length) (fun i=>rl x.length-i) 0
  (Wk.mk (by simp[a0a]) ⟨[],by rw[List.append_nil,if_pos rfl];exact (b0q hx).symm⟩ (Nat.le_refl _)) (by omega) ?_
 intro i hi;by_cases h1:i<rl x.length
 ·have h0:x.length≠0:=fun e=>by unfold rl at h1;rw[if_pos e]at h1;omega
  have hi0:i=0:=by omega
  subst hi0;have e6:=c7B (a:=x) (b:=y) hxy hl;have e7:a0c x=[U64 (wd x)]:=a0H (by omega);have e8:a0c y=[U64 (wd y)]:=a0H (by omega);have e9:a0c (orL x y)=[U64 (wd (orL x y))]:=a0H (by rw[a2j];omega);rw[if_pos rfl,e7];rw[e8]at hy
  simp only[↓a6l,↓b0H,↓b0I,↓a6y,↓b0J,↓a4x,↓a6m,↓b0K,↓a6n,↓a4z,↓a2B,↓a2C,↓a4A,↓a6p,↓a2D,↓a4B,↓a6q,↓a6r,↓a0a,↓a4C,↓a4D,↓a3t,↓a3u,↓a3r,↓a4y,↓a6o,↓a3s,↓b0P,↓a4G,↓a3w,↓b0Q,↓a4H,↓b0R,↓a6z,↓a6A,↓a4I,↓a6B,↓a6C,↓a6D,↓a4J,↓a6E,↓a6F,↓b0S,↓a4K,↓b0T,↓a6G,↓b0U,↓a6H,↓a6I,↓a6J,↓a6K,↓a6L,↓a6M,↓a6N,↓a6O,↓a6P,↓a6Q,↓a6R,↓a6S,↓a4L,undef,K.xtra,EOp.adds,a2A,↓a8D,↓b7O,↓VR.wp,↓VRs,a6d,b3R,c0M,unR,c0L,b2r,b7H,a1f,a0F,a5w,a3m,a1i,evs,a0V,AV.cells,AV.one,AV.laid,Value.oneCell',Nat.reduceEqDiff,Nat.reduceAdd,Nat.reduceMul,↓reduceIte,↓dreduceIte,true_and,and_true,List.cons_append,List.nil_append,List.length_map,List.length_cons,List.length_nil,List.getElem?_cons_zero,List.getElem?_cons_succ,List.map_cons,List.map_nil,Bool.not_true,Bool.not_false,forall_const,reduceCtorEq,false_implies,List.all_cons,List.all_nil,Bool.and_true,Bool.and_self,↓a4F,↓a3v,↓a6s,↓a6t,↓a1j,↓a2E,decide_eq_true_eq,decide_eq_false_iff_not,Int.toNat_natCast,bne_iff_ne,ne_eq,Bool.not_eq_true',Bool.not_eq_false',bne_eq_false_iff_eq,beq_iff_eq,beq_eq_false_iff_ne,implies_true,List.getD_cons_zero,List.getD_cons_succ,Bool.false_eq_true,false_or,or_false,true_or,or_true,Int.natCast_nonneg,Int.toNat_zero,Int.toNat_one,List.set_cons_zero,List.set_cons_succ,List.take_zero,List.take_succ_cons,List.take_nil,List.drop_zero,List.drop_succ_cons,List.drop_nil,List.append_nil,Nat.zero_add,Nat.add_zero,Nat.mul_one,Nat.zero_mul,↓b6m,↓a6T,↓b6n,↓b0V,↓b0W,↓a6U,↓b0X,↓b0Y,↓b0Z,↓a6V,↓b1a,↓b1b,↓b6o,↓a6W,↓b6p,↓b1c,↓b6q,↓b1d,↓b1e,↓b1f,↓b1g,↓b1h,↓b1i,↓b1j,↓b1k,↓b1l,↓a6X,↓a4M,↓a4N,↓a6Y,↓a6Z,↓a7a,↓a3x,↓a4O,b1m,a7b,a4P,a3y,cv,Nat.reduceLeDiff,Nat.reduceLT,Nat.le_refl,Nat.reduceSub,Int.reduceToNat,Int.reduceLE,Int.reduceLT,not_true_eq_false,not_false_eq_true,decide_true,decide_false,Bool.true_eq_false,↓b0L,↓b0M,↓b0N,↓b0O,↓a6u,↓a6v,↓a6w,↓a6x,a2O,a0E,a0x,a8g,Old,b7M,↓a4Q,↓a7g,↓b1n,↓b1o,↓b1p,↓b6r,↓b6s,↓a7h,↓a7i,↓a7l,↓b1q,↓a7j,↓a7k,↓b1r,↓b1s,↓b1t,↓b1u,↓b1v,↓a7c,↓a7d,↓a4R,↓a7e,↓a7f,↓a3Q,↓a3z,↓a2F,b1w,a2G,a3A,a2H,a4S,c4H,Bool.not_eq_true,Bool.not_eq_false,Classical.not_not,hy,b0m,b0n,a4p h0,Int.natCast_zero,Nat.cast_one',List.getElem?_set,e5,lk,e6]
  repeat ((with_reducible refine And.intro ?_ ?_);· first | omega | decide)
  refine ⟨1,by omega,by omega,Wk.mk (by simp[a0a,a4p h0];decide) ⟨[],by simp[List.set_set,e9]⟩ (Nat.le_refl _)⟩
 ·obtain rfl:i=rl x.length:=by omega
  simp only[go_sem,eq_false (show ¬ (rl x.length:Int)<rl x.length by omega)];by_cases h0:x.length=0
  ·have e7:a0c x=[]:=if_pos h0;have e9:a0c (orL x y)=[]:=if_pos (by rw[a2j];exact h0);rw[e9]at hC;rw[show a0c (if rl x.length=0 then x else orL x y)=[] by split<;>assumption];exact hC
  ·rw[if_neg (by rw[a4p h0];decide)];exact hC
theorem b7a (l:List Bool) (hl:l.length≤64) (H:List VObj) (nx:Nat) (C:AV→List VObj→Nat→Prop)
 (hC:∀ nx',C (.ref H.length nx 0 (rl l.length)) (H++[⟨nx,108,1,a0c l⟩]) nx'):VCall Tryz.prog 36 [a7m l] H nx C:=by
 refine VCall.of_body a1g b2Q (by simp) ?_;simp only[go_sem,a7v];refine b3g l.length hl H nx _ ?_;simp only[go_sem];refine a0r (fun k:Nat=>⟨[(3,.ref H.length nx 0 (rl l.length)),(9,a7m l),(10,I l.length),(11,I k)],H++[⟨nx,108,1,a0c (b6Y l k)⟩],nx+1⟩) (fun k=>k≤l.length) (fun k=>l.length-k) 0
  (Wk.mk (by simp[a0a]) ⟨[],by rw[b6Z];simp⟩ (Nat.le_refl _)) (Nat.zero_le _) ?_
 intro k hk;by_cases h:k<l.length
 ·have e0:l.getD k default=gB l k:=rfl;have hsl:=a7T l k;have hst:=b9j l h;cases hg:gB l k
  ·rw[hg]at hst;have hst2:b6Y l k=b6Y l (k+1):=by
    rw[← hst];refine a7C (by simp) fun v hv=>?_;rw[a7T]at hv;rw[a8u _ _ _ _ (by rw[a7T];exact hv)];split
    ·rename_i e;subst e;unfold b6Y;rw[gB,List.getD];simp[hv]
    ·rfl
   simp only[go_sem,e0,hg,eq_true (show (k:Int)<(l.length:Int) by omega)]
   repeat ((with_reducible refine And.intro ?_ ?_);· omega)
   rw[a0e (by omega) (by omega)];exact ⟨k+1,by omega,by omega,Wk.mk (by simp[a0a]) ⟨[],by rw[hst2];simp⟩ (Nat.le_refl _)⟩
  ·rw[hg]at hst;simp only[go_sem,e0,hg,eq_true (show (k:Int)<(l.length:Int) by omega)]
   repeat ((with_reducible refine And.intro ?_ ?_);· omega)
   refine a8w (b6Y l k) k _ _ H.length nx (rl l.length) (by rw[hsl]) (by omega) (by omega) (by simp) _ fun r=>?_;simp only[go_sem];rw[a0e (by omega) (by omega),hst];exact ⟨k+1,by omega,by omega,Wk.mk (by simp[a0a]) ⟨[],by simp⟩ (Nat.le_refl _)⟩
 ·obtain rfl:k=l.length:=by omega
  simp only[go_sem,eq_false (show ¬ (l.length:Int)<(l.length:Int) by omega)];rw[b9k];exact hC _
theorem c7c (T:List VObj) (x:VObj):(T++[x])[T.length]? = some x:=by simp
theorem c7C (T:List VObj) (x y:VObj):(T++[x]).set T.length y=T++[y]:=by simp
abbrev alA (pl:List Int):AV:=.agg [a2t pl]
def gP (pl:List Int) (v:Nat):Int:=pl.getD v default
def okP (n p:Int):Bool:=decide (-4000≤p∧p≠0∧p≤n) || decide (-4000≤p∧p<0)
theorem okP_iff {n p:Int}:okP n p=true↔(1≤p∧p≤n)∨(-4000≤p∧p≤-1):=by
 unfold okP;rw[Bool.or_eq_true,decide_eq_true_iff,decide_eq_true_iff];omega
def c1Y (pl:List Int) (regs n:Int):Bool:=decide ((pl.length:Int)=regs) && pl.all (okP n)
def c7D (pl:List Int) (row:List Bool):Bool:=decide (∀ i<row.length,∀ k<i,gB row i=true→gB row k=true→gP pl i≠gP pl k)
def c9i (t:Tac) (pl:List Int) (row:List Bool):Bool :=
 decide (∀ v<row.length,gB row v=true→¬ ((0≤a0n t∧(v:Int)≠a0n t∧gP pl v=gP pl (a0n t).toNat)∨(t.op=10∧0<gP pl v)))
def c5L (f:BF) (L:LD) (pl:List Int) (b:Nat):Bool:=(List.range (f.bk b).ins.length).all fun i=>c9i ((f.bk b).ins.getD i default) pl ((a5E (f.bk b) (L.out.getD b default)).getD i default)
def c4Q (f:BF) (L:LD) (pl:List Int) (n:Int):Bool:=c1U f L && c1Y pl f.regs n && c7D pl (L.inn.getD 0 default) && (List.range f.n).all (c5L f L pl)
structure AllocP (f:BF) (L:LD) (pl:List Int) (n:Int):Prop where
 cl:ClosedP f L
 len:pl.length=f.r
 ok:∀ v<f.r,(1≤gP pl v∧gP pl v≤n)∨(-4000≤gP pl v∧gP pl v≤-1)
 ap:∀ u<f.r,∀ v<f.r,u≠v→L.I 0 u=true→L.I 0 v=true→gP pl u≠gP pl v
 st:∀ b<f.n,∀ i<(f.bk b).ins.length,a0m ((f.bk b).ins.getD i default)→∀ v<f.r,thru1 ((f.bk b).ins.drop (i+1)) v (a5o (f.bk b) v (L.O b v))=true→v≠((f.bk b).ins.getD i default).d.toNat→gP pl v≠gP pl ((f.bk b).ins.getD i default).d.toNat
 ca:∀ b<f.n,∀ i<(f.bk b).ins.length,((f.bk b).ins.getD i default).op=10→∀ v<f.r,thru1 ((f.bk b).ins.drop (i+1)) v (a5o (f.bk b) v (L.O b v))=true→gP pl v<0
theorem a5L (b:Bk) (l:List Bool) {i:Nat} (hi:i<b.ins.length):(a5E b l).getD i default=b2Z (b.ins.drop (i+1)) (a8Q b l):=by
 unfold a5E;simp only[List.getD,List.getElem?_map,List.getElem?_range hi,Option.map_some,Option.getD_some]
theorem a9D {f:BF} (hf:Fine f) {b:Nat} (hb:b<f.n) {l:List Bool} (hl:l.length=f.r) {i:Nat} (hi:i<(f.bk b).ins.length) {v:Nat} (hv:v<f.r) :
 ((a5E (f.bk b) l).getD i default).length=f.r∧gB ((a5E (f.bk b) l).getD i default) v=thru1 ((f.bk b).ins.drop (i+1)) v (a5o (f.bk b) v (gB l v)):=by
 have hr:=hf.regs hb hl;rw[a5L _ _ hi,a4n,a3E];refine ⟨hl,?_⟩;rw[b7Z _ _ _ (fun t ht=>by rw[a3E];exact hr.1 t (List.mem_of_mem_drop ht)) (by rw[a3E,hl];exact hv),c1y _ _ _ (fun e=>(hr.2 e).1) (by rw[hl];exact hv)]
theorem b7b {f:BF} (hf:Fine f) {b:Nat} (hb:b<f.n) {l:List Bool} (hl:l.length=f.r) {i:Nat} (hi:i<(f.bk b).ins.length):((a5E (f.bk b) l).getD i default).length=f.r:=by
 rw[a5L _ _ hi,a4n,a3E];exact hl
theorem c7E {pl:List Int} {n:Int}:pl.all (okP n)=true↔∀ v<pl.length,(1≤gP pl v∧gP pl v≤n)∨(-4000≤gP pl v∧gP pl v≤-1):=by
 rw[List.all_eq_true];refine ⟨fun h v hv=>okP_iff.1 (h _ (a0q hv)),fun h p hp=>?_⟩;obtain ⟨i,hi,rfl⟩:=List.getElem_of_mem hp;have:=h i hi;unfold gP at this;rw[List.getD,List.getElem?_eq_getElem hi,Option.getD_some]at this;exact okP_iff.2 this
theorem c0n {f:BF} (hf:Fine f) (L:LD) (pl:List Int) (n:Int):c4Q f L pl n=true↔AllocP f L pl n:=by
 have hr0:=hf.r0;have hrr:(f.r:Int)=f.regs:=by unfold BF.r;omega
 have hn0:0<f.n:=List.length_pos_iff.2 hf.b0;unfold c4Q c1Y;simp only[Bool.and_eq_true,b4s hf,decide_eq_true_eq,c7E];rw[List.all_eq_true];simp only[List.mem_range];refine ⟨fun ⟨⟨⟨h1,h2,h3⟩,h4⟩,h5⟩=>?_,fun h=>⟨⟨⟨h.cl,by rw[h.len];exact hrr,by rw[h.len];exact h.ok⟩,?_⟩,fun b hb=>?_⟩⟩
 ·have hl:pl.length=f.r:=by omega
  have h4:=of_decide_eq_true h4;have hi0:(L.inn.getD 0 default).length=f.r:=h1.sz.il hn0;have hone:∀ b<f.n,∀ i<(f.bk b).ins.length,∀ v<f.r,thru1 ((f.bk b).ins.drop (i+1)) v (a5o (f.bk b) v (L.O b v))=true →
   ¬ ((0≤a0n ((f.bk b).ins.getD i default)∧(v:Int)≠a0n ((f.bk b).ins.getD i default)∧gP pl v=gP pl (a0n ((f.bk b).ins.getD i default)).toNat)∨(((f.bk b).ins.getD i default).op=10∧0<gP pl v)):=fun b hb i hi v hv h=>by
   have h6:=h5 b hb;unfold c5L at h6;rw[List.all_eq_true]at h6;have h7:=of_decide_eq_true (h6 i (List.mem_range.2 hi));have ho:(L.out.getD b default).length=f.r:=h1.sz.ol hb;obtain ⟨g1,g2⟩:=a9D hf hb ho hi hv;exact h7 v (by rw[g1];exact hv) (by rw[g2];exact h)
  refine ⟨h1,hl,fun v hv=>h3 v (by omega),fun u hu v hv hne a b=>?_,fun b hb i hi hs v hv h hne=>?_,fun b hb i hi hop v hv h=>?_⟩
  ·rcases Nat.lt_or_ge u v with h | h
   ·exact fun e=>h4 v (by rw[hi0];exact hv) u h b a e.symm
   ·exact h4 u (by rw[hi0];exact hu) v (by omega) a b
  ·intro e;have hss:a0n ((f.bk b).ins.getD i default)=((f.bk b).ins.getD i default).d:=if_pos hs;have hd:=(hf.ins _ (BF.mem hb) _ (a0q hi)).2 hs;exact hone b hb i hi v hv h (.inl ⟨by rw[hss];exact hd.1,by rw[hss];omega,by rw[hss];exact e⟩)
  ·have g1:=hone b hb i hi v hv h;have g2:=h3 v (by omega);rcases g2 with g2 | g2
   ·exact absurd (.inr ⟨hop,by omega⟩) g1
   ·omega
 ·refine decide_eq_true fun i hi k hk a b=>?_;have hi0:(L.inn.getD 0 default).length=f.r:=h.cl.sz.il hn0;rw[hi0]at hi;exact h.ap i hi k (by omega) (by omega) a b
 ·unfold c5L;rw[List.all_eq_true];intro i hi;have hi:=List.mem_range.1 hi;refine decide_eq_true fun v hv a=>?_;have ho:(L.out.getD b default).length=f.r:=h.cl.sz.ol hb;rw[b7b hf hb ho hi]at hv;obtain ⟨g1,g2⟩:=a9D hf hb ho hi hv;rw[g2]at a;rintro (⟨e1,e2,e3⟩ | ⟨e1,e2⟩)
  ·unfold a0n at e1 e2 e3;by_cases hs:a0m ((f.bk b).ins.getD i default)
   ·rw[if_pos hs]at e1 e2 e3;exact h.st b hb i hi hs v hv a (by omega) e3
   ·rw[if_neg hs]at e1;omega
  ·have:=h.ca b hb i hi e1 v hv a;omega
def a8x (pl:List Int):Int:=pl.foldl (fun n p=>if p<0∧n<IntKind.i64.wrap (-p) then IntKind.i64.wrap (-p) else n) 0
theorem b7c (pl:List Int) {k:Nat} (hk:k<pl.length):a8x (pl.take (k+1))=(if pl.getD k default<0∧a8x (pl.take k)<IntKind.i64.wrap (-(pl.getD k default)) then IntKind.i64.wrap (-(pl.getD k default)) else a8x (pl.take k)):=by
 unfold a8x;rw[List.take_add_one,List.foldl_append];simp[List.getD,List.getElem?_eq_getElem hk]
theorem c5M (n:Int) : -9223372036854775808≤IntKind.i64.wrap n∧IntKind.i64.wrap n≤9223372036854775807:=by
 rw[IntKind.wrap_i64];omega
theorem c3F (pl:List Int):0≤a8x pl∧a8x pl≤9223372036854775807:=by
 unfold a8x
 suffices h:∀ (n:Int),0≤n∧n≤9223372036854775807→0≤pl.foldl (fun n p=>if p<0∧n<IntKind.i64.wrap (-p) then IntKind.i64.wrap (-p) else n) n∧pl.foldl (fun n p=>if p<0∧n<IntKind.i64.wrap (-p) then IntKind.i64.wrap (-p) else n) n≤9223372036854775807 from h 0 (by omega)
 induction pl with
 | nil=>exact fun n h=>h
 | cons p pl ih =>
  intro n h;rw[List.foldl_cons];refine ih _ ?_;have:=c5M (-p);split<;>omega
theorem c5N {pl:List Int} {v:Nat} (hv:v<pl.length) (h0 : -4000≤gP pl v) (h1:gP pl v<0) : -(gP pl v)≤a8x pl:=by
 have hmono:∀ (l:List Int) (n:Int),n≤l.foldl (fun n p=>if p<0∧n<IntKind.i64.wrap (-p) then IntKind.i64.wrap (-p) else n) n:=by
  intro l
  induction l with
  | nil=>exact fun n=>Int.le_refl n
  | cons p l ih =>
   intro n;rw[List.foldl_cons];refine Int.le_trans ?_ (ih _);split<;>omega
 have key:∀ (l:List Int) (n p:Int),p ∈ l→-4000≤p→p<0→-p≤l.foldl (fun n p=>if p<0∧n<IntKind.i64.wrap (-p) then IntKind.i64.wrap (-p) else n) n:=by
  intro l
  induction l with
  | nil=>intro n p h;simp at h
  | cons q l ih =>
   intro n p hp h1 h2;rw[List.foldl_cons];rcases List.mem_cons.1 hp with rfl | h
   ·refine Int.le_trans ?_ (hmono l _);rw[a0e (show -9223372036854775808≤-p by omega) (by omega)];split<;>omega
   ·exact ih _ p h h1 h2
 exact key pl 0 _ (a0q hv) h0 h1
theorem c5O {pl:List Int} {m:Int} (hm:0≤m) (h:∀ v<pl.length,-9000000000000≤gP pl v∧-(gP pl v)≤m):a8x pl≤m:=by
 unfold a8x;have key:∀ (l:List Int) (n:Int),n≤m→(∀ p ∈ l,-9000000000000≤p∧-p≤m)→l.foldl (fun n p=>if p<0∧n<IntKind.i64.wrap (-p) then IntKind.i64.wrap (-p) else n) n≤m:=by
  intro l
  induction l with
  | nil=>exact fun n h _=>h
  | cons q l ih =>
   intro n hn hl;rw[List.foldl_cons];refine ih _ ?_ fun p hp=>hl p (by simp[hp]);have:=hl q (by simp);split
   ·rename_i h3;rw[a0e (show -9223372036854775808≤-q by omega) (by omega)];exact this.2
   ·exact hn
 refine key pl 0 hm fun p hp=>?_;obtain ⟨i,hi,rfl⟩:=List.getElem_of_mem hp;have:=h i hi;unfold gP at this;rw[List.getD,List.getElem?_eq_getElem hi,Option.getD_some]at this;exact this
end Go.Proofs.YtkbhfokbhkmfgaaGreat
