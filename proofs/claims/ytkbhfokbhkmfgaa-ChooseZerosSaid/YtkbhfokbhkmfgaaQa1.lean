/- Three-address code as data; what an instruction reads and sets, and what follows a block: contracts. No condition. -/
import Derived.Test.YtkbhfokbhkmfgaaUCode
import Derived.Test.YtkbhfokbhkmfgaaUH
import Derived.Test.YtkbhfokbhkmfgaaUG
import Derived.SizedLaws
import Derived.Test.YtkbhfokbhkmfgaaUC
import Derived.Test.YtkbhfokbhkmfgaaUY
set_option linter.unusedVariables false
set_option linter.unusedSimpArgs false
attribute [go_sem] Nat.reduceEqDiff Nat.reduceAdd Nat.reduceMul reduceCtorEq Nat.reduceLeDiff Nat.reduceLT Nat.reduceSub Int.reduceToNat Int.reduceLE Int.reduceLT
attribute [go_sem ↓] reduceIte dreduceIte
namespace Go.Proofs.Ytkbhfokbhkmfgaa
set_option linter.unusedSimpArgs false
set_option linter.unusedVariables false
open Go.V
structure Tac where
 op:Int
 d:Int
 a:Int
 b:Int
 k:Int
 base:Int
 size:Int
 n:Int
deriving Inhabited,DecidableEq
structure Bk where
 ins:List Tac
 e:Int
 v:Int
 to:Int
 el:Int
deriving Inhabited,DecidableEq
structure BF where
 regs:Int
 bks:List Bk
deriving Inhabited,DecidableEq
abbrev tacL (t:Tac):List AV:=[I t.op,I t.d,I t.a,I t.b,I t.k,I t.base,I t.size,U32 t.n]
abbrev tacA (t:Tac):AV:=.agg (tacL t)
abbrev inA (l:List Tac):AV:=.imm 8 (l.map tacA)
abbrev bkL (b:Bk):List AV:=[inA b.ins,I b.e,I b.v,I b.to,I b.el]
abbrev bkA (b:Bk):AV:=.agg (bkL b)
abbrev bksA (l:List Bk):AV:=.imm 5 (l.map bkA)
abbrev bfA (f:BF):AV:=.agg [I f.regs,bksA f.bks]
def usesL (t:Tac):List Int :=
 if t.op=2∨t.op=5∨t.op=6∨t.op=9 then [t.a] else if t.op=3∨t.op=7 then [t.a,t.b] else []
def SetsT (t:Tac):Prop:=t.op=1∨t.op=2∨t.op=3∨t.op=4∨t.op=6∨t.op=8
instance (t:Tac):Decidable (SetsT t):=by unfold SetsT;exact inferInstance
def setsL (t:Tac):Int:=if SetsT t then t.d else -1
theorem usesL_len (t:Tac):(usesL t).length≤2:=by
 unfold usesL;split
 ·simp
 ·split<;>simp
theorem usesL_none {t:Tac} (h:¬ (t.op=2∨t.op=5∨t.op=6∨t.op=9)) (h':¬ (t.op=3∨t.op=7)):usesL t=[]:=by
 unfold usesL;rw[if_neg h,if_neg h']
theorem refuses_c (t:Tac):ContractN Try.prog 69 [tacA t] (fun r=>r=ints (usesL t)):=by
 refine ContractN.of_call (VCall.of_body hmix f_scref24_Uses (by simp) ?_)
 obtain ⟨op,d,a,b,k,base,size,n⟩:=t
 have ho:op=2∨op=5∨op=6∨op=9∨op=3∨op=7∨(op≠2∧op≠5∧op≠6∧op≠9∧op≠3∧op≠7):=by omega
 rcases ho with rfl | rfl | rfl | rfl | rfl | rfl | ⟨h1,h2,h3,h4,h5,h6⟩
 ·simp only[go_sem,c_scref24_Uses,Int.reduceEq,Int.reduceBEq];exact ⟨_,frzN_ints (l:=[a]) rfl rfl,rfl⟩
 ·simp only[go_sem,c_scref24_Uses,Int.reduceEq,Int.reduceBEq];exact ⟨_,frzN_ints (l:=[a]) rfl rfl,rfl⟩
 ·simp only[go_sem,c_scref24_Uses,Int.reduceEq,Int.reduceBEq];exact ⟨_,frzN_ints (l:=[a]) rfl rfl,rfl⟩
 ·simp only[go_sem,c_scref24_Uses,Int.reduceEq,Int.reduceBEq];exact ⟨_,frzN_ints (l:=[a]) rfl rfl,rfl⟩
 ·simp only[go_sem,c_scref24_Uses,Int.reduceEq,Int.reduceBEq];exact ⟨_,frzN_ints (l:=[a,b]) rfl rfl,rfl⟩
 ·simp only[go_sem,c_scref24_Uses,Int.reduceEq,Int.reduceBEq];exact ⟨_,frzN_ints (l:=[a,b]) rfl rfl,rfl⟩
 ·simp only[go_sem,c_scref24_Uses,Int.reduceEq,Int.reduceBEq,h1,h2,h3,h4,h5,h6,eq_false h1,eq_false h2,eq_false h3,eq_false h4,eq_false h5,eq_false h6]
  refine ⟨_,FrzN.nil 1,?_⟩
  rw[usesL_none (by simp only;omega) (by simp only;omega)];rfl
theorem refsets_c (t:Tac):Contract Try.prog 68 [tacA t] (fun r=>r=I (setsL t)):=by
 refine Contract.of_call (VCall.of_body hmix f_scref24_Sets (by simp) ?_)
 obtain ⟨op,d,a,b,k,base,size,n⟩:=t
 have ho:op=1∨op=2∨op=3∨op=4∨op=6∨op=8∨(op≠1∧op≠2∧op≠3∧op≠4∧op≠6∧op≠8):=by omega
 rcases ho with rfl | rfl | rfl | rfl | rfl | rfl | ⟨h1,h2,h3,h4,h5,h6⟩
 all_goals first
  | (simp only[go_sem,c_scref24_Sets,Int.reduceEq,Int.reduceBEq];exact ⟨_,Frz.pure rfl,rfl⟩)
  | (simp only[go_sem,c_scref24_Sets,Int.reduceEq,Int.reduceBEq,h1,h2,h3,h4,h5,h6,eq_false h1,eq_false h2,eq_false h3,eq_false h4,eq_false h5,eq_false h6]
     refine ⟨_,Frz.pure rfl,?_⟩
     rw[show setsL ⟨op,d,a,b,k,base,size,n⟩ = -1 from if_neg (by unfold SetsT;simp only;omega)])
def readsN (op:Int):Int:=if op=2∨op=5∨op=6∨op=9 then 1 else if op=3∨op=7 then 2 else 0
theorem usesL_eq (t:Tac):usesL t=if readsN t.op=1 then [t.a] else if readsN t.op=2 then [t.a,t.b] else []:=by
 unfold usesL readsN
 by_cases h:t.op=2∨t.op=5∨t.op=6∨t.op=9
 ·simp[h]
 ·by_cases h':t.op=3∨t.op=7
  ·simp[h,h']
  ·simp[h,h']
theorem bsets_c (t:Tac):Contract Try.prog 99 [I t.op] (fun r=>r=B (decide (SetsT t))):=by
 refine Contract.of_call (VCall.of_body hmix f_block_sets (by simp) ?_)
 obtain ⟨op,d,a,b,k,base,size,n⟩:=t
 have ho:op=1∨op=2∨op=3∨op=4∨op=6∨op=8∨(op≠1∧op≠2∧op≠3∧op≠4∧op≠6∧op≠8):=by omega
 rcases ho with rfl | rfl | rfl | rfl | rfl | rfl | ⟨h1,h2,h3,h4,h5,h6⟩
 all_goals first
  | (simp only[go_sem,c_block_sets,Int.reduceEq,Int.reduceBEq];exact ⟨_,Frz.pure rfl,rfl⟩)
  | (simp only[go_sem,c_block_sets,Int.reduceEq,Int.reduceBEq,h1,h2,h3,h4,h5,h6,eq_false h1,eq_false h2,eq_false h3,eq_false h4,eq_false h5,eq_false h6]
     refine ⟨_,Frz.pure rfl,?_⟩
     rw[decide_eq_false (by unfold SetsT;simp only;omega)])
theorem breads_c (op:Int):Contract Try.prog 100 [I op] (fun r=>r=I (readsN op)):=by
 refine Contract.of_call (VCall.of_body hmix f_block_reads (by simp) ?_)
 have ho:op=2∨op=5∨op=6∨op=9∨op=3∨op=7∨(op≠2∧op≠5∧op≠6∧op≠9∧op≠3∧op≠7):=by omega
 rcases ho with rfl | rfl | rfl | rfl | rfl | rfl | ⟨h1,h2,h3,h4,h5,h6⟩
 all_goals first
  | (simp only[go_sem,c_block_reads,Int.reduceEq,Int.reduceBEq];exact ⟨_,Frz.pure rfl,rfl⟩)
  | (simp only[go_sem,c_block_reads,Int.reduceEq,Int.reduceBEq,h1,h2,h3,h4,h5,h6,eq_false h1,eq_false h2,eq_false h3,eq_false h4,eq_false h5,eq_false h6]
     refine ⟨_,Frz.pure rfl,?_⟩
     rw[show readsN op=0 by unfold readsN;rw[if_neg (by omega),if_neg (by omega)]])
theorem bSets_c (t:Tac):Contract Try.prog 84 [tacA t] (fun r=>r=I (setsL t)):=by
 refine Contract.of_call (VCall.of_body hmix f_block_Sets (by simp) ?_)
 simp only[go_sem,c_block_Sets]
 refine VCall.of_contract (bsets_c t) (SleL.pure rfl) fun r hr=>?_
 subst hr
 by_cases h:SetsT t
 ·simp only[go_sem,decide_eq_true h]
  exact ⟨_,Frz.pure rfl,by rw[show setsL t=t.d from if_pos h]⟩
 ·simp only[go_sem,decide_eq_false h]
  exact ⟨_,Frz.pure rfl,by rw[show setsL t = -1 from if_neg h]⟩
theorem bUses_c (t:Tac):ContractN Try.prog 86 [tacA t] (fun r=>r=ints (usesL t)):=by
 refine ContractN.of_call (VCall.of_body hmix f_block_Uses (by simp) ?_)
 simp only[go_sem,c_block_Uses]
 refine VCall.of_contract (breads_c t.op) (SleL.pure rfl) fun r hr=>?_
 subst hr
 have h3:readsN t.op=1∨readsN t.op=2∨(readsN t.op≠1∧readsN t.op≠2):=by omega
 rcases h3 with h | h | ⟨h,h'⟩
 ·simp only[go_sem,h,Int.reduceEq,Int.reduceBEq]
  exact ⟨_,frzN_ints (l:=[t.a]) rfl rfl,by rw[usesL_eq,if_pos h]⟩
 ·simp only[go_sem,h,Int.reduceEq,Int.reduceBEq]
  exact ⟨_,frzN_ints (l:=[t.a,t.b]) rfl rfl,by rw[usesL_eq,if_neg (by omega),if_pos h]⟩
 ·simp only[go_sem,eq_false h,eq_false h',Int.reduceEq,Int.reduceBEq]
  exact ⟨_,FrzN.nil 1,by rw[usesL_eq,if_neg h,if_neg h'];rfl⟩
abbrev rowsA (m:List (List Bool)):AV:=.imm 1 (m.map bools)
structure LD where
 inn:List (List Bool)
 out:List (List Bool)
deriving Inhabited
abbrev liveA (L:LD):AV:=.agg [rowsA L.inn,rowsA L.out]
def gB (l:List Bool) (v:Nat):Bool:=l.getD v false
def LD.I (L:LD) (b v:Nat):Bool:=gB (L.inn.getD b []) v
def LD.O (L:LD) (b v:Nat):Bool:=gB (L.out.getD b []) v
def clearL (t:Tac) (l:List Bool):List Bool:=if 0≤setsL t then l.set (setsL t).toNat false else l
def useL (l:List Bool) (us:List Int):List Bool:=us.foldl (fun l u=>l.set u.toNat true) l
def backL (t:Tac) (l:List Bool):List Bool:=useL (clearL t l) (usesL t)
def lastL (b:Bk) (l:List Bool):List Bool:=if b.e=2 then l.set b.v.toNat true else l
def thruL (ins:List Tac) (l:List Bool):List Bool:=ins.foldr backL l
def aheadL (b:Bk) (l:List Bool):List Bool:=thruL b.ins (lastL b l)
def behindL (b:Bk) (l:List Bool):List (List Bool):=(List.range b.ins.length).map fun i=>thruL (b.ins.drop (i+1)) (lastL b l)
theorem useL_len:∀ (us:List Int) (l:List Bool),(useL l us).length=l.length
 | [],_=>rfl
 | u::us,l=>by simp only[useL,List.foldl_cons];rw[← useL,useL_len us];simp
theorem clearL_len (t:Tac) (l:List Bool):(clearL t l).length=l.length:=by unfold clearL;split<;>simp
theorem backL_len (t:Tac) (l:List Bool):(backL t l).length=l.length:=by unfold backL;rw[useL_len,clearL_len]
theorem lastL_len (b:Bk) (l:List Bool):(lastL b l).length=l.length:=by unfold lastL;split<;>simp
theorem thruL_len:∀ (ins:List Tac) (l:List Bool),(thruL ins l).length=l.length
 | [],_=>rfl
 | t::ins,l=>by show (backL t (thruL ins l)).length=_;rw[backL_len,thruL_len ins]
theorem aheadL_len (b:Bk) (l:List Bool):(aheadL b l).length=l.length:=by unfold aheadL;rw[thruL_len,lastL_len]
theorem gB_set (l:List Bool) (i v:Nat) (x:Bool) (hv:v<l.length):gB (l.set i x) v=if i=v then x else gB l v:=by
 unfold gB
 rw[List.getD,List.getElem?_set]
 by_cases h:i=v
 ·subst h;simp[hv]
 ·rw[if_neg h,if_neg h];rfl
theorem gB_ext {a b:List Bool} (hl:a.length=b.length) (h:∀ v<a.length,gB a v=gB b v):a=b:=by
 refine List.ext_getElem hl fun i h1 h2=>?_
 have:=h i h1
 simp only[gB,List.getD,List.getElem?_eq_getElem h1,List.getElem?_eq_getElem h2,Option.getD_some]at this
 exact this
def bk1 (t:Tac) (v:Nat) (x:Bool):Bool:=if (v:Int) ∈ usesL t then true else if setsL t=(v:Int) then false else x
def last1 (b:Bk) (v:Nat) (x:Bool):Bool:=if b.e=2∧b.v=(v:Int) then true else x
def thru1 (ins:List Tac) (v:Nat) (x:Bool):Bool:=ins.foldr (fun t x=>bk1 t v x) x
theorem gB_use:∀ (us:List Int) (l:List Bool) (v:Nat),(∀ u ∈ us,0≤u)→v<l.length→gB (useL l us) v=if (v:Int) ∈ us then true else gB l v
 | [],l,v,_,_=>by simp[useL]
 | u::us,l,v,hu,hv=>by
  simp only[useL,List.foldl_cons]
  rw[← useL,gB_use us _ v (fun w hw=>hu w (by simp[hw])) (by simpa using hv),gB_set _ _ _ _ hv]
  have h0:=hu u (by simp)
  by_cases h1:(v:Int) ∈ us
  ·simp[h1]
  ·by_cases h2:(v:Int)=u
   ·rw[if_neg h1,if_pos (by omega),if_pos (by simp[h2])]
   ·rw[if_neg h1,if_neg (by omega),if_neg (by simp[h1,h2])]
def RegT (t:Tac) (n:Int):Prop:=(∀ u ∈ usesL t,0≤u∧u<n)∧(SetsT t→0≤t.d∧t.d<n)
theorem RegT.sets {t:Tac} {n:Int} (h:RegT t n):setsL t = -1∨(0≤setsL t∧setsL t<n):=by
 unfold setsL;split
 ·rename_i h1;exact .inr (h.2 h1)
 ·exact .inl rfl
theorem gB_back (t:Tac) (l:List Bool) (v:Nat) (hr:RegT t l.length) (hv:v<l.length):gB (backL t l) v=bk1 t v (gB l v):=by
 unfold backL bk1
 rw[gB_use _ _ _ (fun u hu=>(hr.1 u hu).1) (by rw[clearL_len];exact hv)]
 congr 1
 unfold clearL
 rcases hr.sets with h | ⟨h,_⟩
 ·rw[h,if_neg (by omega),if_neg (by omega)]
 ·rw[if_pos h,gB_set _ _ _ _ hv]
  by_cases h2:setsL t=(v:Int)
  ·rw[if_pos (by omega),if_pos h2]
  ·rw[if_neg (by omega),if_neg h2]
theorem gB_thru:∀ (ins:List Tac) (l:List Bool) (v:Nat),(∀ t ∈ ins,RegT t l.length)→v<l.length→gB (thruL ins l) v=thru1 ins v (gB l v)
 | [],_,_,_,_=>rfl
 | t::ins,l,v,hr,hv=>by
  show gB (backL t (thruL ins l)) v=bk1 t v (thru1 ins v (gB l v))
  rw[gB_back _ _ _ (by rw[thruL_len];exact hr t (by simp)) (by rw[thruL_len];exact hv),gB_thru ins l v (fun t ht=>hr t (by simp[ht])) hv]
theorem gB_last (b:Bk) (l:List Bool) (v:Nat) (hb:b.e=2→0≤b.v) (hv:v<l.length):gB (lastL b l) v=last1 b v (gB l v):=by
 unfold lastL last1
 by_cases h:b.e=2
 ·have:=hb h
  rw[if_pos h,gB_set _ _ _ _ hv]
  by_cases h2:b.v=(v:Int)
  ·rw[if_pos (by omega),if_pos ⟨h,h2⟩]
  ·rw[if_neg (by omega),if_neg (fun e=>h2 e.2)]
 ·rw[if_neg h,if_neg (fun e=>h e.1)]
def nxt (b:Bk):List Int:=if b.e=1 then [b.to] else if b.e=2 then [b.to,b.el] else []
theorem nxt_len (b:Bk):(nxt b).length≤2:=by unfold nxt;split;simp;split<;>simp
structure Fine (f:BF):Prop where
 r0:0≤f.regs
 r1:f.regs≤4000
 b0:f.bks≠[]
 b1:f.bks.length≤500
 ins:∀ b ∈ f.bks,∀ t ∈ b.ins,RegT t f.regs
 len:∀ b ∈ f.bks,b.ins.length≤1000
 v:∀ b ∈ f.bks,b.e=2→0≤b.v∧b.v<f.regs
 to:∀ b ∈ f.bks,∀ k ∈ nxt b,0≤k∧k<f.bks.length
def BF.n (f:BF):Nat:=f.bks.length
def BF.r (f:BF):Nat:=f.regs.toNat
def BF.bk (f:BF) (b:Nat):Bk:=f.bks.getD b default
theorem BF.mem {f:BF} {b:Nat} (h:b<f.n):f.bk b ∈ f.bks:=mem_getD h
def ahead1 (b:Bk) (v:Nat) (x:Bool):Bool:=thru1 b.ins v (last1 b v x)
theorem gB_ahead {f:BF} (hf:Fine f) {b:Nat} (hb:b<f.n) (l:List Bool) (hl:l.length=f.r) {v:Nat} (hv:v<f.r):gB (aheadL (f.bk b) l) v=ahead1 (f.bk b) v (gB l v):=by
 have hr0:=hf.r0
 have hm:=BF.mem hb
 have hlr:(l.length:Int)=f.regs:=by rw[hl];unfold BF.r;omega
 unfold aheadL ahead1
 rw[gB_thru _ _ _ (fun t ht=>by rw[lastL_len,hlr];exact hf.ins _ hm t ht) (by rw[lastL_len,hl];exact hv),gB_last _ _ _ (fun h=>(hf.v _ hm h).1) (by rw[hl];exact hv)]
def Tri (g:Bool→Bool):Prop:=(∀ x,g x=true)∨(∀ x,g x=false)∨(∀ x,g x=x)
theorem Tri.id:Tri fun x=>x:=.inr (.inr fun _=>rfl)
theorem Tri.comp {g h:Bool→Bool} (hg:Tri g) (hh:Tri h):Tri fun x=>g (h x):=by
 rcases hg with h1 | h1 | h1
 ·exact .inl fun x=>h1 _
 ·exact .inr (.inl fun x=>h1 _)
 ·rcases hh with h2 | h2 | h2
  ·exact .inl fun x=>by simp only[h1,h2]
  ·exact .inr (.inl fun x=>by simp only[h1,h2])
  ·exact .inr (.inr fun x=>by simp only[h1,h2])
theorem Tri.bk1 (t:Tac) (v:Nat):Tri (bk1 t v):=by
 unfold Go.Proofs.Ytkbhfokbhkmfgaa.bk1
 by_cases h:(v:Int) ∈ usesL t
 ·exact .inl fun x=>if_pos h
 ·by_cases h2:setsL t=(v:Int)
  ·exact .inr (.inl fun x=>by simp only[if_neg h,if_pos h2])
  ·exact .inr (.inr fun x=>by simp only[if_neg h,if_neg h2])
theorem Tri.thru1 (v:Nat):∀ ins,Tri (thru1 ins v)
 | []=>Tri.id
 | t::ins=>(Tri.bk1 t v).comp (Tri.thru1 v ins)
theorem Tri.ahead1 (b:Bk) (v:Nat):Tri (ahead1 b v):=by
 refine (Tri.thru1 v b.ins).comp ?_
 unfold last1
 by_cases h:b.e=2∧b.v=(v:Int)
 ·exact .inl fun x=>if_pos h
 ·exact .inr (.inr fun x=>if_neg h)
theorem Tri.mono {g:Bool→Bool} (h:Tri g) {x y:Bool} (hxy:x=true→y=true) (hx:g x=true):g y=true:=by
 rcases h with h | h | h
 ·exact h y
 ·rw[h]at hx;cases hx
 ·rw[h]at hx ⊢;exact hxy hx
theorem Tri.or {g:Bool→Bool} (h:Tri g) (x y:Bool):g (x || y)=(g x || g y):=by
 rcases h with h | h | h<;>simp[h]
theorem Tri.and {g:Bool→Bool} (h:Tri g) (x y:Bool):g (x && y)=(g x && g y):=by
 rcases h with h | h | h<;>simp[h]
def sizedL (m:List (List Bool)) (n:Int) (r:Int):Bool:=decide ((m.length:Int)=n) && m.all fun l=>decide ((l.length:Int)=r)
def sizedB (f:BF) (L:LD):Bool:=sizedL L.inn f.bks.length f.regs && sizedL L.out f.bks.length f.regs
structure SizedP (f:BF) (L:LD):Prop where
 i:L.inn.length=f.n
 o:L.out.length=f.n
 ir:∀ l ∈ L.inn,l.length=f.r
 or:∀ l ∈ L.out,l.length=f.r
theorem sizedB_iff {f:BF} (h0:0≤f.regs) (L:LD):sizedB f L=true↔SizedP f L:=by
 unfold sizedB sizedL
 simp only[Bool.and_eq_true,decide_eq_true_eq,List.all_eq_true]
 refine ⟨fun ⟨⟨h1,h2⟩,h3,h4⟩=>⟨by unfold BF.n;omega,by unfold BF.n;omega,fun l hl=>?_,fun l hl=>?_⟩,fun h=>⟨⟨by have:=h.i;unfold BF.n at this;omega,fun l hl=>?_⟩,by have:=h.o;unfold BF.n at this;omega,fun l hl=>?_⟩⟩
 ·have:=h2 l hl;unfold BF.r;omega
 ·have:=h4 l hl;unfold BF.r;omega
 ·have:=h.ir l hl;unfold BF.r at this;omega
 ·have:=h.or l hl;unfold BF.r at this;omega
theorem getD_nil {m:List (List Bool)} {b:Nat} (hb:b<m.length):m.getD b [] ∈ m:=by
 rw[List.getD,List.getElem?_eq_getElem hb];exact List.getElem_mem hb
theorem SizedP.il {f:BF} {L:LD} (h:SizedP f L) {b:Nat} (hb:b<f.n):(L.inn.getD b []).length=f.r:=h.ir _ (getD_nil (by rw[h.i];exact hb))
theorem SizedP.ol {f:BF} {L:LD} (h:SizedP f L) {b:Nat} (hb:b<f.n):(L.out.getD b []).length=f.r:=h.or _ (getD_nil (by rw[h.o];exact hb))
structure Closed (f:BF) (I O:Nat→Nat→Bool):Prop where
 way:∀ b<f.n,∀ k ∈ nxt (f.bk b),∀ v<f.r,I k.toNat v=true→O b v=true
 ahead:∀ b<f.n,∀ v<f.r,ahead1 (f.bk b) v (O b v)=true→I b v=true
structure ClosedP (f:BF) (L:LD):Prop where
 sz:SizedP f L
 cl:Closed f L.I L.O
def InAll (f:BF) (b v:Nat):Prop:=∀ I O,Closed f I O→I b v=true
def OutAll (f:BF) (b v:Nat):Prop:=∀ I O,Closed f I O→O b v=true
structure Least (f:BF) (L:LD):Prop where
 cl:ClosedP f L
 min:∀ I O,Closed f I O→∀ b<f.n,∀ v<f.r,(L.I b v=true→I b v=true)∧(L.O b v=true→O b v=true)
theorem LD.ext {f:BF} {L M:LD} (hL:SizedP f L) (hM:SizedP f M) (hi:∀ b<f.n,∀ v<f.r,L.I b v=M.I b v) (ho:∀ b<f.n,∀ v<f.r,L.O b v=M.O b v):L=M:=by
 obtain ⟨i,o⟩:=L
 obtain ⟨i',o'⟩:=M
 have key:∀ (a a':List (List Bool)),a.length=f.n→a'.length=f.n→(∀ b<f.n,(a.getD b []).length=f.r)→(∀ b<f.n,(a'.getD b []).length=f.r) →
  (∀ b<f.n,∀ v<f.r,gB (a.getD b []) v=gB (a'.getD b []) v)→a=a':=fun a a' h1 h2 h3 h4 h5=>by
  refine List.ext_getElem (h1.trans h2.symm) fun b hb hb'=>?_
  have hn:b<f.n:=by omega
  have:=gB_ext ((h3 b hn).trans (h4 b hn).symm) fun v hv=>h5 b hn v (by rw[h3 b hn]at hv;exact hv)
  simp only[List.getD,List.getElem?_eq_getElem hb,List.getElem?_eq_getElem hb',Option.getD_some]at this
  exact this
 rw[key i i' hL.i hM.i (fun b hb=>hL.il hb) (fun b hb=>hM.il hb) hi,key o o' hL.o hM.o (fun b hb=>hL.ol hb) (fun b hb=>hM.ol hb) ho]
theorem Least.unique {f:BF} {L M:LD} (hL:Least f L) (hM:Least f M):L=M:=by
 refine LD.ext hL.cl.sz hM.cl.sz (fun b hb v hv=>?_) (fun b hb v hv=>?_)
 ·have h1:=(hL.min _ _ hM.cl.cl b hb v hv).1
  have h2:=(hM.min _ _ hL.cl.cl b hb v hv).1
  cases h:L.I b v<;>cases h':M.I b v<;>simp_all
 ·have h1:=(hL.min _ _ hM.cl.cl b hb v hv).2
  have h2:=(hM.min _ _ hL.cl.cl b hb v hv).2
  cases h:L.O b v<;>cases h':M.O b v<;>simp_all
def tabL (n r:Nat) (p:Nat→Nat→Bool):List (List Bool):=(List.range n).map fun b=>(List.range r).map fun v=>p b v
theorem tabL_len (n r:Nat) (p:Nat→Nat→Bool):(tabL n r p).length=n:=by simp[tabL]
theorem tabL_row (n r:Nat) (p:Nat→Nat→Bool):∀ l ∈ tabL n r p,l.length=r:=fun l hl=>by
 simp only[tabL,List.mem_map]at hl
 obtain ⟨b,_,rfl⟩:=hl
 simp
theorem tabL_get {n r b v:Nat} (p:Nat→Nat→Bool) (hb:b<n) (hv:v<r):gB ((tabL n r p).getD b []) v=p b v:=by
 simp[tabL,gB,List.getD,hb,hv]
theorem sized_tab (f:BF) (p q:Nat→Nat→Bool):SizedP f ⟨tabL f.n f.r p,tabL f.n f.r q⟩:=⟨tabL_len _ _ _,tabL_len _ _ _,tabL_row _ _ _,tabL_row _ _ _⟩
theorem Closed.congr {f:BF} (hf:Fine f) {I O I' O':Nat→Nat→Bool} (hi:∀ b<f.n,∀ v<f.r,I b v=I' b v) (ho:∀ b<f.n,∀ v<f.r,O b v=O' b v) (h:Closed f I O):Closed f I' O':=by
 refine ⟨fun b hb k hk v hv h1=>?_,fun b hb v hv h1=>?_⟩
 ·have hk':=hf.to _ (BF.mem hb) k hk
  rw[← ho b hb v hv]
  rw[← hi _ (show k.toNat<f.n by unfold BF.n;omega) v hv]at h1
  exact h.way b hb k hk v hv h1
 ·rw[← hi b hb v hv]
  rw[← ho b hb v hv]at h1
  exact h.ahead b hb v hv h1
theorem least_exists {f:BF} (hf:Fine f):∃ L,Least f L:=by
 classical
 refine ⟨⟨tabL f.n f.r fun b v=>decide (InAll f b v),tabL f.n f.r fun b v=>decide (OutAll f b v)⟩,⟨sized_tab _ _ _,?_⟩,fun I O h b hb v hv=>⟨fun e=>?_,fun e=>?_⟩⟩
 ·refine Closed.congr hf (I:=fun b v=>decide (InAll f b v)) (O:=fun b v=>decide (OutAll f b v)) (fun b hb v hv=>(tabL_get (fun b v=>decide (InAll f b v)) hb hv).symm) (fun b hb v hv=>(tabL_get (fun b v=>decide (OutAll f b v)) hb hv).symm) ⟨fun b hb k hk v hv h1=>?_,fun b hb v hv h1=>?_⟩
  ·simp only[decide_eq_true_eq]at h1 ⊢
   exact fun I O h=>h.way b hb k hk v hv (h1 I O h)
  ·simp only[decide_eq_true_eq]at h1 ⊢
   refine fun I O h=>h.ahead b hb v hv ((Tri.ahead1 _ v).mono (fun e=>?_) h1)
   simp only[decide_eq_true_eq]at e
   exact e I O h
 ·have:=tabL_get (fun b v=>decide (InAll f b v)) hb hv
  have e':gB ((tabL f.n f.r fun b v=>decide (InAll f b v)).getD b []) v=true:=e
  rw[this]at e'
  exact of_decide_eq_true e' I O h
 ·have:=tabL_get (fun b v=>decide (OutAll f b v)) hb hv
  have e':gB ((tabL f.n f.r fun b v=>decide (OutAll f b v)).getD b []) v=true:=e
  rw[this]at e'
  exact of_decide_eq_true e' I O h
/- A row as a word. -/
def wd:List Bool→Nat
 | []=>0
 | b::l=>b.toNat+2*wd l
theorem wd_bit:∀ (l:List Bool) (i:Nat),(wd l).testBit i=gB l i
 | [],i=>by simp[wd,gB]
 | b::l,0=>by
  show (b.toNat+2*wd l).testBit 0=b
  rw[Nat.testBit_zero]
  cases b<;>simp<;>omega
 | b::l,i+1=>by
  show (b.toNat+2*wd l).testBit (i+1)=gB (b::l) (i+1)
  rw[Nat.testBit_succ,show (b.toNat+2*wd l) / 2=wd l by cases b<;>simp<;>omega,wd_bit l i]
  rfl
theorem wd_lt:∀ (l:List Bool),wd l<2 ^ l.length
 | []=>by simp[wd]
 | b::l=>by
  have:=wd_lt l
  show b.toNat+2*wd l<2 ^ (l.length+1)
  rw[Nat.pow_succ]
  cases b<;>simp<;>omega
theorem wd_lt64 {l:List Bool} (h:l.length≤64):wd l<2 ^ 64:=Nat.lt_of_lt_of_le (wd_lt l) (Nat.pow_le_pow_right (by decide) h)
theorem wd_eq {l:List Bool} {n:Nat} (h:∀ i,n.testBit i=gB l i):n=wd l:=Nat.eq_of_testBit_eq fun i=>by rw[h,wd_bit]
theorem gB_out {l:List Bool} {i:Nat} (h:l.length≤i):gB l i=false:=by
 unfold gB;rw[List.getD,List.getElem?_eq_none h];rfl
theorem wd_zero (n:Nat):wd (List.replicate n false)=0:=(wd_eq fun i=>by
 rw[Nat.zero_testBit]
 unfold gB;rw[List.getD,List.getElem?_replicate];split<;>rfl).symm
theorem wd_inj {a b:List Bool} (hl:a.length=b.length) (h:wd a=wd b):a=b:=gB_ext hl fun v _=>by rw[← wd_bit,← wd_bit,h]
def orL (a b:List Bool):List Bool:=(List.range a.length).map fun v=>gB a v || gB b v
def wayL (rd out st:List Bool):List Bool:=(List.range out.length).map fun v=>gB rd v || (gB out v && !gB st v)
theorem gB_or (a b:List Bool) {v:Nat} (hv:v<a.length):gB (orL a b) v=(gB a v || gB b v):=by
 unfold orL;rw[gB,List.getD];simp[hv]
theorem gB_way (rd out st:List Bool) {v:Nat} (hv:v<out.length):gB (wayL rd out st) v=(gB rd v || (gB out v && !gB st v)):=by
 unfold wayL;rw[gB,List.getD];simp[hv]
theorem orL_len (a b:List Bool):(orL a b).length=a.length:=by simp[orL]
theorem wayL_len (a b c:List Bool):(wayL a b c).length=b.length:=by simp[wayL]
theorem wd_or {a b:List Bool} (hl:a.length=b.length):wd a ||| wd b=wd (orL a b):=wd_eq fun i=>by
 rw[Nat.testBit_or,wd_bit,wd_bit]
 rcases Nat.lt_or_ge i a.length with h | h
 ·rw[gB_or _ _ h]
 ·rw[gB_out h,gB_out (by omega),gB_out (by rw[orL_len];exact h)];rfl
theorem wd_set {l:List Bool} {i:Nat} (hi:i<l.length):wd l ||| 2 ^ i=wd (l.set i true):=wd_eq fun j=>by
 rw[Nat.testBit_or,wd_bit,Nat.testBit_two_pow]
 rcases Nat.lt_or_ge j l.length with h | h
 ·rw[gB_set _ _ _ _ h]
  by_cases e:i=j
  ·rw[if_pos e];simp[e]
  ·rw[if_neg e];simp[e]
 ·rw[gB_out h,gB_out (by simpa using h)]
  simp;omega
/- What a block reads ahead of setting it, and what it sets. -/
def readL (b:Bk) (r:Nat):List Bool:=aheadL b (List.replicate r false)
def doneL (ins:List Tac) (l:List Bool):List Bool:=ins.foldr (fun t l=>if 0≤setsL t then l.set (setsL t).toNat true else l) l
def setL (b:Bk) (r:Nat):List Bool:=doneL b.ins (List.replicate r false)
theorem doneL_len:∀ (ins:List Tac) (l:List Bool),(doneL ins l).length=l.length
 | [],_=>rfl
 | t::ins,l=>by
  show (if 0≤setsL t then (doneL ins l).set (setsL t).toNat true else doneL ins l).length=_
  split<;>simp[doneL_len ins l]
theorem gB_done:∀ (ins:List Tac) (l:List Bool) (v:Nat),v<l.length→gB (doneL ins l) v=(gB l v || ins.any fun t=>decide (setsL t=(v:Int)))
 | [],l,v,_=>by simp[doneL]
 | t::ins,l,v,hv=>by
  have ih:=gB_done ins l v hv
  show gB (if 0≤setsL t then (doneL ins l).set (setsL t).toNat true else doneL ins l) v=_
  rw[List.any_cons]
  by_cases h:0≤setsL t
  ·rw[if_pos h,gB_set _ _ _ _ (by rw[doneL_len];exact hv)]
   by_cases h2:setsL t=(v:Int)
   ·rw[if_pos (by omega),decide_eq_true h2];simp
   ·rw[if_neg (by omega),decide_eq_false h2,ih,Bool.false_or]
  ·rw[if_neg h,decide_eq_false (by omega),ih,Bool.false_or]
theorem gB_rep (r v:Nat):gB (List.replicate r false) v=false:=by
 unfold gB;rw[List.getD,List.getElem?_replicate];split<;>rfl
theorem bk1_set {t:Tac} {v:Nat} (h:setsL t=(v:Int)) (x y:Bool):bk1 t v x=bk1 t v y:=by
 unfold bk1;split
 ·rfl
 ·simp[h]
theorem thru1_set:∀ {ins:List Tac} {v:Nat},(ins.any fun t=>decide (setsL t=(v:Int)))=true→∀ x y,thru1 ins v x=thru1 ins v y
 | [],v,h,_,_=>by simp at h
 | t::ins,v,h,x,y=>by
  show bk1 t v (thru1 ins v x)=bk1 t v (thru1 ins v y)
  rw[List.any_cons,Bool.or_eq_true,decide_eq_true_eq]at h
  rcases h with h | h
  ·exact bk1_set h _ _
  ·rw[thru1_set h x y]
theorem thru1_free:∀ {ins:List Tac} {v:Nat},(ins.any fun t=>decide (setsL t=(v:Int)))=false→∀ x,thru1 ins v x=(thru1 ins v false || x)
 | [],v,_,x=>by simp[thru1]
 | t::ins,v,h,x=>by
  show bk1 t v (thru1 ins v x)=(bk1 t v (thru1 ins v false) || x)
  rw[List.any_cons,Bool.or_eq_false_iff,decide_eq_false_iff_not]at h
  rw[thru1_free h.2 x]
  unfold bk1
  split
  ·simp
  ·rw[if_neg h.1,if_neg h.1]
theorem ahead1_eq (b:Bk) (v:Nat) (x:Bool):ahead1 b v x=(ahead1 b v false || (x && !(b.ins.any fun t=>decide (setsL t=(v:Int))))):=by
 unfold ahead1
 cases h:b.ins.any fun t=>decide (setsL t=(v:Int))
 ·rw[thru1_free h,thru1_free h (last1 b v false)]
  unfold last1
  by_cases h2:b.e=2∧b.v=(v:Int)
  ·rw[if_pos h2,if_pos h2];simp
  ·rw[if_neg h2,if_neg h2];simp
 ·rw[thru1_set h (last1 b v x) (last1 b v false)];simp
theorem way_ahead {f:BF} (hf:Fine f) {b:Nat} (hb:b<f.n) (l:List Bool) (hl:l.length=f.r):wayL (readL (f.bk b) f.r) l (setL (f.bk b) f.r)=aheadL (f.bk b) l:=by
 refine gB_ext (by rw[wayL_len,aheadL_len]) fun v hv=>?_
 rw[wayL_len]at hv
 have hv':v<f.r:=by omega
 rw[gB_way _ _ _ hv,gB_ahead hf hb l hl hv',ahead1_eq]
 unfold readL setL
 rw[gB_ahead hf hb _ (by simp) hv',gB_rep,gB_done _ _ _ (by simp;exact hv'),gB_rep,Bool.false_or]
structure SV where
 I:List (List Bool)
 O:List (List Bool)
 wt:List Nat
deriving Inhabited
def SV.L (σ:SV):LD:=⟨σ.I,σ.O⟩
def gath (I:List (List Bool)) (o:List Bool) (ks:List Int):List Bool:=ks.foldl (fun o k=>orL o (I.getD k.toNat default)) o
theorem gath_len (I:List (List Bool)):∀ (ks:List Int) (o:List Bool),(gath I o ks).length=o.length
 | [],_=>rfl
 | k::ks,o=>by
  show (gath I (orL o (I.getD k.toNat default)) ks).length=_
  rw[gath_len I ks,orL_len]
theorem gB_gath (I:List (List Bool)):∀ (ks:List Int) (o:List Bool) {v:Nat},v<o.length→gB (gath I o ks) v=(gB o v || ks.any fun k=>gB (I.getD k.toNat default) v)
 | [],o,v,_=>by simp[gath]
 | k::ks,o,v,hv=>by
  show gB (gath I (orL o (I.getD k.toNat default)) ks) v=_
  rw[gB_gath I ks _ (by rw[orL_len];exact hv),gB_or _ _ hv,List.any_cons,Bool.or_assoc]
def newO (f:BF) (I O:List (List Bool)) (b:Nat):List Bool:=gath I (O.getD b default) (nxt (f.bk b))
def Under (f:BF) (L:LD):Prop:=∀ I O,Closed f I O→∀ b<f.n,∀ v<f.r,(L.I b v=true→I b v=true)∧(L.O b v=true→O b v=true)
theorem row_set {m:List (List Bool)} {b c:Nat} {l:List Bool} (hb:b<m.length):(m.set b l).getD c []=if b=c then l else m.getD c []:=by
 rw[List.getD,List.getElem?_set]
 by_cases h:b=c
 ·subst h;simp[hb]
 ·rw[if_neg h,if_neg h];rfl
theorem SizedP.setO {f:BF} {L:LD} (h:SizedP f L) {b:Nat} {l:List Bool} (hl:l.length=f.r):SizedP f ⟨L.inn,L.out.set b l⟩ :=
 ⟨h.i,by simp[h.o],h.ir,fun x hx=>by rcases List.mem_or_eq_of_mem_set hx with e | e;exact h.or x e;rw[e,hl]⟩
theorem SizedP.setI {f:BF} {L:LD} (h:SizedP f L) {b:Nat} {l:List Bool} (hl:l.length=f.r):SizedP f ⟨L.inn.set b l,L.out⟩ :=
 ⟨by simp[h.i],h.o,fun x hx=>by rcases List.mem_or_eq_of_mem_set hx with e | e;exact h.ir x e;rw[e,hl],h.or⟩
theorem under_out {f:BF} (hf:Fine f) {I O:List (List Bool)} (hs:SizedP f ⟨I,O⟩) (h:Under f ⟨I,O⟩) {b:Nat} (hb:b<f.n):Under f ⟨I,O.set b (newO f I O b)⟩:=fun I' O' hc c hc' v hv=>by
 have hob:b<O.length:=by have:=hs.o;simp only at this;omega
 refine ⟨(h I' O' hc c hc' v hv).1,fun e=>?_⟩
 have e':gB ((O.set b (newO f I O b)).getD c []) v=true:=e
 rw[row_set hob]at e'
 by_cases hbc:b=c
 ·subst hbc
  rw[if_pos rfl]at e'
  unfold newO at e'
  have hol:(O.getD b default).length=f.r:=hs.ol hb
  rw[gB_gath _ _ _ (by rw[hol];exact hv),Bool.or_eq_true]at e'
  rcases e' with g | g
  ·exact (h I' O' hc b hb v hv).2 g
  ·obtain ⟨k,hk,g⟩:=List.any_eq_true.1 g
   have hk':=hf.to _ (BF.mem hb) k hk
   exact hc.way b hb k hk v hv ((h I' O' hc k.toNat (by unfold BF.n;omega) v hv).1 g)
 ·rw[if_neg hbc]at e'
  exact (h I' O' hc c hc' v hv).2 e'
theorem under_in {f:BF} (hf:Fine f) {I O:List (List Bool)} (hs:SizedP f ⟨I,O⟩) (h:Under f ⟨I,O⟩) {b:Nat} (hb:b<f.n) {l:List Bool} (hl:∀ v<f.r,gB l v=true→gB (I.getD b []) v=true∨gB (aheadL (f.bk b) (O.getD b [])) v=true) :
 Under f ⟨I.set b l,O⟩:=fun I' O' hc c hc' v hv=>by
 have hob:b<I.length:=by have:=hs.i;simp only at this;omega
 refine ⟨fun e=>?_,(h I' O' hc c hc' v hv).2⟩
 have e':gB ((I.set b l).getD c []) v=true:=e
 rw[row_set hob]at e'
 by_cases hbc:b=c
 ·subst hbc
  rw[if_pos rfl]at e'
  rcases hl v hv e' with g | g
  ·exact (h I' O' hc b hb v hv).1 g
  ·rw[gB_ahead hf hb _ (hs.ol hb) hv]at g
   exact hc.ahead b hb v hv ((Tri.ahead1 _ v).mono (fun e=>(h I' O' hc b hb v hv).2 e) g)
 ·rw[if_neg hbc]at e'
  exact (h I' O' hc c hc' v hv).1 e'
def unset (m:List (List Bool)):Nat:=(m.map fun l=>l.countP (! ·)).sum
theorem count_le {a b:List Bool} (hl:a.length=b.length) (h:∀ v,gB a v=true→gB b v=true):b.countP (! ·)≤a.countP (! ·)∧(a≠b→b.countP (! ·)<a.countP (! ·)):=by
 induction a generalizing b with
 | nil=>cases b with
  | nil=>exact ⟨Nat.le_refl _,fun e=>absurd rfl e⟩
  | cons y b=>simp at hl
 | cons x a ih=>cases b with
  | nil=>simp at hl
  | cons y b =>
   have h0:=h 0
   have hs:=ih (by simpa using hl) fun v hv=>by have:=h (v+1);simp only[gB,List.getD_cons_succ]at this ⊢;exact this hv
   simp only[gB,List.getD_cons_zero]at h0
   rw[List.countP_cons,List.countP_cons]
   have h2:x::a≠y::b→x=y→a≠b:=fun e e1 e2=>e (by rw[e1,e2])
   cases x<;>cases y
   ·refine ⟨by simp;exact hs.1,fun e=>by have:=hs.2 (h2 e rfl);simpa using this⟩
   ·exact ⟨by simp;omega,fun _=>by simp;omega⟩
   ·exact absurd (h0 rfl) (by simp)
   ·refine ⟨by simp;exact hs.1,fun e=>by have:=hs.2 (h2 e rfl);simpa using this⟩
theorem unset_set {m:List (List Bool)} {b:Nat} {l:List Bool} (hb:b<m.length) (hl:l.length=(m.getD b []).length) (h:∀ v,gB (m.getD b []) v=true→gB l v=true):unset (m.set b l)≤unset m∧(m.getD b []≠l→unset (m.set b l)<unset m):=by
 induction m generalizing b with
 | nil=>simp at hb
 | cons x m ih =>
  cases b with
  | zero =>
   have:=count_le (a:=x) (b:=l) (by simpa using hl.symm) (by simpa using h)
   simp only[unset,List.set_cons_zero,List.map_cons,List.sum_cons,List.getD_cons_zero]at this ⊢
   exact ⟨by omega,fun e=>by have:=this.2 e;omega⟩
  | succ b =>
   have:=ih (b:=b) (by simpa using hb) (by simpa using hl) (by simpa using h)
   simp only[unset,List.set_cons_succ,List.map_cons,List.sum_cons,List.getD_cons_succ]at this ⊢
   exact ⟨by omega,fun e=>by have:=this.2 e;omega⟩
theorem nodup_le:∀ (n:Nat) (l:List Nat),l.Nodup→(∀ x ∈ l,x<n)→l.length≤n
 | 0,l,_,h=>by
  cases l with
  | nil=>exact Nat.le_refl _
  | cons x l=>exact absurd (h x (by simp)) (by omega)
 | n+1,l,hd,h=>by
  by_cases hm:n ∈ l
  ·have h1:=nodup_le n (l.erase n) (hd.erase n) fun x hx=>by
    have h2:=h x (List.mem_of_mem_erase hx)
    have h3:x≠n:=fun e=>by rw[e]at hx;exact (hd.not_mem_erase hx).elim
    omega
   rw[List.length_erase_of_mem hm]at h1
   omega
  ·have h1:=nodup_le n l hd fun x hx=>by
    have h2:=h x hx
    have h3:x≠n:=fun e=>hm (e▸hx)
    omega
   omega
def predL (f:BF) (b:Nat):List Nat:=(List.range f.n).flatMap fun a=>((nxt (f.bk a)).filter fun k=>decide (k.toNat=b)).map fun _=>a
theorem mem_pred {f:BF} {b a:Nat}:a ∈ predL f b↔a<f.n∧∃ k ∈ nxt (f.bk a),k.toNat=b:=by
 unfold predL
 simp only[List.mem_flatMap,List.mem_range,List.mem_map,List.mem_filter,decide_eq_true_eq]
 constructor
 ·rintro ⟨x,h1,k,⟨h2,h3⟩,rfl⟩
  exact ⟨h1,k,h2,h3⟩
 ·rintro ⟨h1,k,h2,h3⟩
  exact ⟨a,h1,k,⟨h2,h3⟩,rfl⟩
def waitS (wt:List Nat) (a:Nat):List Nat:=if a ∈ wt then wt else wt++[a]
def waitsS (wt:List Nat) (ls:List Nat):List Nat:=ls.foldl waitS wt
theorem mem_wait {wt:List Nat} {a x:Nat}:x ∈ waitS wt a↔x ∈ wt∨x=a:=by
 unfold waitS
 split
 ·rename_i h
  exact ⟨.inl,fun e=>by rcases e with e | e;exact e;rw[e];exact h⟩
 ·simp
theorem mem_waits:∀ {ls wt:List Nat} {x:Nat},x ∈ waitsS wt ls↔x ∈ wt∨x ∈ ls
 | [],wt,x=>by simp[waitsS]
 | a::ls,wt,x=>by
  show x ∈ waitsS (waitS wt a) ls↔_
  rw[mem_waits,mem_wait,List.mem_cons,or_assoc]
theorem nodup_wait {wt:List Nat} {a:Nat} (h:wt.Nodup):(waitS wt a).Nodup:=by
 unfold waitS
 split
 ·exact h
 ·rename_i h2
  rw[List.nodup_append]
  exact ⟨h,by simp,fun x hx y hy e=>by simp at hy;subst hy;subst e;exact h2 hx⟩
theorem nodup_waits:∀ {ls wt:List Nat},wt.Nodup→(waitsS wt ls).Nodup
 | [],_,h=>h
 | a::ls,_,h=>nodup_waits (ls:=ls) (nodup_wait h)
def grown (f:BF) (σ:SV) (b:Nat):List Bool:=aheadL (f.bk b) (newO f σ.I σ.O b)
def moreS (f:BF) (σ:SV) (b:Nat):Bool:=decide (σ.I.getD b []≠grown f σ b)
def growS (f:BF) (σ:SV) (b:Nat):SV:=⟨σ.I.set b (grown f σ b),σ.O.set b (newO f σ.I σ.O b),σ.wt⟩
def roundS (f:BF) (σ:SV) (w0:List Nat) (b:Nat):SV :=
 ⟨(growS f σ b).I,(growS f σ b).O,if moreS f σ b=true then waitsS w0 (predL f b) else w0⟩
structure SInv (f:BF) (σ:SV):Prop where
 sz:SizedP f σ.L
 un:Under f σ.L
 wn:∀ b ∈ σ.wt,b<f.n
 nd:σ.wt.Nodup
 low:∀ b<f.n,∀ v<f.r,gB (σ.I.getD b []) v=true→gB (aheadL (f.bk b) (σ.O.getD b [])) v=true
 ok:∀ b<f.n,b ∉ σ.wt→(∀ k ∈ nxt (f.bk b),∀ v<f.r,gB (σ.I.getD k.toNat []) v=true→gB (σ.O.getD b []) v=true) ∧
  ∀ v<f.r,gB (aheadL (f.bk b) (σ.O.getD b [])) v=true→gB (σ.I.getD b []) v=true
theorem SInv.wlen {f:BF} {σ:SV} (h:SInv f σ):σ.wt.length≤f.n:=nodup_le _ _ h.nd h.wn
def muS (f:BF) (σ:SV):Nat:=unset σ.I*(f.n+1)+σ.wt.length
section
variable {f:BF} {σ:SV} {b:Nat}
theorem newO_len (hf:Fine f) (h:SizedP f σ.L) (hb:b<f.n):(newO f σ.I σ.O b).length=f.r:=by
 unfold newO;rw[gath_len];exact h.ol hb
theorem grown_len (hf:Fine f) (h:SizedP f σ.L) (hb:b<f.n):(grown f σ b).length=f.r:=by
 unfold grown;rw[aheadL_len,newO_len hf h hb]
theorem newO_ge (hf:Fine f) (h:SizedP f σ.L) (hb:b<f.n) {v:Nat} (hv:v<f.r) (e:gB (σ.O.getD b []) v=true):gB (newO f σ.I σ.O b) v=true:=by
 unfold newO
 rw[gB_gath _ _ _ (by have:=h.ol hb;exact Nat.lt_of_lt_of_eq hv this.symm)]
 rw[show gB (σ.O.getD b default) v=true from e];rfl
theorem newO_way (hf:Fine f) (h:SizedP f σ.L) (hb:b<f.n) {k:Int} (hk:k ∈ nxt (f.bk b)) {v:Nat} (hv:v<f.r) (e:gB (σ.I.getD k.toNat []) v=true):gB (newO f σ.I σ.O b) v=true:=by
 unfold newO
 rw[gB_gath _ _ _ (by have:=h.ol hb;exact Nat.lt_of_lt_of_eq hv this.symm),Bool.or_eq_true]
 exact .inr (List.any_eq_true.2 ⟨k,hk,e⟩)
theorem grown_ge (hf:Fine f) (h:SInv f σ) (hb:b<f.n) {v:Nat} (hv:v<f.r) (e:gB (σ.I.getD b []) v=true):gB (grown f σ b) v=true:=by
 have h1:=h.low b hb v hv e
 rw[gB_ahead hf hb (σ.O.getD b []) (h.sz.ol hb) hv]at h1
 unfold grown
 rw[gB_ahead hf hb _ (newO_len hf h.sz hb) hv]
 exact (Tri.ahead1 _ v).mono (fun e=>newO_ge hf h.sz hb hv e) h1
theorem SInv.round (hf:Fine f) {w0:List Nat} (h:SInv f σ) (hw:σ.wt=w0++[b]):SInv f (roundS f σ w0 b)∧muS f (roundS f σ w0 b)<muS f σ:=by
 have hb:b<f.n:=h.wn b (by rw[hw];simp)
 have hbI:b<σ.I.length:=by rw[show σ.I.length=f.n from h.sz.i];exact hb
 have hbO:b<σ.O.length:=by rw[show σ.O.length=f.n from h.sz.o];exact hb
 have hnd:=h.nd
 rw[hw,List.nodup_append]at hnd
 have hb0:b ∉ w0:=fun e=>hnd.2.2 b e b (by simp) rfl
 have hol:=newO_len hf h.sz hb
 have hgl:=grown_len hf h.sz hb
 have hsz:SizedP f ⟨σ.I.set b (grown f σ b),σ.O.set b (newO f σ.I σ.O b)⟩:=(h.sz.setO hol).setI hgl
 have hI:∀ c,(σ.I.set b (grown f σ b)).getD c []=if b=c then grown f σ b else σ.I.getD c []:=fun c=>row_set hbI
 have hO:∀ c,(σ.O.set b (newO f σ.I σ.O b)).getD c []=if b=c then newO f σ.I σ.O b else σ.O.getD c []:=fun c=>row_set hbO
 have hsame:moreS f σ b=false→∀ c,(σ.I.set b (grown f σ b)).getD c []=σ.I.getD c []:=fun e c=>by
  rw[hI]
  have e':σ.I.getD b []=grown f σ b:=Classical.byContradiction fun g=>by rw[moreS,decide_eq_true g]at e;cases e
  by_cases hc:b=c
  ·rw[if_pos hc,← hc,e']
  ·rw[if_neg hc]
 have hun:Under f ⟨σ.I.set b (grown f σ b),σ.O.set b (newO f σ.I σ.O b)⟩:=by
  refine under_in hf (h.sz.setO hol) (under_out hf h.sz h.un hb) hb fun v hv e=>.inr ?_
  show gB (aheadL (f.bk b) ((σ.O.set b (newO f σ.I σ.O b)).getD b [])) v=true
  rw[hO,if_pos rfl];exact e
 have hmem:∀ c,c ∉ (roundS f σ w0 b).wt→c ∉ w0∧(moreS f σ b=true→c ∉ predL f b):=fun c hc=>by
  unfold roundS at hc
  simp only at hc
  split at hc
  ·rw[mem_waits]at hc
   exact ⟨fun e=>hc (.inl e),fun _ e=>hc (.inr e)⟩
  ·rename_i hm
   exact ⟨hc,fun e=>absurd e hm⟩
 refine ⟨⟨hsz,hun,fun c hc=>?_,?_,fun c hc v hv e=>?_,fun c hc hw'=>?_⟩,?_⟩
 ·unfold roundS at hc
  simp only at hc
  have hw0:∀ c ∈ w0,c<f.n:=fun c hc=>h.wn c (by rw[hw];simp[hc])
  split at hc
  ·rcases mem_waits.1 hc with g | g
   ·exact hw0 c g
   ·exact (mem_pred.1 g).1
  ·exact hw0 c hc
 ·unfold roundS
  simp only
  split
  ·exact nodup_waits hnd.1
  ·exact hnd.1
 ·have e':gB ((σ.I.set b (grown f σ b)).getD c []) v=true:=e
  show gB (aheadL (f.bk c) ((σ.O.set b (newO f σ.I σ.O b)).getD c [])) v=true
  rw[hI]at e'
  rw[hO]
  by_cases hbc:b=c
  ·subst hbc
   rw[if_pos rfl]at e' ⊢
   exact e'
  ·rw[if_neg hbc]at e' ⊢
   exact h.low c hc v hv e'
 ·obtain ⟨g1,g2⟩:=hmem c hw'
  show (∀ k ∈ nxt (f.bk c),∀ v<f.r,gB ((σ.I.set b (grown f σ b)).getD k.toNat []) v=true→gB ((σ.O.set b (newO f σ.I σ.O b)).getD c []) v=true) ∧
   ∀ v<f.r,gB (aheadL (f.bk c) ((σ.O.set b (newO f σ.I σ.O b)).getD c [])) v=true→gB ((σ.I.set b (grown f σ b)).getD c []) v=true
  have hk':∀ k ∈ nxt (f.bk c),(σ.I.set b (grown f σ b)).getD k.toNat []=σ.I.getD k.toNat []:=fun k hk=>by
   cases hm:moreS f σ b
   ·exact hsame hm _
   ·rw[hI,if_neg]
    exact fun e=>g2 hm (mem_pred.2 ⟨hc,k,hk,e.symm⟩)
  by_cases hbc:b=c
  ·subst hbc
   rw[hO,if_pos rfl,hI,if_pos rfl]
   refine ⟨fun k hk v hv e=>?_,fun v hv e=>e⟩
   rw[hk' k hk]at e
   exact newO_way hf h.sz hb hk hv e
  ·rw[hO,if_neg hbc,hI c,if_neg hbc]
   have hcw:c ∉ σ.wt:=by
    rw[hw];simp only[List.mem_append,List.mem_singleton,not_or]
    exact ⟨g1,fun e=>hbc e.symm⟩
   refine ⟨fun k hk v hv e=>?_,(h.ok c hc hcw).2⟩
   rw[hk' k hk]at e
   exact (h.ok c hc hcw).1 k hk v hv e
 ·have hu:=unset_set (m:=σ.I) (b:=b) (l:=grown f σ b) hbI (by rw[hgl];exact (h.sz.il hb).symm) (fun v e=>by
   rcases Nat.lt_or_ge v f.r with hv | hv
   ·exact grown_ge hf h hb hv e
   ·rw[gB_out (by rw[show (σ.I.getD b []).length=f.r from h.sz.il hb];exact hv)]at e;cases e)
  have hwl:w0.length+1=σ.wt.length:=by rw[hw];simp
  have hwn:σ.wt.length≤f.n:=h.wlen
  unfold muS roundS
  simp only[growS]
  cases hm:moreS f σ b
  ·simp only[Bool.false_eq_true,if_false]
   have:=Nat.mul_le_mul_right (f.n+1) hu.1
   omega
  ·simp only[if_true]
   have hlt:=hu.2 (of_decide_eq_true hm)
   have h1:=Nat.mul_le_mul_right (f.n+1) (show unset (σ.I.set b (grown f σ b))+1≤unset σ.I from hlt)
   rw[Nat.add_mul,Nat.one_mul]at h1
   have h2:(waitsS w0 (predL f b)).length≤f.n:=nodup_le _ _ (nodup_waits hnd.1) fun c hc=>by
    rcases mem_waits.1 hc with g | g
    ·exact h.wn c (by rw[hw];simp[g])
    ·exact (mem_pred.1 g).1
   omega
theorem SInv.least (hf:Fine f) (h:SInv f σ) (hw:σ.wt=[]):Least f σ.L:=by
 refine ⟨⟨h.sz,⟨fun b hb k hk v hv e=>(h.ok b hb (by rw[hw];simp)).1 k hk v hv e,fun b hb v hv e=>?_⟩⟩,h.un⟩
 refine (h.ok b hb (by rw[hw];simp)).2 v hv ?_
 rw[gB_ahead hf hb (σ.O.getD b []) (h.sz.ol hb) hv]
 exact e
def beginS (f:BF):SV:=⟨List.replicate f.n (List.replicate f.r false),List.replicate f.n (List.replicate f.r false),List.range f.n⟩
theorem rep_row (n r b v:Nat):gB ((List.replicate n (List.replicate r false)).getD b []) v=false:=by
 rw[List.getD,List.getElem?_replicate]
 split
 ·exact gB_rep r v
 ·rfl
theorem begin_inv (f:BF):SInv f (beginS f):=by
 refine ⟨⟨by simp[beginS,SV.L],by simp[beginS,SV.L],fun l hl=>?_,fun l hl=>?_⟩,fun I O _ b _ v _=>⟨fun e=>?_,fun e=>?_⟩,fun b hb=>by simpa [beginS] using hb,List.nodup_range,fun b hb v hv e=>?_,fun b hb hw=>absurd (by simpa [beginS] using hb) hw⟩
 ·simp[beginS,SV.L]at hl;rw[hl.2];simp
 ·simp[beginS,SV.L]at hl;rw[hl.2];simp
 ·have:gB ((List.replicate f.n (List.replicate f.r false)).getD b []) v=true:=e
  rw[rep_row]at this;cases this
 ·have:gB ((List.replicate f.n (List.replicate f.r false)).getD b []) v=true:=e
  rw[rep_row]at this;cases this
 ·have:gB ((List.replicate f.n (List.replicate f.r false)).getD b []) v=true:=e
  rw[rep_row]at this;cases this
end
structure PV where
 I:List (List Bool)
 O:List (List Bool)
 m:Bool
def inOf (f:BF) (I O:List (List Bool)) (b:Nat):List Bool:=aheadL (f.bk b) (newO f I O b)
def stepR (f:BF) (p:PV) (b:Nat):PV:=⟨p.I.set b (orL (p.I.getD b []) (inOf f p.I p.O b)),p.O.set b (newO f p.I p.O b),p.m || decide (orL (p.I.getD b []) (inOf f p.I p.O b)≠p.I.getD b [])⟩
structure RInv (f:BF) (I O:List (List Bool)):Prop where
 sz:SizedP f ⟨I,O⟩
 un:Under f ⟨I,O⟩
section
variable {f:BF}
theorem RInv.olen (hf:Fine f) {I O:List (List Bool)} (h:RInv f I O) {b:Nat} (hb:b<f.n):(newO f I O b).length=f.r:=newO_len (σ:=⟨I,O,[]⟩) hf h.sz hb
theorem RInv.step (hf:Fine f) {p:PV} (h:RInv f p.I p.O) {b:Nat} (hb:b<f.n):RInv f (stepR f p b).I (stepR f p b).O:=by
 have hbO:b<p.O.length:=by rw[show p.O.length=f.n from h.sz.o];exact hb
 have hil:(p.I.getD b []).length=f.r:=h.sz.il hb
 have hs1:=h.sz.setO (b:=b) (h.olen hf hb)
 refine ⟨hs1.setI (by rw[orL_len,hil]),under_in hf hs1 (under_out hf h.sz h.un hb) hb fun v hv e=>?_⟩
 rw[gB_or _ _ (by rw[hil];exact hv),Bool.or_eq_true]at e
 rcases e with e | e
 ·exact .inl e
 ·refine .inr ?_
  rw[row_set hbO,if_pos rfl]
  exact e
end
set_option maxRecDepth 10000
open Go.V
section
variable {α:Type} [Inhabited α] {l:List α} {p:α→Bool} {k:Nat}
theorem all_stop (hk:k<l.length) (h:p (l.getD k default)=false):l.all p=false:=by
 rw[List.all_eq_false]
 exact ⟨_,mem_getD hk,by rw[h];decide⟩
theorem all_step (hk:k<l.length) (h0:(l.take k).all p=true) (h:p (l.getD k default)=true):(l.take (k+1)).all p=true:=by
 have e:l.take (k+1)=l.take k++[l.getD k default]:=by rw[List.take_add_one];simp[List.getD,List.getElem?_eq_getElem hk]
 rw[e,List.all_append,h0];simp only[List.all_cons,List.all_nil,Bool.and_true,Bool.true_and];exact h
omit [Inhabited α] in
theorem all_end (hk:l.length≤k) (h0:(l.take k).all p=true):l.all p=true:=by
 rw[List.take_of_length_le hk]at h0;exact h0
end
theorem one_imm' {sz:Nat} {xs:List AV}:(AV.imm sz xs).one=true:=rfl
theorem i64_lit1:IntKind.i64.wrap (0+1)=1:=by decide
theorem i64_lit2:IntKind.i64.wrap (1+1)=2:=by decide
theorem Nat.cast_zero':((0:Nat):Int)=0:=rfl
theorem Nat.cast_one':((1:Nat):Int)=1:=rfl
def inB (i n:Int):Bool:=decide (0≤i∧i<n)
theorem rwithin_c (i n:Int):Contract Try.prog 80 [I i,I n] (fun r=>r=B (inB i n)):=by
 refine Contract.of_call (VCall.of_body hmix f_scref24_within (by simp) ?_)
 by_cases h:0≤i
 ·simp only[go_sem,c_scref24_within,h]
  exact ⟨_,Frz.pure rfl,by simp[inB,h]⟩
 ·simp only[go_sem,c_scref24_within,h]
  exact ⟨_,Frz.pure rfl,by simp[inB,h]⟩
def restT (t:Tac) (f words:Int):Prop :=
 if t.op=3 then 4≤t.k∧t.k≤15∧t.base=0∧t.size=0
 else t.k=0∧(if t.op=4∨t.op=5 then 0≤t.base∧t.base<words∧t.size=0
  else if t.op=6∨t.op=7 then 1≤t.size∧t.size≤4096∧0≤t.base∧t.base≤words-t.size
  else if t.op=10 then 0≤t.base∧t.base<f∧t.size=0
  else t.base=0∧t.size=0)
def FitsT (t:Tac) (f regs words:Int):Prop :=
 1≤t.op∧t.op≤10∧(if SetsT t then 0≤t.d∧t.d<regs else t.d=0)∧(∀ u ∈ usesL t,0≤u∧u<regs) ∧
 (usesL t=[]→t.a=0)∧((usesL t).length≤1→t.b=0)∧(t.op=1∨t.n=0)∧restT t f words
instance (t:Tac) (f w:Int):Decidable (restT t f w):=by unfold restT;exact inferInstance
instance (t:Tac) (f r w:Int):Decidable (FitsT t f r w):=by unfold FitsT;exact inferInstance
def fitsT (t:Tac) (f regs words:Int):Bool:=decide (FitsT t f regs words)
theorem rfits_1 (d a b k base size n f regs words:Int) (hw:0≤words∧words≤1048576):Contract Try.prog 59 [tacA ⟨1,d,a,b,k,base,size,n⟩,I f,I regs,I words] (fun r=>r=B (fitsT ⟨1,d,a,b,k,base,size,n⟩ f regs words)):=by
 refine Contract.of_call (VCall.of_body hmix f_scref24_fits (by simp) ?_)
 have hus:usesL ⟨1,d,a,b,k,base,size,n⟩=[]:=by simp[usesL]
 obtain ⟨x,hx⟩:∃ x,fitsT ⟨1,d,a,b,k,base,size,n⟩ f regs words=x:=⟨_,rfl⟩
 rw[hx]
 have hX:(x=true↔FitsT ⟨1,d,a,b,k,base,size,n⟩ f regs words):=by rw[← hx];exact decide_eq_true_iff
 simp only[FitsT,hus,restT,SetsT,Int.reduceEq,or_false,or_true,false_or,true_or,or_self,if_true,if_false,List.mem_cons,List.not_mem_nil,forall_eq_or_imp,forall_eq,false_implies,implies_true,true_and,and_true,Int.reduceLE,List.length_cons,List.length_nil,Nat.reduceAdd,Nat.reduceLeDiff,Nat.le_refl,forall_const,reduceCtorEq,Nat.zero_le]at hX
 cases hd:inB d regs
 ·have hx0:x=false:=by
   cases x
   ·rfl
   ·have:=hX.1 rfl;have h2:=of_decide_eq_false hd;omega
  subst hx0
  by_cases h0:0≤d
  ·simp only[go_sem,c_scref24_fits,Int.reduceEq,Int.reduceBEq,setsL,SetsT,or_false,or_true,false_or,true_or,or_self,hus,Int.reduceNeg]
   refine VCall.of_contract (refsets_c ⟨1,d,a,b,k,base,size,n⟩) (SleL.pure rfl) fun r hr=>?_
   subst hr
   simp only[go_sem,Int.reduceEq,Int.reduceBEq,setsL,SetsT,or_false,or_true,false_or,true_or,or_self,hus,Int.reduceNeg,eq_true h0]
   refine VCall.of_contract (rwithin_c _ _) (SleL.pure rfl) fun r hr=>?_
   subst hr
   simp only[go_sem,hd]
   exact ⟨_,Frz.pure rfl,rfl⟩
  ·simp only[go_sem,c_scref24_fits,Int.reduceEq,Int.reduceBEq,setsL,SetsT,or_false,or_true,false_or,true_or,or_self,hus,Int.reduceNeg]
   refine VCall.of_contract (refsets_c ⟨1,d,a,b,k,base,size,n⟩) (SleL.pure rfl) fun r hr=>?_
   subst hr
   simp only[go_sem,Int.reduceEq,Int.reduceBEq,setsL,SetsT,or_false,or_true,false_or,true_or,or_self,hus,Int.reduceNeg,eq_false h0]
   refine VCall.of_contract (rwithin_c _ _) (SleL.pure rfl) fun r hr=>?_
   subst hr
   simp only[go_sem,hd]
   exact ⟨_,Frz.pure rfl,rfl⟩
 have h0:=(of_decide_eq_true hd).1
 have h0':=(of_decide_eq_true hd).2
 simp only[go_sem,c_scref24_fits,Int.reduceEq,Int.reduceBEq,setsL,SetsT,or_false,or_true,false_or,true_or,or_self,hus,Int.reduceNeg]
 refine VCall.of_contract (refsets_c ⟨1,d,a,b,k,base,size,n⟩) (SleL.pure rfl) fun r hr=>?_
 subst hr
 simp only[go_sem,Int.reduceEq,Int.reduceBEq,setsL,SetsT,or_false,or_true,false_or,true_or,or_self,hus,Int.reduceNeg,eq_true h0]
 refine VCall.of_contract (rwithin_c _ _) (SleL.pure rfl) fun r hr=>?_
 subst hr
 simp only[go_sem,Int.reduceEq,Int.reduceBEq,setsL,SetsT,or_false,or_true,false_or,true_or,or_self,hus,Int.reduceNeg,hd]
 refine VCall.of_contractN (refuses_c ⟨1,d,a,b,k,base,size,n⟩) ?_ fun r hr=>?_
 ·exact ⟨_,_,rfl,Frz.pure rfl,rfl⟩
 subst hr
 simp only[go_sem,Int.reduceEq,Int.reduceBEq,setsL,SetsT,or_false,or_true,false_or,true_or,or_self,hus,Int.reduceNeg]
 refine VW_loop (fun i:Nat=>⟨[(1,I f),(2,I regs),(3,I words),(4,.ptr 0 0 0),(9,.ptr 1 1 0),(10,ints []),(11,I i)],[⟨0,47,1,tacL ⟨1,d,a,b,k,base,size,n⟩⟩,⟨1,47,1,[I 1,I d,I 0,I 0,I 0,I 0,I 0,U32 0]⟩],2⟩)
  (fun i=>i≤0∧∀ j<i,inB (([]:List Int).getD j default) regs=true) (fun i=>0-i) 0 (Wk.mk (by simp[get_cons]) ⟨[],rfl⟩ (Nat.le_refl _)) ⟨by omega,by omega⟩ ?_
 rintro i ⟨hi,hin⟩
 obtain rfl:i=0:=by omega
 simp only[go_sem,Int.reduceEq,Int.reduceBEq,setsL,SetsT,or_false,or_true,false_or,true_or,or_self,hus,Int.reduceNeg,Int.cast_ofNat_Int,Nat.cast_zero',Nat.cast_one']
 have hwr:1≤size→size≤4096→IntKind.i64.wrap (words-size)=words-size:=fun h1 h2=>i64_in (by omega) (by omega)
 repeat' (first | (with_reducible apply And.intro) | (with_reducible intro _))
 all_goals
  refine ⟨_,Frz.pure rfl,?_⟩
  try (rename_i h1 h2 h3 h4;rw[hwr (by omega) (by omega)]at h4)
  congr 2
  rw[Bool.eq_iff_iff,hX]
  simp only[Bool.and_eq_true,beq_iff_eq,true_and,and_true,Bool.false_eq_true,false_iff,not_and,and_imp]
  first | omega | (intros;omega)
theorem rfits_2 (d a b k base size n f regs words:Int) (hw:0≤words∧words≤1048576):Contract Try.prog 59 [tacA ⟨2,d,a,b,k,base,size,n⟩,I f,I regs,I words] (fun r=>r=B (fitsT ⟨2,d,a,b,k,base,size,n⟩ f regs words)):=by
 refine Contract.of_call (VCall.of_body hmix f_scref24_fits (by simp) ?_)
 have hus:usesL ⟨2,d,a,b,k,base,size,n⟩=[a]:=by simp[usesL]
 obtain ⟨x,hx⟩:∃ x,fitsT ⟨2,d,a,b,k,base,size,n⟩ f regs words=x:=⟨_,rfl⟩
 rw[hx]
 have hX:(x=true↔FitsT ⟨2,d,a,b,k,base,size,n⟩ f regs words):=by rw[← hx];exact decide_eq_true_iff
 simp only[FitsT,hus,restT,SetsT,Int.reduceEq,or_false,or_true,false_or,true_or,or_self,if_true,if_false,List.mem_cons,List.not_mem_nil,forall_eq_or_imp,forall_eq,false_implies,implies_true,true_and,and_true,Int.reduceLE,List.length_cons,List.length_nil,Nat.reduceAdd,Nat.reduceLeDiff,Nat.le_refl,forall_const,reduceCtorEq,Nat.zero_le]at hX
 cases hd:inB d regs
 ·have hx0:x=false:=by
   cases x
   ·rfl
   ·have:=hX.1 rfl;have h2:=of_decide_eq_false hd;omega
  subst hx0
  by_cases h0:0≤d
  ·simp only[go_sem,c_scref24_fits,Int.reduceEq,Int.reduceBEq,setsL,SetsT,or_false,or_true,false_or,true_or,or_self,hus,Int.reduceNeg]
   refine VCall.of_contract (refsets_c ⟨2,d,a,b,k,base,size,n⟩) (SleL.pure rfl) fun r hr=>?_
   subst hr
   simp only[go_sem,Int.reduceEq,Int.reduceBEq,setsL,SetsT,or_false,or_true,false_or,true_or,or_self,hus,Int.reduceNeg,eq_true h0]
   refine VCall.of_contract (rwithin_c _ _) (SleL.pure rfl) fun r hr=>?_
   subst hr
   simp only[go_sem,hd]
   exact ⟨_,Frz.pure rfl,rfl⟩
  ·simp only[go_sem,c_scref24_fits,Int.reduceEq,Int.reduceBEq,setsL,SetsT,or_false,or_true,false_or,true_or,or_self,hus,Int.reduceNeg]
   refine VCall.of_contract (refsets_c ⟨2,d,a,b,k,base,size,n⟩) (SleL.pure rfl) fun r hr=>?_
   subst hr
   simp only[go_sem,Int.reduceEq,Int.reduceBEq,setsL,SetsT,or_false,or_true,false_or,true_or,or_self,hus,Int.reduceNeg,eq_false h0]
   refine VCall.of_contract (rwithin_c _ _) (SleL.pure rfl) fun r hr=>?_
   subst hr
   simp only[go_sem,hd]
   exact ⟨_,Frz.pure rfl,rfl⟩
 have h0:=(of_decide_eq_true hd).1
 have h0':=(of_decide_eq_true hd).2
 simp only[go_sem,c_scref24_fits,Int.reduceEq,Int.reduceBEq,setsL,SetsT,or_false,or_true,false_or,true_or,or_self,hus,Int.reduceNeg]
 refine VCall.of_contract (refsets_c ⟨2,d,a,b,k,base,size,n⟩) (SleL.pure rfl) fun r hr=>?_
 subst hr
 simp only[go_sem,Int.reduceEq,Int.reduceBEq,setsL,SetsT,or_false,or_true,false_or,true_or,or_self,hus,Int.reduceNeg,eq_true h0]
 refine VCall.of_contract (rwithin_c _ _) (SleL.pure rfl) fun r hr=>?_
 subst hr
 simp only[go_sem,Int.reduceEq,Int.reduceBEq,setsL,SetsT,or_false,or_true,false_or,true_or,or_self,hus,Int.reduceNeg,hd]
 refine VCall.of_contractN (refuses_c ⟨2,d,a,b,k,base,size,n⟩) ?_ fun r hr=>?_
 ·exact ⟨_,_,rfl,Frz.pure rfl,rfl⟩
 subst hr
 simp only[go_sem,Int.reduceEq,Int.reduceBEq,setsL,SetsT,or_false,or_true,false_or,true_or,or_self,hus,Int.reduceNeg]
 refine VW_loop (fun i:Nat=>⟨[(1,I f),(2,I regs),(3,I words),(4,.ptr 0 0 0),(9,.ptr 1 1 0),(10,ints [a]),(11,I i)],[⟨0,47,1,tacL ⟨2,d,a,b,k,base,size,n⟩⟩,⟨1,47,1,[I 2,I d,I 0,I 0,I 0,I 0,I 0,U32 0]⟩],2⟩)
  (fun i=>i≤1∧∀ j<i,inB (([a]:List Int).getD j default) regs=true) (fun i=>1-i) 0 (Wk.mk (by simp[get_cons]) ⟨[],rfl⟩ (Nat.le_refl _)) ⟨by omega,by omega⟩ ?_
 rintro i ⟨hi,hin⟩
 by_cases hi0:i=0
 ·subst hi0
  simp only[go_sem,Int.reduceEq,Int.reduceBEq,setsL,SetsT,or_false,or_true,false_or,true_or,or_self,hus,Int.reduceNeg,Int.cast_ofNat_Int,Nat.cast_zero',Nat.cast_one']
  refine VCall.of_contract (rwithin_c _ _) (SleL.pure rfl) fun r hr=>?_
  subst hr
  cases hu:inB a regs
  ·simp only[go_sem,hu]
   refine ⟨_,Frz.pure rfl,?_⟩
   have h2:=of_decide_eq_false hu
   cases x
   ·rfl
   ·have:=hX.1 rfl;omega
  ·simp only[go_sem,hu,i64_lit1,i64_lit2]
   refine ⟨1,⟨by omega,fun j hj=>?_⟩,by omega,Wk.mk (by simp[get_cons]) ⟨[],rfl⟩ (Nat.le_refl _)⟩
   by_cases e:j=0
   ·subst e;exact hu
   ·exact hin j (by omega)
 obtain rfl:i=1:=by omega
 have hu0:=of_decide_eq_true (hin 0 (by omega))
 simp only[List.getD_cons_zero,List.getD_cons_succ]at hu0
 simp only[go_sem,Int.reduceEq,Int.reduceBEq,setsL,SetsT,or_false,or_true,false_or,true_or,or_self,hus,Int.reduceNeg,Int.cast_ofNat_Int,Nat.cast_zero',Nat.cast_one']
 have hwr:1≤size→size≤4096→IntKind.i64.wrap (words-size)=words-size:=fun h1 h2=>i64_in (by omega) (by omega)
 repeat' (first | (with_reducible apply And.intro) | (with_reducible intro _))
 all_goals
  refine ⟨_,Frz.pure rfl,?_⟩
  try (rename_i h1 h2 h3 h4;rw[hwr (by omega) (by omega)]at h4)
  congr 2
  rw[Bool.eq_iff_iff,hX]
  simp only[Bool.and_eq_true,beq_iff_eq,true_and,and_true,Bool.false_eq_true,false_iff,not_and,and_imp]
  first | omega | (intros;omega)
theorem rfits_3 (d a b k base size n f regs words:Int) (hw:0≤words∧words≤1048576):Contract Try.prog 59 [tacA ⟨3,d,a,b,k,base,size,n⟩,I f,I regs,I words] (fun r=>r=B (fitsT ⟨3,d,a,b,k,base,size,n⟩ f regs words)):=by
 refine Contract.of_call (VCall.of_body hmix f_scref24_fits (by simp) ?_)
 have hus:usesL ⟨3,d,a,b,k,base,size,n⟩=[a,b]:=by simp[usesL]
 obtain ⟨x,hx⟩:∃ x,fitsT ⟨3,d,a,b,k,base,size,n⟩ f regs words=x:=⟨_,rfl⟩
 rw[hx]
 have hX:(x=true↔FitsT ⟨3,d,a,b,k,base,size,n⟩ f regs words):=by rw[← hx];exact decide_eq_true_iff
 simp only[FitsT,hus,restT,SetsT,Int.reduceEq,or_false,or_true,false_or,true_or,or_self,if_true,if_false,List.mem_cons,List.not_mem_nil,forall_eq_or_imp,forall_eq,false_implies,implies_true,true_and,and_true,Int.reduceLE,List.length_cons,List.length_nil,Nat.reduceAdd,Nat.reduceLeDiff,Nat.le_refl,forall_const,reduceCtorEq,Nat.zero_le]at hX
 cases hd:inB d regs
 ·have hx0:x=false:=by
   cases x
   ·rfl
   ·have:=hX.1 rfl;have h2:=of_decide_eq_false hd;omega
  subst hx0
  by_cases h0:0≤d
  ·simp only[go_sem,c_scref24_fits,Int.reduceEq,Int.reduceBEq,setsL,SetsT,or_false,or_true,false_or,true_or,or_self,hus,Int.reduceNeg]
   refine VCall.of_contract (refsets_c ⟨3,d,a,b,k,base,size,n⟩) (SleL.pure rfl) fun r hr=>?_
   subst hr
   simp only[go_sem,Int.reduceEq,Int.reduceBEq,setsL,SetsT,or_false,or_true,false_or,true_or,or_self,hus,Int.reduceNeg,eq_true h0]
   refine VCall.of_contract (rwithin_c _ _) (SleL.pure rfl) fun r hr=>?_
   subst hr
   simp only[go_sem,hd]
   exact ⟨_,Frz.pure rfl,rfl⟩
  ·simp only[go_sem,c_scref24_fits,Int.reduceEq,Int.reduceBEq,setsL,SetsT,or_false,or_true,false_or,true_or,or_self,hus,Int.reduceNeg]
   refine VCall.of_contract (refsets_c ⟨3,d,a,b,k,base,size,n⟩) (SleL.pure rfl) fun r hr=>?_
   subst hr
   simp only[go_sem,Int.reduceEq,Int.reduceBEq,setsL,SetsT,or_false,or_true,false_or,true_or,or_self,hus,Int.reduceNeg,eq_false h0]
   refine VCall.of_contract (rwithin_c _ _) (SleL.pure rfl) fun r hr=>?_
   subst hr
   simp only[go_sem,hd]
   exact ⟨_,Frz.pure rfl,rfl⟩
 have h0:=(of_decide_eq_true hd).1
 have h0':=(of_decide_eq_true hd).2
 simp only[go_sem,c_scref24_fits,Int.reduceEq,Int.reduceBEq,setsL,SetsT,or_false,or_true,false_or,true_or,or_self,hus,Int.reduceNeg]
 refine VCall.of_contract (refsets_c ⟨3,d,a,b,k,base,size,n⟩) (SleL.pure rfl) fun r hr=>?_
 subst hr
 simp only[go_sem,Int.reduceEq,Int.reduceBEq,setsL,SetsT,or_false,or_true,false_or,true_or,or_self,hus,Int.reduceNeg,eq_true h0]
 refine VCall.of_contract (rwithin_c _ _) (SleL.pure rfl) fun r hr=>?_
 subst hr
 simp only[go_sem,Int.reduceEq,Int.reduceBEq,setsL,SetsT,or_false,or_true,false_or,true_or,or_self,hus,Int.reduceNeg,hd]
 refine VCall.of_contractN (refuses_c ⟨3,d,a,b,k,base,size,n⟩) ?_ fun r hr=>?_
 ·exact ⟨_,_,rfl,Frz.pure rfl,rfl⟩
 subst hr
 simp only[go_sem,Int.reduceEq,Int.reduceBEq,setsL,SetsT,or_false,or_true,false_or,true_or,or_self,hus,Int.reduceNeg]
 refine VW_loop (fun i:Nat=>⟨[(1,I f),(2,I regs),(3,I words),(4,.ptr 0 0 0),(9,.ptr 1 1 0),(10,ints [a,b]),(11,I i)],[⟨0,47,1,tacL ⟨3,d,a,b,k,base,size,n⟩⟩,⟨1,47,1,[I 3,I d,I 0,I 0,I 0,I 0,I 0,U32 0]⟩],2⟩)
  (fun i=>i≤2∧∀ j<i,inB (([a,b]:List Int).getD j default) regs=true) (fun i=>2-i) 0 (Wk.mk (by simp[get_cons]) ⟨[],rfl⟩ (Nat.le_refl _)) ⟨by omega,by omega⟩ ?_
 rintro i ⟨hi,hin⟩
 by_cases hi0:i=0
 ·subst hi0
  simp only[go_sem,Int.reduceEq,Int.reduceBEq,setsL,SetsT,or_false,or_true,false_or,true_or,or_self,hus,Int.reduceNeg,Int.cast_ofNat_Int,Nat.cast_zero',Nat.cast_one']
  refine VCall.of_contract (rwithin_c _ _) (SleL.pure rfl) fun r hr=>?_
  subst hr
  cases hu:inB a regs
  ·simp only[go_sem,hu]
   refine ⟨_,Frz.pure rfl,?_⟩
   have h2:=of_decide_eq_false hu
   cases x
   ·rfl
   ·have:=hX.1 rfl;omega
  ·simp only[go_sem,hu,i64_lit1,i64_lit2]
   refine ⟨1,⟨by omega,fun j hj=>?_⟩,by omega,Wk.mk (by simp[get_cons]) ⟨[],rfl⟩ (Nat.le_refl _)⟩
   by_cases e:j=0
   ·subst e;exact hu
   ·exact hin j (by omega)
 by_cases hi1:i=1
 ·subst hi1
  simp only[go_sem,Int.reduceEq,Int.reduceBEq,setsL,SetsT,or_false,or_true,false_or,true_or,or_self,hus,Int.reduceNeg,Int.cast_ofNat_Int,Nat.cast_zero',Nat.cast_one']
  refine VCall.of_contract (rwithin_c _ _) (SleL.pure rfl) fun r hr=>?_
  subst hr
  cases hu:inB b regs
  ·simp only[go_sem,hu]
   refine ⟨_,Frz.pure rfl,?_⟩
   have h2:=of_decide_eq_false hu
   cases x
   ·rfl
   ·have:=hX.1 rfl;omega
  ·simp only[go_sem,hu,i64_lit1,i64_lit2]
   refine ⟨2,⟨by omega,fun j hj=>?_⟩,by omega,Wk.mk (by simp[get_cons]) ⟨[],rfl⟩ (Nat.le_refl _)⟩
   by_cases e:j=1
   ·subst e;exact hu
   ·exact hin j (by omega)
 obtain rfl:i=2:=by omega
 have hu0:=of_decide_eq_true (hin 0 (by omega))
 simp only[List.getD_cons_zero,List.getD_cons_succ]at hu0
 have hu1:=of_decide_eq_true (hin 1 (by omega))
 simp only[List.getD_cons_zero,List.getD_cons_succ]at hu1
 simp only[go_sem,Int.reduceEq,Int.reduceBEq,setsL,SetsT,or_false,or_true,false_or,true_or,or_self,hus,Int.reduceNeg,Int.cast_ofNat_Int,Nat.cast_zero',Nat.cast_one']
 have hwr:1≤size→size≤4096→IntKind.i64.wrap (words-size)=words-size:=fun h1 h2=>i64_in (by omega) (by omega)
 repeat' (first | (with_reducible apply And.intro) | (with_reducible intro _))
 all_goals
  refine ⟨_,Frz.pure rfl,?_⟩
  try (rename_i h1 h2 h3 h4;rw[hwr (by omega) (by omega)]at h4)
  congr 2
  rw[Bool.eq_iff_iff,hX]
  simp only[Bool.and_eq_true,beq_iff_eq,true_and,and_true,Bool.false_eq_true,false_iff,not_and,and_imp]
  first | omega | (intros;omega)
theorem rfits_4 (d a b k base size n f regs words:Int) (hw:0≤words∧words≤1048576):Contract Try.prog 59 [tacA ⟨4,d,a,b,k,base,size,n⟩,I f,I regs,I words] (fun r=>r=B (fitsT ⟨4,d,a,b,k,base,size,n⟩ f regs words)):=by
 refine Contract.of_call (VCall.of_body hmix f_scref24_fits (by simp) ?_)
 have hus:usesL ⟨4,d,a,b,k,base,size,n⟩=[]:=by simp[usesL]
 obtain ⟨x,hx⟩:∃ x,fitsT ⟨4,d,a,b,k,base,size,n⟩ f regs words=x:=⟨_,rfl⟩
 rw[hx]
 have hX:(x=true↔FitsT ⟨4,d,a,b,k,base,size,n⟩ f regs words):=by rw[← hx];exact decide_eq_true_iff
 simp only[FitsT,hus,restT,SetsT,Int.reduceEq,or_false,or_true,false_or,true_or,or_self,if_true,if_false,List.mem_cons,List.not_mem_nil,forall_eq_or_imp,forall_eq,false_implies,implies_true,true_and,and_true,Int.reduceLE,List.length_cons,List.length_nil,Nat.reduceAdd,Nat.reduceLeDiff,Nat.le_refl,forall_const,reduceCtorEq,Nat.zero_le]at hX
 cases hd:inB d regs
 ·have hx0:x=false:=by
   cases x
   ·rfl
   ·have:=hX.1 rfl;have h2:=of_decide_eq_false hd;omega
  subst hx0
  by_cases h0:0≤d
  ·simp only[go_sem,c_scref24_fits,Int.reduceEq,Int.reduceBEq,setsL,SetsT,or_false,or_true,false_or,true_or,or_self,hus,Int.reduceNeg]
   refine VCall.of_contract (refsets_c ⟨4,d,a,b,k,base,size,n⟩) (SleL.pure rfl) fun r hr=>?_
   subst hr
   simp only[go_sem,Int.reduceEq,Int.reduceBEq,setsL,SetsT,or_false,or_true,false_or,true_or,or_self,hus,Int.reduceNeg,eq_true h0]
   refine VCall.of_contract (rwithin_c _ _) (SleL.pure rfl) fun r hr=>?_
   subst hr
   simp only[go_sem,hd]
   exact ⟨_,Frz.pure rfl,rfl⟩
  ·simp only[go_sem,c_scref24_fits,Int.reduceEq,Int.reduceBEq,setsL,SetsT,or_false,or_true,false_or,true_or,or_self,hus,Int.reduceNeg]
   refine VCall.of_contract (refsets_c ⟨4,d,a,b,k,base,size,n⟩) (SleL.pure rfl) fun r hr=>?_
   subst hr
   simp only[go_sem,Int.reduceEq,Int.reduceBEq,setsL,SetsT,or_false,or_true,false_or,true_or,or_self,hus,Int.reduceNeg,eq_false h0]
   refine VCall.of_contract (rwithin_c _ _) (SleL.pure rfl) fun r hr=>?_
   subst hr
   simp only[go_sem,hd]
   exact ⟨_,Frz.pure rfl,rfl⟩
 have h0:=(of_decide_eq_true hd).1
 have h0':=(of_decide_eq_true hd).2
 simp only[go_sem,c_scref24_fits,Int.reduceEq,Int.reduceBEq,setsL,SetsT,or_false,or_true,false_or,true_or,or_self,hus,Int.reduceNeg]
 refine VCall.of_contract (refsets_c ⟨4,d,a,b,k,base,size,n⟩) (SleL.pure rfl) fun r hr=>?_
 subst hr
 simp only[go_sem,Int.reduceEq,Int.reduceBEq,setsL,SetsT,or_false,or_true,false_or,true_or,or_self,hus,Int.reduceNeg,eq_true h0]
 refine VCall.of_contract (rwithin_c _ _) (SleL.pure rfl) fun r hr=>?_
 subst hr
 simp only[go_sem,Int.reduceEq,Int.reduceBEq,setsL,SetsT,or_false,or_true,false_or,true_or,or_self,hus,Int.reduceNeg,hd]
 refine VCall.of_contractN (refuses_c ⟨4,d,a,b,k,base,size,n⟩) ?_ fun r hr=>?_
 ·exact ⟨_,_,rfl,Frz.pure rfl,rfl⟩
 subst hr
 simp only[go_sem,Int.reduceEq,Int.reduceBEq,setsL,SetsT,or_false,or_true,false_or,true_or,or_self,hus,Int.reduceNeg]
 refine VW_loop (fun i:Nat=>⟨[(1,I f),(2,I regs),(3,I words),(4,.ptr 0 0 0),(9,.ptr 1 1 0),(10,ints []),(11,I i)],[⟨0,47,1,tacL ⟨4,d,a,b,k,base,size,n⟩⟩,⟨1,47,1,[I 4,I d,I 0,I 0,I 0,I 0,I 0,U32 0]⟩],2⟩)
  (fun i=>i≤0∧∀ j<i,inB (([]:List Int).getD j default) regs=true) (fun i=>0-i) 0 (Wk.mk (by simp[get_cons]) ⟨[],rfl⟩ (Nat.le_refl _)) ⟨by omega,by omega⟩ ?_
 rintro i ⟨hi,hin⟩
 obtain rfl:i=0:=by omega
 simp only[go_sem,Int.reduceEq,Int.reduceBEq,setsL,SetsT,or_false,or_true,false_or,true_or,or_self,hus,Int.reduceNeg,Int.cast_ofNat_Int,Nat.cast_zero',Nat.cast_one']
 refine VCall.of_contract (rwithin_c _ _) (SleL.pure rfl) fun r hr=>?_
 subst hr
 cases hb:inB base words
 ·have hb':=of_decide_eq_false hb
  simp only[go_sem,hb]
  refine ⟨_,Frz.pure rfl,?_⟩
  congr 2
  rw[Bool.eq_iff_iff,hX]
  simp only[Bool.and_eq_true,beq_iff_eq,true_and,and_true,Bool.false_eq_true,false_iff,not_and,and_imp]
  first | omega | (intros;omega)
 ·have hb':=of_decide_eq_true hb
  simp only[go_sem,hb]
  refine ⟨_,Frz.pure rfl,?_⟩
  congr 2
  rw[Bool.eq_iff_iff,hX]
  simp only[Bool.and_eq_true,beq_iff_eq,true_and,and_true,Bool.false_eq_true,false_iff,not_and,and_imp]
  first | omega | (intros;omega)
theorem rfits_5 (d a b k base size n f regs words:Int) (hw:0≤words∧words≤1048576):Contract Try.prog 59 [tacA ⟨5,d,a,b,k,base,size,n⟩,I f,I regs,I words] (fun r=>r=B (fitsT ⟨5,d,a,b,k,base,size,n⟩ f regs words)):=by
 refine Contract.of_call (VCall.of_body hmix f_scref24_fits (by simp) ?_)
 have hus:usesL ⟨5,d,a,b,k,base,size,n⟩=[a]:=by simp[usesL]
 obtain ⟨x,hx⟩:∃ x,fitsT ⟨5,d,a,b,k,base,size,n⟩ f regs words=x:=⟨_,rfl⟩
 rw[hx]
 have hX:(x=true↔FitsT ⟨5,d,a,b,k,base,size,n⟩ f regs words):=by rw[← hx];exact decide_eq_true_iff
 simp only[FitsT,hus,restT,SetsT,Int.reduceEq,or_false,or_true,false_or,true_or,or_self,if_true,if_false,List.mem_cons,List.not_mem_nil,forall_eq_or_imp,forall_eq,false_implies,implies_true,true_and,and_true,Int.reduceLE,List.length_cons,List.length_nil,Nat.reduceAdd,Nat.reduceLeDiff,Nat.le_refl,forall_const,reduceCtorEq,Nat.zero_le]at hX
 simp only[go_sem,c_scref24_fits,Int.reduceEq,Int.reduceBEq,setsL,SetsT,or_false,or_true,false_or,true_or,or_self,hus,Int.reduceNeg]
 refine VCall.of_contract (refsets_c ⟨5,d,a,b,k,base,size,n⟩) (SleL.pure rfl) fun r hr=>?_
 subst hr
 simp only[go_sem,Int.reduceEq,Int.reduceBEq,setsL,SetsT,or_false,or_true,false_or,true_or,or_self,hus,Int.reduceNeg]
 refine VCall.of_contractN (refuses_c ⟨5,d,a,b,k,base,size,n⟩) ?_ fun r hr=>?_
 ·exact ⟨_,_,rfl,Frz.pure rfl,rfl⟩
 subst hr
 simp only[go_sem,Int.reduceEq,Int.reduceBEq,setsL,SetsT,or_false,or_true,false_or,true_or,or_self,hus,Int.reduceNeg]
 refine VW_loop (fun i:Nat=>⟨[(1,I f),(2,I regs),(3,I words),(4,.ptr 0 0 0),(9,.ptr 1 1 0),(10,ints [a]),(11,I i)],[⟨0,47,1,tacL ⟨5,d,a,b,k,base,size,n⟩⟩,⟨1,47,1,[I 5,I 0,I 0,I 0,I 0,I 0,I 0,U32 0]⟩],2⟩)
  (fun i=>i≤1∧∀ j<i,inB (([a]:List Int).getD j default) regs=true) (fun i=>1-i) 0 (Wk.mk (by simp[get_cons]) ⟨[],rfl⟩ (Nat.le_refl _)) ⟨by omega,by omega⟩ ?_
 rintro i ⟨hi,hin⟩
 by_cases hi0:i=0
 ·subst hi0
  simp only[go_sem,Int.reduceEq,Int.reduceBEq,setsL,SetsT,or_false,or_true,false_or,true_or,or_self,hus,Int.reduceNeg,Int.cast_ofNat_Int,Nat.cast_zero',Nat.cast_one']
  refine VCall.of_contract (rwithin_c _ _) (SleL.pure rfl) fun r hr=>?_
  subst hr
  cases hu:inB a regs
  ·simp only[go_sem,hu]
   refine ⟨_,Frz.pure rfl,?_⟩
   have h2:=of_decide_eq_false hu
   cases x
   ·rfl
   ·have:=hX.1 rfl;omega
  ·simp only[go_sem,hu,i64_lit1,i64_lit2]
   refine ⟨1,⟨by omega,fun j hj=>?_⟩,by omega,Wk.mk (by simp[get_cons]) ⟨[],rfl⟩ (Nat.le_refl _)⟩
   by_cases e:j=0
   ·subst e;exact hu
   ·exact hin j (by omega)
 obtain rfl:i=1:=by omega
 have hu0:=of_decide_eq_true (hin 0 (by omega))
 simp only[List.getD_cons_zero,List.getD_cons_succ]at hu0
 simp only[go_sem,Int.reduceEq,Int.reduceBEq,setsL,SetsT,or_false,or_true,false_or,true_or,or_self,hus,Int.reduceNeg,Int.cast_ofNat_Int,Nat.cast_zero',Nat.cast_one']
 refine VCall.of_contract (rwithin_c _ _) (SleL.pure rfl) fun r hr=>?_
 subst hr
 cases hb:inB base words
 ·have hb':=of_decide_eq_false hb
  simp only[go_sem,hb]
  refine ⟨_,Frz.pure rfl,?_⟩
  congr 2
  rw[Bool.eq_iff_iff,hX]
  simp only[Bool.and_eq_true,beq_iff_eq,true_and,and_true,Bool.false_eq_true,false_iff,not_and,and_imp]
  first | omega | (intros;omega)
 ·have hb':=of_decide_eq_true hb
  simp only[go_sem,hb]
  refine ⟨_,Frz.pure rfl,?_⟩
  congr 2
  rw[Bool.eq_iff_iff,hX]
  simp only[Bool.and_eq_true,beq_iff_eq,true_and,and_true,Bool.false_eq_true,false_iff,not_and,and_imp]
  first | omega | (intros;omega)
theorem rfits_6 (d a b k base size n f regs words:Int) (hw:0≤words∧words≤1048576):Contract Try.prog 59 [tacA ⟨6,d,a,b,k,base,size,n⟩,I f,I regs,I words] (fun r=>r=B (fitsT ⟨6,d,a,b,k,base,size,n⟩ f regs words)):=by
 refine Contract.of_call (VCall.of_body hmix f_scref24_fits (by simp) ?_)
 have hus:usesL ⟨6,d,a,b,k,base,size,n⟩=[a]:=by simp[usesL]
 obtain ⟨x,hx⟩:∃ x,fitsT ⟨6,d,a,b,k,base,size,n⟩ f regs words=x:=⟨_,rfl⟩
 rw[hx]
 have hX:(x=true↔FitsT ⟨6,d,a,b,k,base,size,n⟩ f regs words):=by rw[← hx];exact decide_eq_true_iff
 simp only[FitsT,hus,restT,SetsT,Int.reduceEq,or_false,or_true,false_or,true_or,or_self,if_true,if_false,List.mem_cons,List.not_mem_nil,forall_eq_or_imp,forall_eq,false_implies,implies_true,true_and,and_true,Int.reduceLE,List.length_cons,List.length_nil,Nat.reduceAdd,Nat.reduceLeDiff,Nat.le_refl,forall_const,reduceCtorEq,Nat.zero_le]at hX
 cases hd:inB d regs
 ·have hx0:x=false:=by
   cases x
   ·rfl
   ·have:=hX.1 rfl;have h2:=of_decide_eq_false hd;omega
  subst hx0
  by_cases h0:0≤d
  ·simp only[go_sem,c_scref24_fits,Int.reduceEq,Int.reduceBEq,setsL,SetsT,or_false,or_true,false_or,true_or,or_self,hus,Int.reduceNeg]
   refine VCall.of_contract (refsets_c ⟨6,d,a,b,k,base,size,n⟩) (SleL.pure rfl) fun r hr=>?_
   subst hr
   simp only[go_sem,Int.reduceEq,Int.reduceBEq,setsL,SetsT,or_false,or_true,false_or,true_or,or_self,hus,Int.reduceNeg,eq_true h0]
   refine VCall.of_contract (rwithin_c _ _) (SleL.pure rfl) fun r hr=>?_
   subst hr
   simp only[go_sem,hd]
   exact ⟨_,Frz.pure rfl,rfl⟩
  ·simp only[go_sem,c_scref24_fits,Int.reduceEq,Int.reduceBEq,setsL,SetsT,or_false,or_true,false_or,true_or,or_self,hus,Int.reduceNeg]
   refine VCall.of_contract (refsets_c ⟨6,d,a,b,k,base,size,n⟩) (SleL.pure rfl) fun r hr=>?_
   subst hr
   simp only[go_sem,Int.reduceEq,Int.reduceBEq,setsL,SetsT,or_false,or_true,false_or,true_or,or_self,hus,Int.reduceNeg,eq_false h0]
   refine VCall.of_contract (rwithin_c _ _) (SleL.pure rfl) fun r hr=>?_
   subst hr
   simp only[go_sem,hd]
   exact ⟨_,Frz.pure rfl,rfl⟩
 have h0:=(of_decide_eq_true hd).1
 have h0':=(of_decide_eq_true hd).2
 simp only[go_sem,c_scref24_fits,Int.reduceEq,Int.reduceBEq,setsL,SetsT,or_false,or_true,false_or,true_or,or_self,hus,Int.reduceNeg]
 refine VCall.of_contract (refsets_c ⟨6,d,a,b,k,base,size,n⟩) (SleL.pure rfl) fun r hr=>?_
 subst hr
 simp only[go_sem,Int.reduceEq,Int.reduceBEq,setsL,SetsT,or_false,or_true,false_or,true_or,or_self,hus,Int.reduceNeg,eq_true h0]
 refine VCall.of_contract (rwithin_c _ _) (SleL.pure rfl) fun r hr=>?_
 subst hr
 simp only[go_sem,Int.reduceEq,Int.reduceBEq,setsL,SetsT,or_false,or_true,false_or,true_or,or_self,hus,Int.reduceNeg,hd]
 refine VCall.of_contractN (refuses_c ⟨6,d,a,b,k,base,size,n⟩) ?_ fun r hr=>?_
 ·exact ⟨_,_,rfl,Frz.pure rfl,rfl⟩
 subst hr
 simp only[go_sem,Int.reduceEq,Int.reduceBEq,setsL,SetsT,or_false,or_true,false_or,true_or,or_self,hus,Int.reduceNeg]
 refine VW_loop (fun i:Nat=>⟨[(1,I f),(2,I regs),(3,I words),(4,.ptr 0 0 0),(9,.ptr 1 1 0),(10,ints [a]),(11,I i)],[⟨0,47,1,tacL ⟨6,d,a,b,k,base,size,n⟩⟩,⟨1,47,1,[I 6,I d,I 0,I 0,I 0,I 0,I 0,U32 0]⟩],2⟩)
  (fun i=>i≤1∧∀ j<i,inB (([a]:List Int).getD j default) regs=true) (fun i=>1-i) 0 (Wk.mk (by simp[get_cons]) ⟨[],rfl⟩ (Nat.le_refl _)) ⟨by omega,by omega⟩ ?_
 rintro i ⟨hi,hin⟩
 by_cases hi0:i=0
 ·subst hi0
  simp only[go_sem,Int.reduceEq,Int.reduceBEq,setsL,SetsT,or_false,or_true,false_or,true_or,or_self,hus,Int.reduceNeg,Int.cast_ofNat_Int,Nat.cast_zero',Nat.cast_one']
  refine VCall.of_contract (rwithin_c _ _) (SleL.pure rfl) fun r hr=>?_
  subst hr
  cases hu:inB a regs
  ·simp only[go_sem,hu]
   refine ⟨_,Frz.pure rfl,?_⟩
   have h2:=of_decide_eq_false hu
   cases x
   ·rfl
   ·have:=hX.1 rfl;omega
  ·simp only[go_sem,hu,i64_lit1,i64_lit2]
   refine ⟨1,⟨by omega,fun j hj=>?_⟩,by omega,Wk.mk (by simp[get_cons]) ⟨[],rfl⟩ (Nat.le_refl _)⟩
   by_cases e:j=0
   ·subst e;exact hu
   ·exact hin j (by omega)
 obtain rfl:i=1:=by omega
 have hu0:=of_decide_eq_true (hin 0 (by omega))
 simp only[List.getD_cons_zero,List.getD_cons_succ]at hu0
 simp only[go_sem,Int.reduceEq,Int.reduceBEq,setsL,SetsT,or_false,or_true,false_or,true_or,or_self,hus,Int.reduceNeg,Int.cast_ofNat_Int,Nat.cast_zero',Nat.cast_one']
 have hwr:1≤size→size≤4096→IntKind.i64.wrap (words-size)=words-size:=fun h1 h2=>i64_in (by omega) (by omega)
 repeat' (first | (with_reducible apply And.intro) | (with_reducible intro _))
 all_goals
  refine ⟨_,Frz.pure rfl,?_⟩
  try (rename_i h1 h2 h3 h4;rw[hwr (by omega) (by omega)]at h4)
  congr 2
  rw[Bool.eq_iff_iff,hX]
  simp only[Bool.and_eq_true,beq_iff_eq,true_and,and_true,Bool.false_eq_true,false_iff,not_and,and_imp]
  first | omega | (intros;omega)
theorem rfits_7 (d a b k base size n f regs words:Int) (hw:0≤words∧words≤1048576):Contract Try.prog 59 [tacA ⟨7,d,a,b,k,base,size,n⟩,I f,I regs,I words] (fun r=>r=B (fitsT ⟨7,d,a,b,k,base,size,n⟩ f regs words)):=by
 refine Contract.of_call (VCall.of_body hmix f_scref24_fits (by simp) ?_)
 have hus:usesL ⟨7,d,a,b,k,base,size,n⟩=[a,b]:=by simp[usesL]
 obtain ⟨x,hx⟩:∃ x,fitsT ⟨7,d,a,b,k,base,size,n⟩ f regs words=x:=⟨_,rfl⟩
 rw[hx]
 have hX:(x=true↔FitsT ⟨7,d,a,b,k,base,size,n⟩ f regs words):=by rw[← hx];exact decide_eq_true_iff
 simp only[FitsT,hus,restT,SetsT,Int.reduceEq,or_false,or_true,false_or,true_or,or_self,if_true,if_false,List.mem_cons,List.not_mem_nil,forall_eq_or_imp,forall_eq,false_implies,implies_true,true_and,and_true,Int.reduceLE,List.length_cons,List.length_nil,Nat.reduceAdd,Nat.reduceLeDiff,Nat.le_refl,forall_const,reduceCtorEq,Nat.zero_le]at hX
 simp only[go_sem,c_scref24_fits,Int.reduceEq,Int.reduceBEq,setsL,SetsT,or_false,or_true,false_or,true_or,or_self,hus,Int.reduceNeg]
 refine VCall.of_contract (refsets_c ⟨7,d,a,b,k,base,size,n⟩) (SleL.pure rfl) fun r hr=>?_
 subst hr
 simp only[go_sem,Int.reduceEq,Int.reduceBEq,setsL,SetsT,or_false,or_true,false_or,true_or,or_self,hus,Int.reduceNeg]
 refine VCall.of_contractN (refuses_c ⟨7,d,a,b,k,base,size,n⟩) ?_ fun r hr=>?_
 ·exact ⟨_,_,rfl,Frz.pure rfl,rfl⟩
 subst hr
 simp only[go_sem,Int.reduceEq,Int.reduceBEq,setsL,SetsT,or_false,or_true,false_or,true_or,or_self,hus,Int.reduceNeg]
 refine VW_loop (fun i:Nat=>⟨[(1,I f),(2,I regs),(3,I words),(4,.ptr 0 0 0),(9,.ptr 1 1 0),(10,ints [a,b]),(11,I i)],[⟨0,47,1,tacL ⟨7,d,a,b,k,base,size,n⟩⟩,⟨1,47,1,[I 7,I 0,I 0,I 0,I 0,I 0,I 0,U32 0]⟩],2⟩)
  (fun i=>i≤2∧∀ j<i,inB (([a,b]:List Int).getD j default) regs=true) (fun i=>2-i) 0 (Wk.mk (by simp[get_cons]) ⟨[],rfl⟩ (Nat.le_refl _)) ⟨by omega,by omega⟩ ?_
 rintro i ⟨hi,hin⟩
 by_cases hi0:i=0
 ·subst hi0
  simp only[go_sem,Int.reduceEq,Int.reduceBEq,setsL,SetsT,or_false,or_true,false_or,true_or,or_self,hus,Int.reduceNeg,Int.cast_ofNat_Int,Nat.cast_zero',Nat.cast_one']
  refine VCall.of_contract (rwithin_c _ _) (SleL.pure rfl) fun r hr=>?_
  subst hr
  cases hu:inB a regs
  ·simp only[go_sem,hu]
   refine ⟨_,Frz.pure rfl,?_⟩
   have h2:=of_decide_eq_false hu
   cases x
   ·rfl
   ·have:=hX.1 rfl;omega
  ·simp only[go_sem,hu,i64_lit1,i64_lit2]
   refine ⟨1,⟨by omega,fun j hj=>?_⟩,by omega,Wk.mk (by simp[get_cons]) ⟨[],rfl⟩ (Nat.le_refl _)⟩
   by_cases e:j=0
   ·subst e;exact hu
   ·exact hin j (by omega)
 by_cases hi1:i=1
 ·subst hi1
  simp only[go_sem,Int.reduceEq,Int.reduceBEq,setsL,SetsT,or_false,or_true,false_or,true_or,or_self,hus,Int.reduceNeg,Int.cast_ofNat_Int,Nat.cast_zero',Nat.cast_one']
  refine VCall.of_contract (rwithin_c _ _) (SleL.pure rfl) fun r hr=>?_
  subst hr
  cases hu:inB b regs
  ·simp only[go_sem,hu]
   refine ⟨_,Frz.pure rfl,?_⟩
   have h2:=of_decide_eq_false hu
   cases x
   ·rfl
   ·have:=hX.1 rfl;omega
  ·simp only[go_sem,hu,i64_lit1,i64_lit2]
   refine ⟨2,⟨by omega,fun j hj=>?_⟩,by omega,Wk.mk (by simp[get_cons]) ⟨[],rfl⟩ (Nat.le_refl _)⟩
   by_cases e:j=1
   ·subst e;exact hu
   ·exact hin j (by omega)
 obtain rfl:i=2:=by omega
 have hu0:=of_decide_eq_true (hin 0 (by omega))
 simp only[List.getD_cons_zero,List.getD_cons_succ]at hu0
 have hu1:=of_decide_eq_true (hin 1 (by omega))
 simp only[List.getD_cons_zero,List.getD_cons_succ]at hu1
 simp only[go_sem,Int.reduceEq,Int.reduceBEq,setsL,SetsT,or_false,or_true,false_or,true_or,or_self,hus,Int.reduceNeg,Int.cast_ofNat_Int,Nat.cast_zero',Nat.cast_one']
 have hwr:1≤size→size≤4096→IntKind.i64.wrap (words-size)=words-size:=fun h1 h2=>i64_in (by omega) (by omega)
 repeat' (first | (with_reducible apply And.intro) | (with_reducible intro _))
 all_goals
  refine ⟨_,Frz.pure rfl,?_⟩
  try (rename_i h1 h2 h3 h4;rw[hwr (by omega) (by omega)]at h4)
  congr 2
  rw[Bool.eq_iff_iff,hX]
  simp only[Bool.and_eq_true,beq_iff_eq,true_and,and_true,Bool.false_eq_true,false_iff,not_and,and_imp]
  first | omega | (intros;omega)
theorem rfits_8 (d a b k base size n f regs words:Int) (hw:0≤words∧words≤1048576):Contract Try.prog 59 [tacA ⟨8,d,a,b,k,base,size,n⟩,I f,I regs,I words] (fun r=>r=B (fitsT ⟨8,d,a,b,k,base,size,n⟩ f regs words)):=by
 refine Contract.of_call (VCall.of_body hmix f_scref24_fits (by simp) ?_)
 have hus:usesL ⟨8,d,a,b,k,base,size,n⟩=[]:=by simp[usesL]
 obtain ⟨x,hx⟩:∃ x,fitsT ⟨8,d,a,b,k,base,size,n⟩ f regs words=x:=⟨_,rfl⟩
 rw[hx]
 have hX:(x=true↔FitsT ⟨8,d,a,b,k,base,size,n⟩ f regs words):=by rw[← hx];exact decide_eq_true_iff
 simp only[FitsT,hus,restT,SetsT,Int.reduceEq,or_false,or_true,false_or,true_or,or_self,if_true,if_false,List.mem_cons,List.not_mem_nil,forall_eq_or_imp,forall_eq,false_implies,implies_true,true_and,and_true,Int.reduceLE,List.length_cons,List.length_nil,Nat.reduceAdd,Nat.reduceLeDiff,Nat.le_refl,forall_const,reduceCtorEq,Nat.zero_le]at hX
 cases hd:inB d regs
 ·have hx0:x=false:=by
   cases x
   ·rfl
   ·have:=hX.1 rfl;have h2:=of_decide_eq_false hd;omega
  subst hx0
  by_cases h0:0≤d
  ·simp only[go_sem,c_scref24_fits,Int.reduceEq,Int.reduceBEq,setsL,SetsT,or_false,or_true,false_or,true_or,or_self,hus,Int.reduceNeg]
   refine VCall.of_contract (refsets_c ⟨8,d,a,b,k,base,size,n⟩) (SleL.pure rfl) fun r hr=>?_
   subst hr
   simp only[go_sem,Int.reduceEq,Int.reduceBEq,setsL,SetsT,or_false,or_true,false_or,true_or,or_self,hus,Int.reduceNeg,eq_true h0]
   refine VCall.of_contract (rwithin_c _ _) (SleL.pure rfl) fun r hr=>?_
   subst hr
   simp only[go_sem,hd]
   exact ⟨_,Frz.pure rfl,rfl⟩
  ·simp only[go_sem,c_scref24_fits,Int.reduceEq,Int.reduceBEq,setsL,SetsT,or_false,or_true,false_or,true_or,or_self,hus,Int.reduceNeg]
   refine VCall.of_contract (refsets_c ⟨8,d,a,b,k,base,size,n⟩) (SleL.pure rfl) fun r hr=>?_
   subst hr
   simp only[go_sem,Int.reduceEq,Int.reduceBEq,setsL,SetsT,or_false,or_true,false_or,true_or,or_self,hus,Int.reduceNeg,eq_false h0]
   refine VCall.of_contract (rwithin_c _ _) (SleL.pure rfl) fun r hr=>?_
   subst hr
   simp only[go_sem,hd]
   exact ⟨_,Frz.pure rfl,rfl⟩
 have h0:=(of_decide_eq_true hd).1
 have h0':=(of_decide_eq_true hd).2
 simp only[go_sem,c_scref24_fits,Int.reduceEq,Int.reduceBEq,setsL,SetsT,or_false,or_true,false_or,true_or,or_self,hus,Int.reduceNeg]
 refine VCall.of_contract (refsets_c ⟨8,d,a,b,k,base,size,n⟩) (SleL.pure rfl) fun r hr=>?_
 subst hr
 simp only[go_sem,Int.reduceEq,Int.reduceBEq,setsL,SetsT,or_false,or_true,false_or,true_or,or_self,hus,Int.reduceNeg,eq_true h0]
 refine VCall.of_contract (rwithin_c _ _) (SleL.pure rfl) fun r hr=>?_
 subst hr
 simp only[go_sem,Int.reduceEq,Int.reduceBEq,setsL,SetsT,or_false,or_true,false_or,true_or,or_self,hus,Int.reduceNeg,hd]
 refine VCall.of_contractN (refuses_c ⟨8,d,a,b,k,base,size,n⟩) ?_ fun r hr=>?_
 ·exact ⟨_,_,rfl,Frz.pure rfl,rfl⟩
 subst hr
 simp only[go_sem,Int.reduceEq,Int.reduceBEq,setsL,SetsT,or_false,or_true,false_or,true_or,or_self,hus,Int.reduceNeg]
 refine VW_loop (fun i:Nat=>⟨[(1,I f),(2,I regs),(3,I words),(4,.ptr 0 0 0),(9,.ptr 1 1 0),(10,ints []),(11,I i)],[⟨0,47,1,tacL ⟨8,d,a,b,k,base,size,n⟩⟩,⟨1,47,1,[I 8,I d,I 0,I 0,I 0,I 0,I 0,U32 0]⟩],2⟩)
  (fun i=>i≤0∧∀ j<i,inB (([]:List Int).getD j default) regs=true) (fun i=>0-i) 0 (Wk.mk (by simp[get_cons]) ⟨[],rfl⟩ (Nat.le_refl _)) ⟨by omega,by omega⟩ ?_
 rintro i ⟨hi,hin⟩
 obtain rfl:i=0:=by omega
 simp only[go_sem,Int.reduceEq,Int.reduceBEq,setsL,SetsT,or_false,or_true,false_or,true_or,or_self,hus,Int.reduceNeg,Int.cast_ofNat_Int,Nat.cast_zero',Nat.cast_one']
 have hwr:1≤size→size≤4096→IntKind.i64.wrap (words-size)=words-size:=fun h1 h2=>i64_in (by omega) (by omega)
 repeat' (first | (with_reducible apply And.intro) | (with_reducible intro _))
 all_goals
  refine ⟨_,Frz.pure rfl,?_⟩
  try (rename_i h1 h2 h3 h4;rw[hwr (by omega) (by omega)]at h4)
  congr 2
  rw[Bool.eq_iff_iff,hX]
  simp only[Bool.and_eq_true,beq_iff_eq,true_and,and_true,Bool.false_eq_true,false_iff,not_and,and_imp]
  first | omega | (intros;omega)
theorem rfits_9 (d a b k base size n f regs words:Int) (hw:0≤words∧words≤1048576):Contract Try.prog 59 [tacA ⟨9,d,a,b,k,base,size,n⟩,I f,I regs,I words] (fun r=>r=B (fitsT ⟨9,d,a,b,k,base,size,n⟩ f regs words)):=by
 refine Contract.of_call (VCall.of_body hmix f_scref24_fits (by simp) ?_)
 have hus:usesL ⟨9,d,a,b,k,base,size,n⟩=[a]:=by simp[usesL]
 obtain ⟨x,hx⟩:∃ x,fitsT ⟨9,d,a,b,k,base,size,n⟩ f regs words=x:=⟨_,rfl⟩
 rw[hx]
 have hX:(x=true↔FitsT ⟨9,d,a,b,k,base,size,n⟩ f regs words):=by rw[← hx];exact decide_eq_true_iff
 simp only[FitsT,hus,restT,SetsT,Int.reduceEq,or_false,or_true,false_or,true_or,or_self,if_true,if_false,List.mem_cons,List.not_mem_nil,forall_eq_or_imp,forall_eq,false_implies,implies_true,true_and,and_true,Int.reduceLE,List.length_cons,List.length_nil,Nat.reduceAdd,Nat.reduceLeDiff,Nat.le_refl,forall_const,reduceCtorEq,Nat.zero_le]at hX
 simp only[go_sem,c_scref24_fits,Int.reduceEq,Int.reduceBEq,setsL,SetsT,or_false,or_true,false_or,true_or,or_self,hus,Int.reduceNeg]
 refine VCall.of_contract (refsets_c ⟨9,d,a,b,k,base,size,n⟩) (SleL.pure rfl) fun r hr=>?_
 subst hr
 simp only[go_sem,Int.reduceEq,Int.reduceBEq,setsL,SetsT,or_false,or_true,false_or,true_or,or_self,hus,Int.reduceNeg]
 refine VCall.of_contractN (refuses_c ⟨9,d,a,b,k,base,size,n⟩) ?_ fun r hr=>?_
 ·exact ⟨_,_,rfl,Frz.pure rfl,rfl⟩
 subst hr
 simp only[go_sem,Int.reduceEq,Int.reduceBEq,setsL,SetsT,or_false,or_true,false_or,true_or,or_self,hus,Int.reduceNeg]
 refine VW_loop (fun i:Nat=>⟨[(1,I f),(2,I regs),(3,I words),(4,.ptr 0 0 0),(9,.ptr 1 1 0),(10,ints [a]),(11,I i)],[⟨0,47,1,tacL ⟨9,d,a,b,k,base,size,n⟩⟩,⟨1,47,1,[I 9,I 0,I 0,I 0,I 0,I 0,I 0,U32 0]⟩],2⟩)
  (fun i=>i≤1∧∀ j<i,inB (([a]:List Int).getD j default) regs=true) (fun i=>1-i) 0 (Wk.mk (by simp[get_cons]) ⟨[],rfl⟩ (Nat.le_refl _)) ⟨by omega,by omega⟩ ?_
 rintro i ⟨hi,hin⟩
 by_cases hi0:i=0
 ·subst hi0
  simp only[go_sem,Int.reduceEq,Int.reduceBEq,setsL,SetsT,or_false,or_true,false_or,true_or,or_self,hus,Int.reduceNeg,Int.cast_ofNat_Int,Nat.cast_zero',Nat.cast_one']
  refine VCall.of_contract (rwithin_c _ _) (SleL.pure rfl) fun r hr=>?_
  subst hr
  cases hu:inB a regs
  ·simp only[go_sem,hu]
   refine ⟨_,Frz.pure rfl,?_⟩
   have h2:=of_decide_eq_false hu
   cases x
   ·rfl
   ·have:=hX.1 rfl;omega
  ·simp only[go_sem,hu,i64_lit1,i64_lit2]
   refine ⟨1,⟨by omega,fun j hj=>?_⟩,by omega,Wk.mk (by simp[get_cons]) ⟨[],rfl⟩ (Nat.le_refl _)⟩
   by_cases e:j=0
   ·subst e;exact hu
   ·exact hin j (by omega)
 obtain rfl:i=1:=by omega
 have hu0:=of_decide_eq_true (hin 0 (by omega))
 simp only[List.getD_cons_zero,List.getD_cons_succ]at hu0
 simp only[go_sem,Int.reduceEq,Int.reduceBEq,setsL,SetsT,or_false,or_true,false_or,true_or,or_self,hus,Int.reduceNeg,Int.cast_ofNat_Int,Nat.cast_zero',Nat.cast_one']
 have hwr:1≤size→size≤4096→IntKind.i64.wrap (words-size)=words-size:=fun h1 h2=>i64_in (by omega) (by omega)
 repeat' (first | (with_reducible apply And.intro) | (with_reducible intro _))
 all_goals
  refine ⟨_,Frz.pure rfl,?_⟩
  try (rename_i h1 h2 h3 h4;rw[hwr (by omega) (by omega)]at h4)
  congr 2
  rw[Bool.eq_iff_iff,hX]
  simp only[Bool.and_eq_true,beq_iff_eq,true_and,and_true,Bool.false_eq_true,false_iff,not_and,and_imp]
  first | omega | (intros;omega)
theorem rfits_10 (d a b k base size n f regs words:Int) (hw:0≤words∧words≤1048576):Contract Try.prog 59 [tacA ⟨10,d,a,b,k,base,size,n⟩,I f,I regs,I words] (fun r=>r=B (fitsT ⟨10,d,a,b,k,base,size,n⟩ f regs words)):=by
 refine Contract.of_call (VCall.of_body hmix f_scref24_fits (by simp) ?_)
 have hus:usesL ⟨10,d,a,b,k,base,size,n⟩=[]:=by simp[usesL]
 obtain ⟨x,hx⟩:∃ x,fitsT ⟨10,d,a,b,k,base,size,n⟩ f regs words=x:=⟨_,rfl⟩
 rw[hx]
 have hX:(x=true↔FitsT ⟨10,d,a,b,k,base,size,n⟩ f regs words):=by rw[← hx];exact decide_eq_true_iff
 simp only[FitsT,hus,restT,SetsT,Int.reduceEq,or_false,or_true,false_or,true_or,or_self,if_true,if_false,List.mem_cons,List.not_mem_nil,forall_eq_or_imp,forall_eq,false_implies,implies_true,true_and,and_true,Int.reduceLE,List.length_cons,List.length_nil,Nat.reduceAdd,Nat.reduceLeDiff,Nat.le_refl,forall_const,reduceCtorEq,Nat.zero_le]at hX
 simp only[go_sem,c_scref24_fits,Int.reduceEq,Int.reduceBEq,setsL,SetsT,or_false,or_true,false_or,true_or,or_self,hus,Int.reduceNeg]
 refine VCall.of_contract (refsets_c ⟨10,d,a,b,k,base,size,n⟩) (SleL.pure rfl) fun r hr=>?_
 subst hr
 simp only[go_sem,Int.reduceEq,Int.reduceBEq,setsL,SetsT,or_false,or_true,false_or,true_or,or_self,hus,Int.reduceNeg]
 refine VCall.of_contractN (refuses_c ⟨10,d,a,b,k,base,size,n⟩) ?_ fun r hr=>?_
 ·exact ⟨_,_,rfl,Frz.pure rfl,rfl⟩
 subst hr
 simp only[go_sem,Int.reduceEq,Int.reduceBEq,setsL,SetsT,or_false,or_true,false_or,true_or,or_self,hus,Int.reduceNeg]
 refine VW_loop (fun i:Nat=>⟨[(1,I f),(2,I regs),(3,I words),(4,.ptr 0 0 0),(9,.ptr 1 1 0),(10,ints []),(11,I i)],[⟨0,47,1,tacL ⟨10,d,a,b,k,base,size,n⟩⟩,⟨1,47,1,[I 10,I 0,I 0,I 0,I 0,I 0,I 0,U32 0]⟩],2⟩)
  (fun i=>i≤0∧∀ j<i,inB (([]:List Int).getD j default) regs=true) (fun i=>0-i) 0 (Wk.mk (by simp[get_cons]) ⟨[],rfl⟩ (Nat.le_refl _)) ⟨by omega,by omega⟩ ?_
 rintro i ⟨hi,hin⟩
 obtain rfl:i=0:=by omega
 simp only[go_sem,Int.reduceEq,Int.reduceBEq,setsL,SetsT,or_false,or_true,false_or,true_or,or_self,hus,Int.reduceNeg,Int.cast_ofNat_Int,Nat.cast_zero',Nat.cast_one']
 refine VCall.of_contract (rwithin_c _ _) (SleL.pure rfl) fun r hr=>?_
 subst hr
 cases hb:inB base f
 ·have hb':=of_decide_eq_false hb
  simp only[go_sem,hb]
  refine ⟨_,Frz.pure rfl,?_⟩
  congr 2
  rw[Bool.eq_iff_iff,hX]
  simp only[Bool.and_eq_true,beq_iff_eq,true_and,and_true,Bool.false_eq_true,false_iff,not_and,and_imp]
  first | omega | (intros;omega)
 ·have hb':=of_decide_eq_true hb
  simp only[go_sem,hb]
  refine ⟨_,Frz.pure rfl,?_⟩
  congr 2
  rw[Bool.eq_iff_iff,hX]
  simp only[Bool.and_eq_true,beq_iff_eq,true_and,and_true,Bool.false_eq_true,false_iff,not_and,and_imp]
  first | omega | (intros;omega)
theorem rfits_c (t:Tac) (f regs words:Int) (hw:0≤words∧words≤1048576):Contract Try.prog 59 [tacA t,I f,I regs,I words] (fun r=>r=B (fitsT t f regs words)):=by
 obtain ⟨op,d,a,b,k,base,size,n⟩:=t
 by_cases ho:op<1∨op > 10
 ·refine Contract.of_call (VCall.of_body hmix f_scref24_fits (by simp) ?_)
  have e:fitsT ⟨op,d,a,b,k,base,size,n⟩ f regs words=false:=decide_eq_false (by unfold FitsT;simp only;omega)
  rw[e]
  rcases ho with h | h
  ·simp only[go_sem,c_scref24_fits,eq_true h]
   exact ⟨_,Frz.pure rfl,rfl⟩
  ·simp only[go_sem,c_scref24_fits,eq_false (show ¬ op<1 by omega),eq_true (show 10<op by omega)]
   exact ⟨_,Frz.pure rfl,rfl⟩
 have hop:op=1∨op=2∨op=3∨op=4∨op=5∨op=6∨op=7∨op=8∨op=9∨op=10:=by omega
 rcases hop with rfl | rfl | rfl | rfl | rfl | rfl | rfl | rfl | rfl | rfl
 ·exact rfits_1 d a b k base size n f regs words hw
 ·exact rfits_2 d a b k base size n f regs words hw
 ·exact rfits_3 d a b k base size n f regs words hw
 ·exact rfits_4 d a b k base size n f regs words hw
 ·exact rfits_5 d a b k base size n f regs words hw
 ·exact rfits_6 d a b k base size n f regs words hw
 ·exact rfits_7 d a b k base size n f regs words hw
 ·exact rfits_8 d a b k base size n f regs words hw
 ·exact rfits_9 d a b k base size n f regs words hw
 ·exact rfits_10 d a b k base size n f regs words hw
theorem one_imm {sz:Nat} {xs:List AV}:(AV.imm sz xs).one=true:=rfl
theorem one_ref {id s off len:Nat}:(AV.ref id s off len).one=true:=rfl
theorem cellT_U32 {xs:List Int} {off:Nat} {C:AV→Prop}:cellT (xs.map U32) off false 1 C .mk=(off<xs.length∧C (U32 (xs.getD off default))):=cellT_map fun _=>rfl
abbrev w32 (n:Int):Int:=IntKind.u32.wrap n
def andW (a b:Int):Int:=w32 (BitVec.ofInt IntKind.u32.bits a &&& BitVec.ofInt IntKind.u32.bits b).toNat
def orW (a b:Int):Int:=w32 (BitVec.ofInt IntKind.u32.bits a ||| BitVec.ofInt IntKind.u32.bits b).toNat
def xorW (a b:Int):Int:=w32 (BitVec.ofInt IntKind.u32.bits a ^^^ BitVec.ofInt IntKind.u32.bits b).toNat
def shlW (a b:Int):Int:=w32 (a*2 ^ (min b.toNat IntKind.u32.bits))
def shrW (a b:Int):Int:=a.fdiv (2 ^ (min b.toNat IntKind.u32.bits))
def applyW (op a b:Int):Int × Int :=
 if op=4 then (w32 (a+b),0) else if op=5 then (w32 (a-b),0) else if op=6 then (w32 (a*b),0)
 else if op=7 then (if b=0 then (0,14) else (w32 (a.tdiv b),0))
 else if op=8 then (if b=0 then (0,14) else (a.tmod b,0))
 else if op=9 then (andW a b,0) else if op=10 then (orW a b,0) else if op=11 then (xorW a b,0)
 else if op=12 then (if 31<b then 0 else shlW a b,0)
 else if op=13 then (if 31<b then 0 else shrW a b,0)
 else if op=14 then (if a<b then 1 else 0,0)
 else if op=15 then (if a=b then 1 else 0,0)
 else (0,1)
abbrev tup2 (p:Int × Int):AV:=.tup [U32 p.1,I p.2]
set_option maxRecDepth 10000
open Go.V
theorem set_B (l:List Bool) (i:Nat) (x:Bool):(l.map B).set i (.val (.bool x))=(l.set i x).map B:=set_map B l i x
def withinB (a b:List Bool):Bool:=decide (∀ i<a.length,gB a i=true→gB b i=true)
theorem gB_getD (l:List Bool) (i:Nat):l.getD i default=gB l i:=rfl
theorem useL_take (l:List Bool) (us:List Int) {k:Nat} (hk:k<us.length):useL l (us.take (k+1))=(useL l (us.take k)).set (us.getD k default).toNat true:=by
 have e:us.take (k+1)=us.take k++[us.getD k default]:=by rw[List.take_add_one];simp[List.getD,List.getElem?_eq_getElem hk]
 rw[e];simp[useL]
theorem drop_back (ins:List Tac) (l:List Bool) {k:Nat} (hk:k<ins.length):thruL (ins.drop k) l=backL (ins.getD k default) (thruL (ins.drop (k+1)) l):=by
 have e:ins.getD k default=ins[k]:=by simp[List.getD,List.getElem?_eq_getElem hk]
 rw[e]
 conv=>lhs;rw[List.drop_eq_getElem_cons hk]
 rfl
def nxtv (b:Bk):AV:=if b.e=1 then ints [b.to] else if b.e=2 then ints [b.to,b.el] else nilv
theorem nxtv_one (b:Bk):(nxtv b).one=true:=by unfold nxtv;(split;rfl;split<;>rfl)
theorem nxtv_frz (n:Nat) (H:List VObj) (nx:Nat) (b:Bk):Frz n H nx (nxtv b) (ints (nxt b)):=by
 unfold nxtv nxt
 split
 ·exact Frz.pure rfl
 ·split
  ·exact Frz.pure rfl
  ·exact Frz.nil 1
theorem next_c (f:BF) (hb:f.bks.length≤500):Contract Try.prog 64 [bfA f] (fun x=>x = .imm 1 (f.bks.map fun b=>ints (nxt b))):=by
 obtain ⟨r,bs⟩:=f
 simp only at hb ⊢
 refine Contract.of_call (VCall.of_body hmix f_flow_Next (by simp) ?_)
 simp only[go_sem,c_flow_Next]
 repeat (refine And.intro (by omega) ?_)
 refine VW_loop (fun q:Nat × Nat=>⟨[(1,.ptr 0 0 0),(3,.ref 1 1 0 bs.length),(11,.imm 5 (bs.map bkA)),(12,I bs.length),(13,I q.1)],
  [⟨0,52,1,[I r,.imm 5 (bs.map bkA)]⟩,⟨1,53,1,filled nxtv nilv bs q.1⟩],q.2⟩) (fun q=>q.1≤bs.length∧2≤q.2) (fun q=>bs.length-q.1) (0,2)
  (Wk.mk (by simp[get_cons]) ⟨[],by simp[flat_rep,filled_zero]⟩ (Nat.le_refl _)) ⟨by omega,by omega⟩ ?_
 rintro ⟨k,nx⟩ ⟨hk,hnx⟩
 simp only[go_sem]
 refine ⟨fun h=>?_,fun h=>?_⟩
 ·have hl:=filled_length nxtv nilv bs (show k≤bs.length by omega)
  rw[i64_in (by omega) (by omega)]
  have hs:=filled_set nxtv nilv bs (show k<bs.length by omega)
  have hsk:=filled_skip nxtv nilv bs (show k<bs.length by omega)
  generalize hx:bs.getD k default=b at *
  refine ⟨by omega,fun h1=>?_,fun h1=>⟨fun h2=>?_,fun h2=>?_⟩⟩
  ·repeat (refine And.intro (by omega) ?_)
   refine ⟨(k+1,nx+1+1),⟨by simp;omega,by simp⟩,by simp;omega,Wk.give (by simp[get_cons]) ?_ (Nat.le_refl _)⟩
   simp only[OW,CW.refl,Nat.reduceEqDiff,false_implies,true_and,and_true]
   rw[← hs,show nxtv b=ints [b.to] by simp[nxtv,h1]]
   exact CW.set (frz_ints (by simp) rfl rfl)
  ·have h1:b.e≠1:=by simpa using h1
   repeat (refine And.intro (by omega) ?_)
   refine ⟨(k+1,nx+1+1),⟨by simp;omega,by simp⟩,by simp;omega,Wk.give (by simp[get_cons]) ?_ (Nat.le_refl _)⟩
   simp only[OW,CW.refl,Nat.reduceEqDiff,false_implies,true_and,and_true]
   rw[← hs,show nxtv b=ints [b.to,b.el] by simp[nxtv,h2]]
   exact CW.set (frz_ints (by simp) rfl rfl)
  ·refine ⟨(k+1,nx+1),⟨by simp;omega,by simp;omega⟩,by simp;omega,Wk.give (by simp[get_cons]) ?_ (Nat.le_refl _)⟩
   simp only[OW,CW.refl,Nat.reduceEqDiff,false_implies,true_and,and_true]
   rw[← hsk (by (try simp at h1 h2);simp[nxtv,h1,h2])]
   exact CW.refl _
 ·refine ⟨_,?_,rfl⟩
  rw[filled_all nxtv nilv bs (by omega)]
  exact frz_map (by omega) rfl rfl nxtv_one (fun b _=>nxtv_frz _ _ _ b)
set_option maxRecDepth 10000
open Go.V
theorem down_v (n idY sy idN sN:Nat) (Inv:Nat→List VObj→Nat→Prop) (H0:List VObj) (nx0:Nat) (C:AV→List VObj→Nat→Prop) (hn:n≤1000000)
 (hbox:∀ k H nx,Inv k H nx→H[idN]? = some ⟨sN,3,1,[I n]⟩)
 (hy:∀ k H nx (C':AV→List VObj→Nat→Prop),k<n→Inv k H nx→(∀ H' nx',Inv (k+1) H' nx'→C' (B true) H' nx')→YCall Try.prog idY sy [I ((n:Int)-1-k)] H nx C')
 (h0:Inv 0 H0 nx0) (hC:∀ r H nx,Inv n H nx→C r H nx):VCall Try.prog 98 [.yld idY sy,.ptr idN sN 0] H0 nx0 C:=by
 refine VCall.of_bodyB hmix f_live_down_1 (by simp) ?_
 simp only[go_sem,c_live_down_1,hbox _ _ _ h0]
 rw[i64_in (by omega) (by omega)]
 refine VW_loop (fun q:Nat × List VObj × Nat=>⟨[(0,.yld idY sy),(1,.ptr idN sN 0),(3,I ((n:Int)-1-q.1))],q.2.1,q.2.2⟩) (fun q=>q.1≤n∧Inv q.1 q.2.1 q.2.2) (fun q=>n-q.1) (0,H0,nx0)
  (Wk.mk (by simp[get_cons]) ⟨[],by simp⟩ (Nat.le_refl _)) ⟨by omega,h0⟩ ?_
 rintro ⟨k,H,nx⟩ ⟨hk,hI⟩
 simp only at hk hI
 by_cases h1:k<n
 ·simp only[go_sem,eq_true (show (0:Int)≤(n:Int)-1-k by omega)]
  refine hy k H nx _ h1 hI fun H' nx' hI'=>?_
  simp only[go_sem]
  rw[i64_in (by omega) (by omega)]
  exact ⟨(k+1,H',nx'),⟨by simp;omega,hI'⟩,by simp;omega,Wk.mk (by simp[get_cons];omega) ⟨[],by simp⟩ (Nat.le_refl _)⟩
 ·simp only[go_sem,eq_false (show ¬ (0:Int)≤(n:Int)-1-k by omega)]
  obtain rfl:k=n:=by omega
  exact hC _ _ _ hI
theorem rep_B (n:Nat):(List.replicate n [AV.val (.bool false)]).flatten=(List.replicate n false).map B:=by rw[flat_rep];simp
theorem clear_pos {t:Tac} {l:List Bool} (h:0≤setsL t):l.set (setsL t).toNat false=clearL t l:=(if_pos h).symm
theorem clear_neg {t:Tac} {l:List Bool} (h:¬ 0≤setsL t):clearL t l=l:=if_neg h
theorem last_pos {b:Bk} {l:List Bool} (h:b.e=2):l.set b.v.toNat true=lastL b l:=(if_pos h).symm
theorem last_neg {b:Bk} {l:List Bool} (h:¬ b.e=2):lastL b l=l:=if_neg h
abbrev atL (b:Bk) (l:List Bool) (k:Nat):List Bool:=thruL (b.ins.drop (b.ins.length-k)) (lastL b l)
theorem atL_len (b:Bk) (l:List Bool) (k:Nat):(atL b l k).length=l.length:=by rw[atL,thruL_len,lastL_len]
theorem atL_step (b:Bk) (l:List Bool) {k:Nat} (h:k<b.ins.length):backL (b.ins.getD (b.ins.length-k-1) default) (atL b l k)=atL b l (k+1):=by
 unfold atL
 rw[show b.ins.length-(k+1)=b.ins.length-k-1 by omega,drop_back _ _ (show b.ins.length-k-1<b.ins.length by omega),show b.ins.length-k-1+1=b.ins.length-k by omega]
theorem atL_zero (b:Bk) (l:List Bool):atL b l 0=lastL b l:=by simp[atL,thruL]
theorem atL_all (b:Bk) (l:List Bool):atL b l b.ins.length=aheadL b l:=by simp[atL,aheadL]
set_option maxRecDepth 10000
open Go.V
def EndsP (b:Bk) (blocks regs:Int):Prop :=
 if b.e=1 then 0≤b.to∧b.to<blocks∧b.v=0∧b.el=0
 else if b.e=2 then 0≤b.to∧b.to<blocks∧0≤b.el∧b.el<blocks∧0≤b.v∧b.v<regs
 else b.e=3∧b.v=0∧b.to=0∧b.el=0
instance (b:Bk) (n r:Int):Decidable (EndsP b n r):=by unfold EndsP;exact inferInstance
def endsB (b:Bk) (n r:Int):Bool:=decide (EndsP b n r)
theorem rends_c (b:Bk) (n r:Int):Contract Try.prog 58 [bkA b,I n,I r] (fun x=>x=B (endsB b n r)):=by
 refine Contract.of_call (VCall.of_body hmix f_scref24_ends (by simp) ?_)
 obtain ⟨ins,e,v,to,el⟩:=b
 obtain ⟨x,hx⟩:∃ x,endsB ⟨ins,e,v,to,el⟩ n r=x:=⟨_,rfl⟩
 rw[hx]
 have hX:(x=true↔EndsP ⟨ins,e,v,to,el⟩ n r):=by rw[← hx];exact decide_eq_true_iff
 have he:e=1∨e=2∨e=3∨(e≠1∧e≠2∧e≠3):=by omega
 rcases he with rfl | rfl | rfl | ⟨h1,h2,h3⟩
 ·simp only[EndsP,if_true]at hX
  simp only[go_sem,c_scref24_ends,Int.reduceEq,Int.reduceBEq]
  refine VCall.of_contract (rwithin_c _ _) (SleL.pure rfl) fun y hy=>?_
  subst hy
  cases hb:inB to n
  ·have hb':=of_decide_eq_false hb
   simp only[go_sem,hb]
   refine ⟨_,Frz.pure rfl,?_⟩
   congr 2
   rw[Bool.eq_iff_iff,hX]
   simp only[Bool.false_eq_true,false_iff,not_and,and_imp]
   intros;omega
  ·have hb':=of_decide_eq_true hb
   simp only[go_sem,hb]
   repeat' (first | (with_reducible apply And.intro) | (with_reducible intro _))
   all_goals
    refine ⟨_,Frz.pure rfl,?_⟩
    congr 2
    rw[Bool.eq_iff_iff,hX]
    simp only[Bool.and_eq_true,beq_iff_eq,true_and,and_true,Bool.false_eq_true,false_iff,not_and,and_imp]
    first | omega | (intros;omega)
 ·simp only[EndsP,if_true,Int.reduceEq,if_false]at hX
  simp only[go_sem,c_scref24_ends,Int.reduceEq,Int.reduceBEq]
  refine VCall.of_contract (rwithin_c _ _) (SleL.pure rfl) fun y hy=>?_
  subst hy
  cases hb:inB to n
  ·have hb':=of_decide_eq_false hb
   simp only[go_sem,hb]
   refine ⟨_,Frz.pure rfl,?_⟩
   congr 2
   rw[Bool.eq_iff_iff,hX]
   simp only[Bool.false_eq_true,false_iff,not_and,and_imp]
   intros;omega
  ·have hb':=of_decide_eq_true hb
   simp only[go_sem,hb]
   refine VCall.of_contract (rwithin_c _ _) (SleL.pure rfl) fun y hy=>?_
   subst hy
   cases hc:inB el n
   ·have hc':=of_decide_eq_false hc
    simp only[go_sem,hc]
    refine ⟨_,Frz.pure rfl,?_⟩
    congr 2
    rw[Bool.eq_iff_iff,hX]
    simp only[Bool.false_eq_true,false_iff,not_and,and_imp]
    intros;omega
   ·have hc':=of_decide_eq_true hc
    simp only[go_sem,hc]
    refine VCall.of_contract (rwithin_c _ _) (SleL.pure rfl) fun y hy=>?_
    subst hy
    simp only[go_sem]
    refine ⟨_,Frz.pure rfl,?_⟩
    congr 2
    rw[Bool.eq_iff_iff,hX]
    unfold inB
    rw[decide_eq_true_iff]
    omega
 ·simp only[EndsP,if_true,Int.reduceEq,if_false]at hX
  simp only[go_sem,c_scref24_ends,Int.reduceEq,Int.reduceBEq]
  repeat' (first | (with_reducible apply And.intro) | (with_reducible intro _))
  all_goals
   refine ⟨_,Frz.pure rfl,?_⟩
   congr 2
   rw[Bool.eq_iff_iff,hX]
   simp only[Bool.and_eq_true,beq_iff_eq,true_and,and_true,Bool.false_eq_true,false_iff,not_and,and_imp]
   first | omega | (intros;omega)
 ·simp only[EndsP,if_neg h1,if_neg h2]at hX
  simp only[go_sem,c_scref24_ends,eq_false h1,eq_false h2,eq_false h3,beq_false_of_ne h1,beq_false_of_ne h2,beq_false_of_ne h3]
  refine ⟨_,Frz.pure rfl,?_⟩
  congr 2
  rw[Bool.eq_iff_iff,hX]
  simp only[Bool.false_eq_true,false_iff,not_and,and_imp]
  intros;omega
def insB (l:List Tac) (number regs words:Int):Bool:=l.all fun t=>fitsT t number regs words
def blkB (n regs number words:Int) (b:Bk):Bool:=endsB b n regs && insB b.ins number regs words
def oneB (f:BF) (number words:Int):Bool:=decide (0≤f.regs∧f.regs≤4000∧f.bks≠[]) && f.bks.all (blkB f.bks.length f.regs number words)
theorem rone_c (f:BF) (number words:Int) (hw:0≤words∧words≤1048576) (hb:f.bks.length≤140737488355328) (hi:∀ b ∈ f.bks,b.ins.length≤140737488355328) :
 Contract Try.prog 37 [bfA f,I number,I words] (fun x=>x=B (oneB f number words)):=by
 refine Contract.of_call (VCall.of_body hmix f_scref24_One (by simp) ?_)
 by_cases h:0≤f.regs∧f.regs≤4000∧f.bks≠[]
 ·obtain ⟨h1,h2,h3⟩:=h
  have h4:(f.bks.length:Int)≠0:=by intro e;exact h3 (List.eq_nil_of_length_eq_zero (by omega))
  simp only[go_sem,c_scref24_One,eq_false (show ¬ f.regs<0 by omega),eq_false (show ¬ 4000<f.regs by omega),eq_false h4,beq_false_of_ne h4]
  refine VW_loop (fun k:Nat=>⟨[(1,I number),(2,I words),(3,.ptr 0 0 0),(7,I k)],[⟨0,52,1,[I f.regs,bksA f.bks]⟩],1⟩) (fun k=>k≤f.bks.length∧(f.bks.take k).all (blkB f.bks.length f.regs number words)=true) (fun k=>f.bks.length-k) 0
   (Wk.mk (by simp[get_cons]) ⟨[],rfl⟩ (Nat.le_refl _)) ⟨by omega,rfl⟩ ?_
  rintro k ⟨hk,hp⟩
  by_cases hlt:k<f.bks.length
  ·have hbi:=hi _ (mem_getD hlt)
   have hstop:blkB f.bks.length f.regs number words (f.bks.getD k default)=false→oneB f number words=false:=fun e=>by unfold oneB;rw[all_stop hlt e];simp
   have hstep:blkB f.bks.length f.regs number words (f.bks.getD k default)=true→(f.bks.take (k+1)).all (blkB f.bks.length f.regs number words)=true:=fun e=>all_step hlt hp e
   simp only[go_sem,eq_true (show (k:Int)<f.bks.length by omega)]
   generalize hbk:f.bks.getD k default=b at hbi hstop hstep ⊢
   repeat (with_reducible refine And.intro (by omega) ?_)
   refine VCall.of_contract (rends_c b _ _) (SleL.pure rfl) fun y hy=>?_
   subst hy
   cases he:endsB b f.bks.length f.regs
   ·simp only[go_sem,he]
    refine ⟨_,Frz.pure rfl,?_⟩
    rw[hstop (by unfold blkB;rw[he];rfl)]
   ·simp only[go_sem,he]
    refine VW_loop (fun j:Nat=>⟨[(1,I number),(2,I words),(3,.ptr 0 0 0),(7,I k),(8,I j)],[⟨0,52,1,[I f.regs,bksA f.bks]⟩],1⟩) (fun j=>j≤b.ins.length∧(b.ins.take j).all (fun t=>fitsT t number f.regs words)=true) (fun j=>b.ins.length-j) 0
     (Wk.mk (by simp[get_cons]) ⟨[],rfl⟩ (Nat.le_refl _)) ⟨by omega,rfl⟩ ?_
    rintro j ⟨hj,hq⟩
    by_cases hl2:j<b.ins.length
    ·simp only[go_sem,hbk,eq_true (show (j:Int)<b.ins.length by omega)]
     repeat (with_reducible refine And.intro (by omega) ?_)
     refine VCall.of_contract (rfits_c _ number f.regs words hw) (SleL.pure rfl) fun y hy=>?_
     subst hy
     cases hf:fitsT (b.ins.getD j default) number f.regs words
     ·simp only[go_sem,hf]
      refine ⟨_,Frz.pure rfl,?_⟩
      rw[hstop (by unfold blkB insB;rw[all_stop hl2 hf];simp)]
     ·simp only[go_sem,hf]
      rw[i64_in (by omega) (by omega)]
      exact ⟨j+1,⟨by omega,all_step hl2 hq hf⟩,by omega,Wk.mk (by simp[get_cons]) ⟨[],rfl⟩ (Nat.le_refl _)⟩
    ·simp only[go_sem,hbk,eq_false (show ¬ (j:Int)<b.ins.length by omega)]
     repeat (with_reducible refine And.intro (by omega) ?_)
     rw[i64_in (by omega) (by omega)]
     exact ⟨k+1,⟨by omega,hstep (by unfold blkB insB;rw[he,all_end (by omega) hq];rfl)⟩,by omega,Wk.mk (by simp[get_cons]) ⟨[],rfl⟩ (Nat.le_refl _)⟩
  ·simp only[go_sem,eq_false (show ¬ (k:Int)<f.bks.length by omega)]
   refine ⟨_,Frz.pure rfl,?_⟩
   unfold oneB
   rw[all_end (by omega) hp,decide_eq_true ⟨h1,h2,h3⟩];rfl
 ·have e:oneB f number words=false:=by unfold oneB;rw[decide_eq_false h];rfl
  rw[e]
  by_cases h1:f.regs<0
  ·simp only[go_sem,c_scref24_One,eq_true h1]
   exact ⟨_,Frz.pure rfl,rfl⟩
  ·by_cases h2:4000<f.regs
   ·simp only[go_sem,c_scref24_One,eq_false h1,eq_true h2]
    exact ⟨_,Frz.pure rfl,rfl⟩
   ·have h3:f.bks=[]:=Classical.byContradiction fun e=>h ⟨by omega,by omega,e⟩
    simp only[go_sem,c_scref24_One,eq_false h1,eq_false h2,h3,List.map_nil,Nat.cast_zero',Int.reduceEq]
    exact ⟨_,Frz.pure rfl,rfl⟩
theorem one_fine {f:BF} {number words:Int} (h:oneB f number words=true) (hb:f.bks.length≤500) (hi:∀ b ∈ f.bks,b.ins.length≤1000):Fine f:=by
 unfold oneB at h
 simp only[Bool.and_eq_true,decide_eq_true_eq,List.all_eq_true]at h
 obtain ⟨⟨h1,h2,h3⟩,h4⟩:=h
 have he:∀ b ∈ f.bks,EndsP b f.bks.length f.regs:=fun b hbm=>by
  have:=h4 b hbm
  unfold blkB endsB at this
  simp only[Bool.and_eq_true,decide_eq_true_eq]at this
  exact this.1
 have ht:∀ b ∈ f.bks,∀ t ∈ b.ins,FitsT t number f.regs words:=fun b hbm t htm=>by
  have:=h4 b hbm
  unfold blkB insB at this
  simp only[Bool.and_eq_true,List.all_eq_true]at this
  exact of_decide_eq_true (this.2 t htm)
 refine ⟨h1,h2,h3,hb,fun b hbm t htm=>?_,hi,fun b hbm h=>?_,fun b hbm k hk=>?_⟩
 ·obtain ⟨_,_,g1,g2,_⟩:=ht b hbm t htm
  exact ⟨g2,fun hs=>by rw[if_pos hs]at g1;exact g1⟩
 ·have:=he b hbm
  unfold EndsP at this
  rw[h,if_neg (by decide),if_pos rfl]at this
  exact ⟨this.2.2.2.2.1,this.2.2.2.2.2⟩
 ·have:=he b hbm
  unfold EndsP at this
  unfold nxt at hk
  split at hk
  ·rename_i h1;rw[if_pos h1]at this;simp at hk;subst hk;exact ⟨this.1,this.2.1⟩
  ·rename_i h1
   split at hk
   ·rename_i h2;rw[if_neg h1,if_pos h2]at this;simp at hk
    rcases hk with rfl | rfl
    ·exact ⟨this.1,this.2.1⟩
    ·exact ⟨this.2.2.1,this.2.2.2.1⟩
   ·simp at hk
structure BP where
 words:Int
 funcs:List BF
deriving Inhabited,DecidableEq
abbrev bfL (f:BF):List AV:=[I f.regs,bksA f.bks]
abbrev bpA (b:BP):AV:=.agg [I b.words,.imm 2 (b.funcs.map bfA)]
def rightB (b:BP):Bool:=decide (0≤b.words∧b.words≤1048576∧b.funcs≠[]) && (List.range b.funcs.length).all fun i=>oneB (b.funcs.getD i default) i b.words
theorem rright_c (b:BP) (hn:b.funcs.length≤140737488355328) (hb:∀ f ∈ b.funcs,f.bks.length≤140737488355328) (hi:∀ f ∈ b.funcs,∀ b ∈ f.bks,b.ins.length≤140737488355328) :
 Contract Try.prog 19 [bpA b] (fun x=>x=B (rightB b)):=by
 refine Contract.of_call (VCall.of_body hmix f_scref24_Right (by simp) ?_)
 by_cases h:0≤b.words∧b.words≤1048576∧b.funcs≠[]
 ·obtain ⟨h1,h2,h3⟩:=h
  have h4:(b.funcs.length:Int)≠0:=by intro e;exact h3 (List.eq_nil_of_length_eq_zero (by omega))
  simp only[go_sem,c_scref24_Right,eq_false (show ¬ b.words<0 by omega),eq_false (show ¬ 1048576<b.words by omega),eq_false h4,beq_false_of_ne h4]
  refine VW_loop (fun k:Nat=>⟨[(1,.ptr 0 0 0),(3,I k)],[⟨0,24,1,[I b.words,.imm 2 (b.funcs.map bfA)]⟩],1⟩) (fun k=>k≤b.funcs.length∧∀ i<k,oneB (b.funcs.getD i default) i b.words=true) (fun k=>b.funcs.length-k) 0
   (Wk.mk (by simp[get_cons]) ⟨[],rfl⟩ (Nat.le_refl _)) ⟨by omega,by omega⟩ ?_
  rintro k ⟨hk,hp⟩
  by_cases hlt:k<b.funcs.length
  ·simp only[go_sem,eq_true (show (k:Int)<b.funcs.length by omega)]
   repeat (with_reducible refine And.intro (by omega) ?_)
   refine VCall.of_contract (rone_c (b.funcs.getD k default) k b.words ⟨h1,h2⟩ (hb _ (mem_getD hlt)) (hi _ (mem_getD hlt))) (SleL.pure rfl) fun y hy=>?_
   subst hy
   cases ho:oneB (b.funcs.getD k default) k b.words
   ·simp only[go_sem,ho]
    refine ⟨_,Frz.pure rfl,?_⟩
    rw[show rightB b=false from ?_]
    unfold rightB
    rw[show (List.range b.funcs.length).all (fun i=>oneB (b.funcs.getD i default) i b.words)=false from List.all_eq_false.2 ⟨k,List.mem_range.2 hlt,by rw[ho];decide⟩]
    simp
   ·simp only[go_sem,ho]
    rw[i64_in (by omega) (by omega)]
    refine ⟨k+1,⟨by omega,fun i hi=>?_⟩,by omega,Wk.mk (by simp[get_cons]) ⟨[],rfl⟩ (Nat.le_refl _)⟩
    by_cases e:i=k
    ·rw[e];exact ho
    ·exact hp i (by omega)
  ·simp only[go_sem,eq_false (show ¬ (k:Int)<b.funcs.length by omega)]
   refine ⟨_,Frz.pure rfl,?_⟩
   rw[show rightB b=true from ?_]
   unfold rightB
   rw[decide_eq_true ⟨h1,h2,h3⟩,Bool.true_and,List.all_eq_true]
   exact fun i hi=>hp i (by have:=List.mem_range.1 hi;omega)
 ·have e:rightB b=false:=by unfold rightB;rw[decide_eq_false h];rfl
  rw[e]
  by_cases h1:b.words<0
  ·simp only[go_sem,c_scref24_Right,eq_true h1]
   exact ⟨_,Frz.pure rfl,rfl⟩
  ·by_cases h2:1048576<b.words
   ·simp only[go_sem,c_scref24_Right,eq_false h1,eq_true h2]
    exact ⟨_,Frz.pure rfl,rfl⟩
   ·have h3:b.funcs=[]:=Classical.byContradiction fun e=>h ⟨by omega,by omega,e⟩
    simp only[go_sem,c_scref24_Right,eq_false h1,eq_false h2,h3,List.map_nil,Nat.cast_zero',Int.reduceEq]
    exact ⟨_,Frz.pure rfl,rfl⟩
set_option maxRecDepth 10000
open Go.V Go.ChangeShapes Go.WideShapes Go.ChangeAt Go.RowKit
theorem Try.own:ownKnob Try.prog.godebug=none:=by kernel_rfl
theorem Try.laidOut:laidOutB Try.prog=true:=by kernel_rfl
set_option maxRecDepth 10000
open Go.V Go.ChangeShapes Go.WideShapes Go.ChangeAt Go.RowKit
structure LOK (L:LD):Prop where
 i:L.inn.length≤140737488355328
 o:L.out.length≤140737488355328
 ir:∀ l ∈ L.inn,l.length≤140737488355328
 or:∀ l ∈ L.out,l.length≤140737488355328
theorem fitS_cons {s:Sh} {ss:List Sh} {ys:List AV} (h:Sh.fitL (s::ss) ys):∃ y ys',ys=y::ys'∧s.fit y∧Sh.fitL ss ys':=by
 simp only[Sh.fitL]at h;exact h
set_option maxRecDepth 10000
open Go.V
def blkC (f:BF) (L:LD) (b:Nat):Bool:=(nxt (f.bk b)).all (fun k=>withinB (L.inn.getD k.toNat default) (L.out.getD b default)) && withinB (aheadL (f.bk b) (L.out.getD b default)) (L.inn.getD b default)
def checkB (f:BF) (L:LD):Bool:=sizedB f L && (List.range f.n).all (blkC f L)
theorem checkB_iff {f:BF} (hf:Fine f) (L:LD):checkB f L=true↔ClosedP f L:=by
 unfold checkB
 rw[Bool.and_eq_true,sizedB_iff hf.r0,List.all_eq_true]
 have hrow:∀ (m:List (List Bool)) b,m.getD b default=m.getD b []:=fun _ _=>rfl
 refine ⟨fun ⟨hs,h⟩=>⟨hs,⟨fun b hb k hk v hv h1=>?_,fun b hb v hv h1=>?_⟩⟩,fun h=>⟨h.sz,fun b hb=>?_⟩⟩
 ·have:=h b (List.mem_range.2 hb)
  unfold blkC at this
  rw[Bool.and_eq_true,List.all_eq_true]at this
  have hk':=hf.to _ (BF.mem hb) k hk
  exact of_decide_eq_true (this.1 k hk) v (by rw[hrow,hs.il (show k.toNat<f.n by unfold BF.n;omega)];exact hv) h1
 ·have:=h b (List.mem_range.2 hb)
  unfold blkC at this
  rw[Bool.and_eq_true,List.all_eq_true]at this
  refine of_decide_eq_true this.2 v (by rw[aheadL_len,hrow,hs.ol hb];exact hv) ?_
  rw[hrow,gB_ahead hf hb _ (hs.ol hb) hv]
  exact h1
 ·have hb:=List.mem_range.1 hb
  unfold blkC
  rw[Bool.and_eq_true,List.all_eq_true]
  refine ⟨fun k hk=>?_,?_⟩
  ·have hk':=hf.to _ (BF.mem hb) k hk
   refine decide_eq_true fun v hv h1=>h.cl.way b hb k hk v ?_ h1
   rw[hrow,h.sz.il (show k.toNat<f.n by unfold BF.n;omega)]at hv
   exact hv
  ·refine decide_eq_true fun v hv h1=>h.cl.ahead b hb v ?_ ?_
   ·rw[aheadL_len,hrow,h.sz.ol hb]at hv;exact hv
   ·rw[aheadL_len,hrow,h.sz.ol hb]at hv
    have:=gB_ahead hf hb _ (h.sz.ol hb) hv
    rw[hrow]at h1
    rw[h1]at this
    exact this.symm
theorem Fine.regs {f:BF} (hf:Fine f) {b:Nat} (hb:b<f.n) {l:List Bool} (hl:l.length=f.r):(∀ t ∈ (f.bk b).ins,RegT t l.length)∧((f.bk b).e=2→0≤(f.bk b).v∧(f.bk b).v<l.length):=by
 have h0:=hf.r0
 have e:(l.length:Int)=f.regs:=by rw[hl];unfold BF.r;omega
 rw[e]
 exact ⟨hf.ins _ (BF.mem hb),hf.v _ (BF.mem hb)⟩
set_option maxRecDepth 10000
open Go.V
theorem rows_frz {n:Nat} {H:List VObj} {nx id s ty:Nat} {m:List (List Bool)} {len:Nat} (hid:n≤id) (ho:H[id]? = some ⟨s,ty,1,m.map bools⟩) (hlen:len=m.length):Frz n H nx (.ref id s 0 len) (rowsA m) :=
 frz_map hid ho hlen (fun _=>rfl) fun _ _=>Frz.pure rfl
set_option maxRecDepth 10000
open Go.V
abbrev U64 (n:Int):AV:=.val (.int .u64 n)
def rl (r:Nat):Nat:=if r=0 then 0 else 1
def rowC64 (l:List Bool):List AV:=if l.length=0 then [] else [U64 (wd l)]
theorem rowC64_pos {l:List Bool} (h:l.length≠0):rowC64 l=[U64 (wd l)]:=if_neg h
theorem rl_pos {r:Nat} (h:r≠0):rl r=1:=if_neg h
theorem rowC64_len (l:List Bool):(rowC64 l).length=rl l.length:=by
 unfold rowC64 rl;split<;>rfl
theorem u64_nat {a:Nat} (h:a<2 ^ 64):IntKind.u64.wrap (a:Int)=a:=by
 rw[IntKind.wrap_u64];omega
theorem bv_nat {a:Nat}:BitVec.ofInt 64 (a:Int)=BitVec.ofNat 64 a:=by
 rw[BitVec.ofInt_natCast]
theorem or64 {a b:Nat} (ha:a<2 ^ 64) (hb:b<2 ^ 64):IntKind.u64.wrap ((BitVec.ofInt 64 (a:Int) ||| BitVec.ofInt 64 (b:Int)).toNat:Nat)=((a ||| b:Nat):Int):=by
 rw[bv_nat,bv_nat]
 have e:((BitVec.ofNat 64 a ||| BitVec.ofNat 64 b).toNat)=a ||| b:=by
  rw[BitVec.toNat_or,BitVec.toNat_ofNat,BitVec.toNat_ofNat,Nat.mod_eq_of_lt ha,Nat.mod_eq_of_lt hb]
 have h:a ||| b<2 ^ 64:=Nat.or_lt_two_pow ha hb
 show IntKind.u64.wrap (((BitVec.ofNat 64 a ||| BitVec.ofNat 64 b).toNat:Nat):Int)=_
 rw[e,u64_nat h]
def subL (a b:List Bool):List Bool:=(List.range a.length).map fun v=>gB a v && !gB b v
theorem subL_len (a b:List Bool):(subL a b).length=a.length:=by simp[subL]
theorem gB_sub (a b:List Bool) {v:Nat} (hv:v<a.length):gB (subL a b) v=(gB a v && !gB b v):=by
 unfold subL;rw[gB,List.getD];simp[hv]
theorem andNot64 {a b:List Bool} (ha:a.length≤64) (hb:b.length≤64):IntKind.u64.wrap ((BitVec.ofInt 64 (wd a:Int) &&& ~~~BitVec.ofInt 64 (wd b:Int)).toNat:Nat)=((wd (subL a b):Nat):Int):=by
 rw[bv_nat,bv_nat]
 have e:(BitVec.ofNat 64 (wd a) &&& ~~~BitVec.ofNat 64 (wd b)).toNat=wd (subL a b):=wd_eq fun i=>by
  rw[BitVec.testBit_toNat,BitVec.getLsbD_and,BitVec.getLsbD_not,BitVec.getLsbD_ofNat,BitVec.getLsbD_ofNat,wd_bit,wd_bit]
  rcases Nat.lt_or_ge i a.length with h | h
  ·rw[gB_sub _ _ h]
   have:i<64:=by omega
   simp[this]
  ·rw[gB_out (l:=a) h,gB_out (l:=subL a b) (by rw[subL_len];exact h)];simp
 show IntKind.u64.wrap (((BitVec.ofNat 64 (wd a) &&& ~~~BitVec.ofNat 64 (wd b)).toNat:Nat):Int)=_
 rw[e,u64_nat (wd_lt64 (by rw[subL_len];exact ha))]
theorem shl64 {i:Nat} (h:i<64):IntKind.u64.wrap (1*2 ^ (min i 64))=((2 ^ i:Nat):Int):=by
 rw[Nat.min_eq_left (by omega),Int.one_mul]
 have h2:2 ^ i<2 ^ 64:=Nat.pow_lt_pow_right (by decide) h
 have:=u64_nat h2
 rw[← this]
 congr 1
theorem wd_one {l:List Bool} {i:Nat} (hi:i<l.length):2 ^ i=wd ((List.replicate l.length false).set i true):=by
 have:=wd_set (l:=List.replicate l.length false) (i:=i) (by simpa using hi)
 rw[wd_zero,Nat.zero_or]at this
 exact this
theorem sub_one {l:List Bool} {i:Nat} (hi:i<l.length):subL l ((List.replicate l.length false).set i true)=l.set i false:=gB_ext (by simp[subL]) fun v hv=>by
 rw[subL_len]at hv
 rw[gB_sub _ _ hv,gB_set _ _ _ _ (by simpa using hv),gB_set _ _ _ _ hv,gB_rep]
 by_cases h:i=v
 ·rw[if_pos h,if_pos h];simp
 ·rw[if_neg h,if_neg h];simp
def KeepT (tys:List Nat) (H H':List VObj):Prop:=∀ (k:Nat) (ob:VObj),H[k]? = some ob→ob.ty ∉ tys→H'[k]? = some ob
theorem KeepT.refl (tys:List Nat) (H:List VObj):KeepT tys H H:=fun _ _ h _=>h
theorem KeepT.trans {ts:List Nat} {A B C:List VObj} (h:KeepT ts A B) (k:KeepT ts B C):KeepT ts A C:=fun i ob h1 h2=>k i ob (h i ob h1 h2) h2
theorem KeepT.mono {ts us:List Nat} {A B:List VObj} (h:KeepT ts A B) (hs:∀ t ∈ ts,t ∈ us):KeepT us A B:=fun i ob h1 h2=>h i ob h1 fun e=>h2 (hs _ e)
theorem KeepT.app (ts:List Nat) (H R:List VObj):KeepT ts H (H++R):=fun k ob h _=>by rw[List.getElem?_append_left (List.getElem?_eq_some_iff.1 h).1];exact h
theorem KeepT.set {ts:List Nat} {H:List VObj} {k:Nat} {ob ob':VObj} (h:H[k]? = some ob) (ht:ob.ty ∈ ts):KeepT ts H (H.set k ob'):=fun i o h1 h2=>by
 have hne:k≠i:=fun e=>by subst e;rw[h]at h1;cases h1;exact h2 ht
 rw[List.getElem?_set,if_neg hne];exact h1
theorem ty_ne {H:List VObj} {i j:Nat} {a b:VObj} (h:H[i]? = some a) (k:H[j]? = some b) (ht:a.ty≠b.ty):(i=j)=False:=eq_false fun e=>by subst e;rw[h]at k;cases k;exact ht rfl
theorem lt_of {H:List VObj} {i:Nat} {a:VObj} (h:H[i]? = some a):(i<H.length)=True:=eq_true (List.getElem?_eq_some_iff.1 h).1
theorem ne_len {H:List VObj} {i:Nat} {a:VObj} (h:H[i]? = some a):(H.length=i)=False:=eq_false fun e=>by have:=(List.getElem?_eq_some_iff.1 h).1;omega
theorem ne_len' {H:List VObj} {i:Nat} {a:VObj} (h:H[i]? = some a):(H.length+1=i)=False:=eq_false fun e=>by have:=(List.getElem?_eq_some_iff.1 h).1;omega
theorem set_of_get {α:Type} {l:List α} {i:Nat} {x:α} (h:l[i]? = some x):l.set i x=l:=by
 obtain ⟨hlt,rfl⟩:=List.getElem?_eq_some_iff.1 h
 exact List.set_getElem_self hlt
theorem set_get {H:List VObj} {k:Nat} {a x:VObj} (h:H[k]? = some a):(H.set k x)[k]? = some x:=by
 rw[List.getElem?_set_self (List.getElem?_eq_some_iff.1 h).1]
theorem set_ne {H:List VObj} {k j:Nat} {x:VObj} (h:k≠j):(H.set k x)[j]? = H[j]?:=by rw[List.getElem?_set_ne h]
theorem range_get {n b:Nat} (h:b<n):(List.range n).getD b default=b:=by simp[List.getD,h]
section
variable {H R:List VObj} {i:Nat} {x:VObj}
theorem app_get:(H++R)[H.length+i]? = R[i]?:=by rw[List.getElem?_append_right (by omega)];congr 1;omega
theorem app_get0:(H++R)[H.length]? = R[0]?:=by rw[List.getElem?_append_right (by omega),Nat.sub_self]
theorem app_set:(H++R).set (H.length+i) x=H++R.set i x:=by rw[List.set_append_right _ _ (by omega)];congr 2;omega
theorem app_set0:(H++R).set H.length x=H++R.set 0 x:=by rw[List.set_append_right _ _ (by omega),Nat.sub_self]
theorem app_old {a:VObj} (h:H[i]? = some a):∀ R,(H++R)[i]? = some a:=fun R=>by rw[List.getElem?_append_left (List.getElem?_eq_some_iff.1 h).1];exact h
end
theorem stab_app (H R:List VObj):Stab (fun _=>True) 1 H (H++R):=fun id ob _ h=>⟨ob,by rw[List.getElem?_append_left (List.getElem?_eq_some_iff.1 h).1];exact h,rfl,rfl⟩
theorem stab_set {H:List VObj} {k:Nat} {ob ob':VObj} (h:H[k]? = some ob) (hs:ob'.s=ob.s) (hz:ob'.sz=ob.sz):Stab (fun _=>True) 1 H (H.set k ob'):=fun id o _ ho=>by
 rw[List.getElem?_set]
 by_cases e:k=id
 ·subst e
  rw[h]at ho;cases ho
  rw[if_pos rfl,if_pos (List.getElem?_eq_some_iff.1 h).1];exact ⟨_,rfl,hs,hz⟩
 ·rw[if_neg e];exact ⟨o,ho,rfl,rfl⟩
theorem rowC64_one (l:List Bool):(rowC64 l).all AV.one=true:=by unfold rowC64;split<;>rfl
theorem frz_row {n:Nat} {H:List VObj} {nx id s ty len:Nat} {l:List Bool} (hid:n≤id) (ho:H[id]? = some ⟨s,ty,1,rowC64 l⟩) (hlen:len=rl l.length):Frz n H nx (.ref id s 0 len) (.imm 1 (rowC64 l)):=by
 refine frz_whole hid ho (by rw[rowC64_len,hlen]) rfl (rowC64_one l) fun i x y hx hy=>?_
 rw[hx]at hy
 cases hy
 unfold rowC64 at hx
 split at hx
 ·simp at hx
 ·cases i with
  | zero=>simp at hx;subst hx;exact Frz.pure rfl
  | succ i=>simp at hx
def sprL (l:List Bool) (k:Nat):List Bool:=(List.range l.length).map fun v=>if v<k then gB l v else false
theorem sprL_len (l:List Bool) (k:Nat):(sprL l k).length=l.length:=by simp[sprL]
theorem sprL_zero (l:List Bool):sprL l 0=List.replicate l.length false:=by
 refine List.ext_getElem (by simp[sprL]) fun i h1 h2=>?_
 simp[sprL]
theorem sprL_set (l:List Bool) {k:Nat} (hk:k<l.length):(sprL l k).set k (gB l k)=sprL l (k+1):=by
 refine List.ext_getElem (by simp[sprL]) fun i h1 h2=>?_
 rw[List.getElem_set]
 simp only[sprL,List.getElem_map,List.getElem_range]
 by_cases h:k=i
 ·subst h;simp
 ·rw[if_neg h]
  by_cases h3:i<k
  ·rw[if_pos h3,if_pos (by omega)]
  ·rw[if_neg h3,if_neg (by omega)]
theorem sprL_all (l:List Bool):sprL l l.length=l:=gB_ext (sprL_len _ _) fun v hv=>by
 rw[sprL_len]at hv
 unfold sprL;rw[gB,List.getD];simp[hv]
abbrev nextA (f:BF):AV:=.imm 1 (f.bks.map fun b=>ints (nxt b))
theorem gath_take (I:List (List Bool)) (o:List Bool) (ks:List Int) {j:Nat} (hj:j<ks.length):gath I o (ks.take (j+1))=orL (gath I o (ks.take j)) (I.getD (ks.getD j default).toNat default):=by
 have e:ks.take (j+1)=ks.take j++[ks.getD j default]:=by rw[List.take_add_one];simp[List.getD,List.getElem?_eq_getElem hj]
 rw[e];simp[gath]
set_option maxRecDepth 10000
open Go.V
structure MT (n r:Nat) (H:List VObj) (k s:Nat) (g:Nat→Nat × Nat) (m:List (List Bool)):Prop where
 l:H[k]? = some ⟨s,67,1,(List.range n).map fun b=>.ref (g b).1 (g b).2 0 r⟩
 r:∀ b<n,H[(g b).1]? = some ⟨(g b).2,4,1,(m.getD b []).map B⟩
 d:∀ b<n,∀ c<n,(g b).1=(g c).1→b=c
theorem MT.app {n r:Nat} {H:List VObj} {k s:Nat} {g:Nat→Nat × Nat} {m:List (List Bool)} (h:MT n r H k s g m) (R:List VObj):MT n r (H++R) k s g m :=
 ⟨app_old h.l R,fun b hb=>app_old (h.r b hb) R,h.d⟩
set_option maxRecDepth 10000
open Go.V
theorem rowOf_v (r:Nat) (hr:r≤64) (H:List VObj) (nx:Nat) (C:AV→List VObj→Nat→Prop)
 (hC:C (.ref H.length nx 0 (rl r)) (H++[⟨nx,130,1,rowC64 (List.replicate r false)⟩]) (nx+1)):VCall Try.prog 66 [I r] H nx C:=by
 refine VCall.of_body hmix f_live_rowOf (by simp) ?_
 have e1:IntKind.i64.wrap ((r:Int)+63)=r+63:=i64_in (by omega) (by omega)
 have e2:((r:Int)+63).tdiv 64=rl r:=by
  unfold rl
  split
  ·rename_i h;subst h;rfl
  ·rw[Int.tdiv_eq_ediv_of_nonneg (by omega)];omega
 have e3:IntKind.i64.wrap (rl r:Int)=rl r:=by unfold rl;split<;>rfl
 have e4:rl r≤1:=by unfold rl;split<;>decide
 simp only[go_sem,c_live_rowOf,e1,e2,e3]
 repeat ((with_reducible refine And.intro ?_ ?_);· first | omega | decide)
 rw[show (List.replicate (rl r) [AV.val (.int .u64 0)]).flatten=rowC64 (List.replicate r false) by
  unfold rl rowC64
  by_cases h:r=0
  ·subst h;rfl
  ·rw[if_neg h,if_neg (by simpa using h),wd_zero];rfl]
 exact hC
section
variable (l:List Bool) (i:Int) (H:List VObj) (nx k s m:Nat) (hm:m=rl l.length) (hl:l.length≤64) (hi:0≤i∧i<l.length) (ho:H[k]? = some ⟨s,130,1,rowC64 l⟩) (C:AV→List VObj→Nat→Prop)
include hm hl hi ho
theorem add_v (hC:∀ r,C r (H.set k ⟨s,130,1,rowC64 (l.set i.toNat true)⟩) nx):VCall Try.prog 82 [.ref k s 0 m,I i] H nx C:=by
 refine VCall.of_body hmix f_live_row_add (by simp) ?_
 subst hm
 obtain ⟨j,rfl⟩:∃ j:Nat,i=j:=⟨i.toNat,by omega⟩
 have hj:j<l.length:=by omega
 have hne:l.length≠0:=by omega
 have e1:((j:Int)).tdiv 64=0:=by rw[Int.tdiv_eq_ediv_of_nonneg (by omega)];omega
 have e2:((j:Int)).tmod 64=j:=by rw[Int.tmod_eq_emod_of_nonneg (by omega)];omega
 have e3:=shl64 (show j<64 by omega)
 have e4:IntKind.i64.wrap 0=0:=rfl
 have e5:IntKind.i64.wrap (j:Int)=j:=i64_in (by omega) (by omega)
 have e6:=or64 (wd_lt64 hl) (show 2 ^ j<2 ^ 64 from Nat.pow_lt_pow_right (by decide) (by omega))
 rw[wd_set hj]at e6
 have hC':=hC
 rw[rowC64_pos (by simpa using hne),Int.toNat_natCast]at hC'
 rw[rowC64_pos hne]at ho
 simp only[go_sem,c_live_row_add,e1,e2,e3,e4,e5,ho,rl_pos hne]
 repeat ((with_reducible refine And.intro ?_ ?_);· first | omega | decide)
 have h7:∀ r,C r (H.set k ⟨s,130,1,[U64 (IntKind.u64.wrap ((BitVec.ofInt 64 (wd l:Int) ||| BitVec.ofInt 64 ((2 ^ j:Nat):Int)).toNat:Nat))]⟩) nx:=fun r=>by rw[e6];exact hC' _
 exact h7 _
theorem remove_v (hC:∀ r,C r (H.set k ⟨s,130,1,rowC64 (l.set i.toNat false)⟩) nx):VCall Try.prog 85 [.ref k s 0 m,I i] H nx C:=by
 refine VCall.of_body hmix f_live_row_remove (by simp) ?_
 subst hm
 obtain ⟨j,rfl⟩:∃ j:Nat,i=j:=⟨i.toNat,by omega⟩
 have hj:j<l.length:=by omega
 have hne:l.length≠0:=by omega
 have e1:((j:Int)).tdiv 64=0:=by rw[Int.tdiv_eq_ediv_of_nonneg (by omega)];omega
 have e2:((j:Int)).tmod 64=j:=by rw[Int.tmod_eq_emod_of_nonneg (by omega)];omega
 have e3:=shl64 (show j<64 by omega)
 have e4:IntKind.i64.wrap 0=0:=rfl
 have e5:IntKind.i64.wrap (j:Int)=j:=i64_in (by omega) (by omega)
 have e6:=andNot64 (b:=(List.replicate l.length false).set j true) hl (by simpa using hl)
 rw[← wd_one hj,sub_one hj]at e6
 have hC':=hC
 rw[rowC64_pos (by simpa using hne),Int.toNat_natCast]at hC'
 rw[rowC64_pos hne]at ho
 simp only[go_sem,c_live_row_remove,e1,e2,e3,e4,e5,ho,rl_pos hne]
 repeat ((with_reducible refine And.intro ?_ ?_);· first | omega | decide)
 have h7:∀ r,C r (H.set k ⟨s,130,1,[U64 (IntKind.u64.wrap ((BitVec.ofInt 64 (wd l:Int) &&& ~~~BitVec.ofInt 64 ((2 ^ j:Nat):Int)).toNat:Nat))]⟩) nx:=fun r=>by rw[e6];exact hC' _
 exact h7 _
end
set_option maxRecDepth 10000
open Go.V
theorem done_step (ins:List Tac) (l:List Bool) {k:Nat} (hk:k<ins.length):doneL (ins.drop (ins.length-(k+1))) l =
 if 0≤setsL (ins.getD (ins.length-k-1) default) then (doneL (ins.drop (ins.length-k)) l).set (setsL (ins.getD (ins.length-k-1) default)).toNat true else doneL (ins.drop (ins.length-k)) l:=by
 rw[show ins.length-(k+1)=ins.length-k-1 by omega]
 have e : ins.getD (ins.length - k - 1) default = ins[ins.length - k - 1]'(by omega) := by simp [List.getD, List.getElem?_eq_getElem (show ins.length - k - 1 < ins.length by omega)]
 rw[e]
 conv=>lhs;rw[List.drop_eq_getElem_cons (show ins.length-k-1<ins.length by omega),show ins.length-k-1+1=ins.length-k by omega]
 rfl
abbrev toL (b:Bk) (r k:Nat):List Bool:=doneL (b.ins.drop (b.ins.length-k)) (List.replicate r false)
abbrev tcH (b:Bk) (r:Nat) (x y:List Bool) (R:VObj):List VObj:=[⟨0,49,1,bkL b⟩,⟨1,100,1,[.ref 3 3 0 (rl r)]⟩,⟨2,100,1,[.ref 4 4 0 (rl r)]⟩,⟨3,130,1,rowC64 x⟩,⟨4,130,1,rowC64 y⟩,⟨5,3,1,[I b.ins.length]⟩,R]
theorem touch_c (b:Bk) (r:Nat) (hr:r≤64) (hn:b.ins.length≤1000000) (hv:b.e=2→0≤b.v∧b.v<r) (hrt:∀ t ∈ b.ins,RegT t r) :
 Contract Try.prog 65 [bkA b,I r] (fun x=>x = .tup [.imm 1 (rowC64 (readL b r)),.imm 1 (rowC64 (setL b r))]):=by
 refine Contract.of_call (VCall.of_bodyB hmix f_live_touch (by simp) ?_)
 have hzl:(List.replicate r false).length=r:=by simp
 simp only[go_sem,c_live_touch]
 refine rowOf_v r hr _ _ _ ?_
 try refine ⟨stab_app _ _,?_⟩
 simp only[go_sem]
 refine rowOf_v r hr _ _ _ ?_
 try refine ⟨stab_app _ _,?_⟩
 by_cases h:b.e=2
 all_goals
  first
  | (simp only[go_sem,eq_true (show b.e=2 from h)]
     refine add_v (List.replicate r false) b.v _ _ 3 3 _ (by rw[hzl]) (by rw[hzl];exact hr) (by rw[hzl];exact hv h) rfl _ fun _=>?_
     simp only[go_sem,last_pos h])
  | simp only[go_sem,eq_false h]
  refine VCall.of_body hmix f_live_down (by simp) ?_
  simp only[go_sem,c_live_down]
  intro R Bo E hz hY
  refine down_v b.ins.length 6 6 5 5 (fun k H nx=>H=tcH b r (atL b (List.replicate r false) k) (toL b r k) R∧nx=7) _ _ _ hn (fun k H nx hI=>by rw[hI.1];rfl) (fun k H nx C' hk hI hC'=>?_)
   ⟨by simp only[atL_zero,tcH,toL,Nat.sub_zero,List.drop_length];first | rfl | (rw[last_neg h];rfl),rfl⟩ fun x H nx hI=>?_
  ·obtain ⟨rfl,rfl⟩:=hI
   refine hY _ _ _ _ rfl rfl ?_
   clear hY
   have e1:((b.ins.length:Int)-1-k).toNat=b.ins.length-k-1:=by omega
   have hrt:=hrt _ (mem_getD (show b.ins.length-k-1<b.ins.length by omega))
   simp only[go_sem,e1,List.zip_cons_cons,List.zip_nil_left]
   repeat ((with_reducible refine And.intro ?_ ?_);· omega)
   refine VCall.of_contract (bSets_c _) (SleL.pure rfl) fun r hr'=>?_
   subst hr'
   have hst:=atL_step b (List.replicate r false) hk
   have hdn:=done_step b.ins (List.replicate r false) hk
   have hlx:(atL b (List.replicate r false) k).length=r:=by rw[atL_len,hzl]
   have hly:(toL b r k).length=r:=by rw[toL,doneL_len,hzl]
   generalize hgt:b.ins.getD (b.ins.length-k-1) default=t at hrt hst hdn ⊢
   generalize hgx:atL b (List.replicate r false) k=x at hst hlx ⊢
   rw[show doneL (List.drop (b.ins.length-k) b.ins) (List.replicate r false)=toL b r k from rfl]at hdn
   generalize hgy:toL b r k=y at hdn hly ⊢
   have hs1:0≤setsL t→setsL t<r:=fun h=>by rcases hrt.sets with e | e<;>omega
   by_cases h0:0≤setsL t
   all_goals
    first
    | (simp only[go_sem,e1,eq_true (show 0≤setsL t from h0)]
       refine remove_v x (setsL t) _ _ 3 3 _ (by rw[hlx]) (by rw[hlx];exact hr) (by rw[hlx];exact ⟨h0,hs1 h0⟩) rfl _ fun _=>?_
       simp only[go_sem,clear_pos h0]
       refine add_v y (setsL t) _ _ 4 4 _ (by rw[hly]) (by rw[hly];exact hr) (by rw[hly];exact ⟨h0,hs1 h0⟩) rfl _ fun _=>?_
       rw[if_pos h0]at hdn
       rw[← hdn]
       simp only[go_sem,e1,hgt])
    | (rw[if_neg h0]at hdn
       rw[← hdn]
       simp only[go_sem,e1,eq_false h0,hgt])
    repeat ((with_reducible refine And.intro ?_ ?_);· omega)
    refine VCall.of_contractN (bUses_c t) ?_ fun r hr'=>?_
    ·exact ⟨_,_,rfl,Frz.pure rfl,rfl⟩
    subst hr'
    simp only[go_sem]
    have hcl:(clearL t x).length=r:=by rw[clearL_len,hlx]
    refine VW_loop (fun j:Nat=>⟨[(2,.ptr 0 0 0),(4,.ptr 1 1 0),(5,.ptr 2 2 0),(45,ints (usesL t)),(46,I (usesL t).length),(47,I j)],tcH b r (useL (clearL t x) ((usesL t).take j)) (doneL (List.drop (b.ins.length-(k+1)) b.ins) (List.replicate r false)) Bo,7⟩)
     (fun j=>j≤(usesL t).length) (fun j=>(usesL t).length-j) 0 (Wk.mk (by simp[get_cons]) ⟨[],by first | rfl | (rw[clear_neg h0];rfl)⟩ (Nat.le_refl _)) (by omega) ?_
    intro j hj
    have hu2:=usesL_len t
    by_cases hlt:j<(usesL t).length
    ·have hu:=hrt.1 _ (mem_getD hlt)
     simp only[go_sem,eq_true (show (j:Int)<(usesL t).length by omega)]
     repeat ((with_reducible refine And.intro ?_ ?_);· omega)
     refine add_v (useL (clearL t x) ((usesL t).take j)) _ _ _ 3 3 _ (by rw[useL_len,hcl]) (by rw[useL_len,hcl];exact hr) (by rw[useL_len,hcl];exact hu) rfl _ fun _=>?_
     rw[← useL_take _ _ hlt]
     simp only[go_sem]
     rw[i64_in (by omega) (by omega)]
     exact ⟨j+1,by omega,by omega,Wk.mk (by simp[get_cons]) ⟨[],rfl⟩ (Nat.le_refl _)⟩
    ·simp only[go_sem,eq_false (show ¬ (j:Int)<(usesL t).length by omega)]
     refine hC' _ _ ⟨?_,rfl⟩
     rw[List.take_of_length_le (by omega),← hst]
     rfl
  ·obtain ⟨rfl,rfl⟩:=hI
   refine ⟨rfl,?_⟩
   clear hY
   rw[atL_all,show toL b r b.ins.length=setL b r by simp[toL,setL]]
   simp only[go_sem]
   refine and_self_iff.2 ⟨_,Frz.tup (ys:=[_,_]) ?_,rfl⟩
   exact ⟨_,_,rfl,frz_row (l:=readL b r) (Nat.zero_le _) rfl (by simp[readL,aheadL_len]),_,_,rfl,frz_row (l:=setL b r) (Nat.zero_le _) rfl (by simp[setL,doneL_len]),rfl⟩
theorem bit64 {l:List Bool} {v:Nat} (hv:v<64) (hl:l.length≤64):(IntKind.u64.wrap ((BitVec.ofInt 64 ((wd l:Int).fdiv (2 ^ min v 64)) &&& BitVec.ofInt 64 1).toNat:Nat) == (1:Int))=gB l v:=by
 rw[Nat.min_eq_left (by omega),Int.fdiv_eq_ediv_of_nonneg _ (by exact Int.le_of_lt (Int.pow_pos (by decide)))]
 have e:((wd l:Int) / 2 ^ v)=((wd l >>> v:Nat):Int):=by rw[Nat.shiftRight_eq_div_pow];simp
 have hlt:wd l >>> v<2 ^ 64:=Nat.lt_of_le_of_lt (Nat.shiftRight_le _ _) (wd_lt64 hl)
 rw[e,bv_nat,show BitVec.ofInt 64 1=BitVec.ofNat 64 1 from rfl,BitVec.toNat_and,BitVec.toNat_ofNat,BitVec.toNat_ofNat,Nat.mod_eq_of_lt hlt,show 1 % 2 ^ 64=1 by decide,Nat.and_one_is_mod]
 have h2:=wd_bit l v
 rw[Nat.testBit_eq_decide_div_mod_eq,← Nat.shiftRight_eq_div_pow]at h2
 rw[u64_nat (Nat.lt_of_lt_of_le (Nat.mod_lt _ (by decide)) (by decide)),← h2]
 rcases Nat.mod_two_eq_zero_or_one (wd l >>> v) with g | g<;>rw[g]<;>rfl
set_option maxRecDepth 10000
open Go.V
theorem bit64b {l:List Bool} {v:Nat} (hv:v<64) (hl:l.length≤64):(IntKind.u64.wrap ((BitVec.ofInt IntKind.u64.bits ((wd l:Int).fdiv (2 ^ min v IntKind.u64.bits)) &&& BitVec.ofInt IntKind.u64.bits 1).toNat:Nat) == (1:Int))=gB l v:=bit64 hv hl
theorem spread_c (l:List Bool) (hl:l.length≤64):ContractN Try.prog 43 [.imm 1 (rowC64 l),I l.length] (fun r=>r=bools l):=by
 refine ContractN.of_call (VCall.of_body hmix f_live_row_spread (by simp) ?_)
 simp only[go_sem,c_live_row_spread,rep_B]
 repeat ((with_reducible refine And.intro ?_ ?_);· omega)
 refine VW_loop (fun k:Nat=>⟨[(0,.imm 1 (rowC64 l)),(5,.ref 0 0 0 l.length),(10,I l.length),(11,I k)],[⟨0,4,1,(sprL l k).map B⟩],1⟩) (fun k=>k≤l.length) (fun k=>l.length-k) 0
  (Wk.mk (by simp[get_cons]) ⟨[],by rw[sprL_zero];rfl⟩ (Nat.le_refl _)) (by omega) ?_
 intro k hk
 by_cases hlt:k<l.length
 ·have hne:l.length≠0:=by omega
  have e1:((k:Int)).tdiv 64=0:=by rw[Int.tdiv_eq_ediv_of_nonneg (by omega)];omega
  have e2:((k:Int)).tmod 64=k:=by rw[Int.tmod_eq_emod_of_nonneg (by omega)];omega
  have e4:IntKind.i64.wrap 0=0:=rfl
  have e5:=bit64b (l:=l) (v:=k) (by omega) hl
  have e6:IntKind.i64.wrap (k:Int)=k:=i64_in (by omega) (by omega)
  simp only[↓VW_skip,↓VW_ops,↓VW_par,↓VW_park,↓VW_seq,↓VW_block,↓VW_exit,↓VW_ret,↓VW_cond,↓litE_tmp,↓litE_const,↓seq_normal,↓seq_exit,↓seq_ret,↓blk_normal,↓blk_exit,↓blk_ret,↓get_nil,↓get_cons,↓put_some,↓put_none,↓put_some',↓put_none',↓VTrL_done,↓VTrL_one,↓VTrL_if,↓VTrL_both,↓wpD_eq,↓wpE_call,↓wpE_callA,↓wpE_mv,↓wpE_pick,↓wpE_ld,↓wpE_sto,↓wpE_idx,↓wpE_aidx,↓wpE_fad,↓wpE_fld,↓wpE_len,↓wpE_lens,↓wpE_bin,↓wpE_beq,↓wpE_un,↓wpE_conv,↓wpE_sl,↓wpE_sls,↓wpE_mk,↓wpE_app,↓wpE_bsl,↓wpE_bld,↓wpE_box,↓wpE_alc,↓wpE_mkf,↓wpE_mkb,↓wpE_nck,↓wpE_ext,↓wpE_pur,↓wpE_see,↓wpE_eff,↓wpE_ycal,undef,K.xtra,EOp.adds,argEnv,↓retQ,↓retW,↓VR.wp,↓VRs,binOK,binR,unOK,unR,ldOK,stoOK,putA,partA,partOK,fillA,fillOK,partsOf,evs,boundOf,AV.cells,AV.one,AV.laid,Value.oneCell',Nat.reduceEqDiff,Nat.reduceAdd,Nat.reduceMul,↓reduceIte,↓dreduceIte,true_and,and_true,List.cons_append,List.nil_append,List.length_map,List.length_cons,List.length_nil,List.getElem?_cons_zero,List.getElem?_cons_succ,List.map_cons,List.map_nil,Bool.not_true,Bool.not_false,forall_const,reduceCtorEq,false_implies,List.all_cons,List.all_nil,Bool.and_true,Bool.and_self,↓idxT_map,↓idxT_cons,↓cellT_I,↓cellT_B,↓cellT_map,↓cellT_cons,decide_eq_true_eq,decide_eq_false_iff_not,Int.toNat_natCast,bne_iff_ne,ne_eq,Bool.not_eq_true',Bool.not_eq_false',bne_eq_false_iff_eq,beq_iff_eq,beq_eq_false_iff_ne,implies_true,List.getD_cons_zero,List.getD_cons_succ,Bool.false_eq_true,false_or,or_false,true_or,or_true,Int.natCast_nonneg,Int.toNat_zero,Int.toNat_one,List.set_cons_zero,List.set_cons_succ,List.take_zero,List.take_succ_cons,List.take_nil,List.drop_zero,List.drop_succ_cons,List.drop_nil,List.append_nil,Nat.zero_add,Nat.add_zero,Nat.mul_one,Nat.zero_mul,↓wp_mv,↓wp_pick,↓wp_ld,↓wp_sto,↓wp_idx,↓wp_aidx,↓wp_fad,↓wp_fld,↓wp_len,↓wp_lens,↓wp_bin,↓wp_beq,↓wp_un,↓wp_conv,↓wp_sl,↓wp_sls,↓wp_mk,↓wp_app,↓wp_bsl,↓wp_bld,↓wp_box,↓wp_alc,↓wp_mkf,↓wp_mkb,↓wp_nck,↓wp_ext,↓wp_call,↓wp_callA,↓VOps_nil,↓VOps_go,↓VOps_if,↓evF_tmp,↓evF_const,↓evF_func,cv_int,cv_bool,cv_slice,cv_string,cv,Nat.reduceLeDiff,Nat.reduceLT,Nat.le_refl,Nat.reduceSub,Int.reduceToNat,Int.reduceLE,Int.reduceLT,not_true_eq_false,not_false_eq_true,decide_true,decide_false,Bool.true_eq_false,↓imp_tt,↓imp_ft,↓imp_tf,↓imp_ff,↓imp_tnt,↓imp_fnt,↓imp_tnf,↓imp_fnf,addedOK,addedN,addedCells,oldA,Old,oldL,↓VW_range,↓wp_ycal,↓wp_six,↓wp_ixv,↓wp_eqv,↓wp_mx,↓wp_mn,↓wp_nilq,↓wp_nils,↓wp_b2s,↓wp_look,↓wp_mlen,↓wp_cpy,↓wp_clr,↓wp_s2b,↓wp_mkm,↓wp_upd,↓eqT_nil,↓eqT_int,↓eqT_bool,↓eqT_str,↓b2sT_U8,↓b2sT_nil,↓lookT_nil,↓lookT_cons,cv_agg,cv_nilFunc,mapOK_nil,mapOK_cons,updA_nil,iteP,Bool.not_eq_true,Bool.not_eq_false,Classical.not_not,one_imm,one_ref,List.length_map,eq_true (show (k:Int)<l.length by omega),e1,e2,e4,e6,rowC64_pos hne,e5,set_B,sprL_len,sprL_set _ hlt]
  repeat ((with_reducible refine And.intro ?_ ?_);· first | omega | decide)
  rw[i64_in (by omega) (by omega)]
  exact ⟨k+1,by omega,by omega,Wk.mk (by simp[get_cons,rowC64_pos hne]) ⟨[],rfl⟩ (Nat.le_refl _)⟩
 ·obtain rfl:k=l.length:=by omega
  simp only[go_sem,eq_false (show ¬ (l.length:Int)<l.length by omega),sprL_all]
  exact ⟨_,frzN_bools rfl rfl,rfl⟩
set_option maxRecDepth 10000
open Go.V
abbrev readL64 (f:BF):List AV:=f.bks.map fun b=>.imm 1 (rowC64 (readL b f.r))
abbrev setL64 (f:BF):List AV:=f.bks.map fun b=>.imm 1 (rowC64 (setL b f.r))
structure Ids where
 kS:Nat
 sS:Nat
 kI:Nat
 sI:Nat
 kO:Nat
 sO:Nat
 kW:Nat
 sW:Nat
 kA:Nat
 sA:Nat
 kR:Nat
 sR:Nat
 kT:Nat
 sT:Nat
 pi:Nat→Nat × Nat
 ri:Nat→Nat × Nat
 ro:Nat→Nat × Nat
def flags (n:Nat) (wt:List Nat):List Bool:=(List.range n).map fun b=>decide (b ∈ wt)
abbrev slvL (f:BF) (q:Ids) (wv:AV):List AV:=[nextA f,.ref q.kA q.sA 0 f.n,.ref q.kR q.sR 0 f.n,.ref q.kT q.sT 0 f.n,.ref q.kI q.sI 0 f.n,.ref q.kO q.sO 0 f.n,wv,.ref q.kW q.sW 0 f.n]
abbrev rowsL (n r:Nat) (g:Nat→Nat × Nat):List AV:=(List.range n).map fun b=>.ref (g b).1 (g b).2 0 (rl r)
abbrev natsL (l:List Nat):List AV:=l.map fun b=>I (b:Nat)
def WtV (n:Nat) (pi:Nat→Nat × Nat) (H:List VObj) (wv:AV) (wt:List Nat):Prop:=(wv=nilv∧wt=[])∨∃ k s rest,wv = .ref k s 0 wt.length∧H[k]? = some ⟨s,3,1,natsL (wt++rest)⟩∧∀ c<n,(pi c).1≠k
structure HS (f:BF) (H:List VObj) (q:Ids) (wv:AV) (σ:SV):Prop where
 so:H[q.kS]? = some ⟨q.sS,97,1,slvL f q wv⟩
 li:H[q.kI]? = some ⟨q.sI,100,1,rowsL f.n f.r q.ri⟩
 lo:H[q.kO]? = some ⟨q.sO,100,1,rowsL f.n f.r q.ro⟩
 ri:∀ b<f.n,H[(q.ri b).1]? = some ⟨(q.ri b).2,130,1,rowC64 (σ.I.getD b [])⟩
 ro:∀ b<f.n,H[(q.ro b).1]? = some ⟨(q.ro b).2,130,1,rowC64 (σ.O.getD b [])⟩
 w:H[q.kW]? = some ⟨q.sW,4,1,(flags f.n σ.wt).map B⟩
 wt:WtV f.n q.pi H wv σ.wt
 la:H[q.kA]? = some ⟨q.sA,53,1,(List.range f.n).map fun b=>.ref (q.pi b).1 (q.pi b).2 0 (predL f b).length⟩
 lr:H[q.kR]? = some ⟨q.sR,100,1,readL64 f⟩
 lt:H[q.kT]? = some ⟨q.sT,100,1,setL64 f⟩
 pr:∀ b<f.n,H[(q.pi b).1]? = some ⟨(q.pi b).2,3,1,natsL (predL f b)⟩
 dI:∀ b<f.n,∀ c<f.n,(q.ri b).1=(q.ri c).1→b=c
 dO:∀ b<f.n,∀ c<f.n,(q.ro b).1=(q.ro c).1→b=c
 dIO:∀ b<f.n,∀ c<f.n,(q.ri b).1≠(q.ro c).1
theorem WtV.one {n:Nat} {pi:Nat→Nat × Nat} {H:List VObj} {wv:AV} {wt:List Nat} (h:WtV n pi H wv wt):wv.one=true:=by
 rcases h with ⟨h,_⟩ | ⟨_,_,_,h,_⟩<;>rw[h]<;>rfl
theorem flags_get {n b:Nat} {wt:List Nat} (h:b<n):gB (flags n wt) b=decide (b ∈ wt):=by
 unfold flags;rw[gB,List.getD];simp[h]
theorem flags_len (n:Nat) (wt:List Nat):(flags n wt).length=n:=by simp[flags]
theorem flags_add {n b:Nat} {wt:List Nat} (h:b<n):(flags n wt).set b true=flags n (wt++[b]):=gB_ext (by simp[flags]) fun v hv=>by
 have hv':v<n:=by simpa [flags] using hv
 rw[gB_set _ _ _ _ (by rw[flags_len];exact hv'),flags_get hv',flags_get hv']
 by_cases e:b=v
 ·subst e;simp
 ·rw[if_neg e]
  have:¬ v=b:=fun h=>e h.symm
  simp[this]
theorem HS.keep {f:BF} {H H':List VObj} {q:Ids} {wv wv':AV} {σ:SV} {wt':List Nat} (h:HS f H q wv σ) (k:KeepT [97,4,3] H H')
 (so:H'[q.kS]? = some ⟨q.sS,97,1,slvL f q wv'⟩) (w:H'[q.kW]? = some ⟨q.sW,4,1,(flags f.n wt').map B⟩) (wt:WtV f.n q.pi H' wv' wt') (pr:∀ b<f.n,H'[(q.pi b).1]? = H[(q.pi b).1]?):HS f H' q wv' ⟨σ.I,σ.O,wt'⟩ :=
 ⟨so,k _ _ h.li (by simp),k _ _ h.lo (by simp),fun b hb=>k _ _ (h.ri b hb) (by simp),fun b hb=>k _ _ (h.ro b hb) (by simp),w,wt,k _ _ h.la (by simp),k _ _ h.lr (by simp),k _ _ h.lt (by simp),fun b hb=>(pr b hb).trans (h.pr b hb),h.dI,h.dO,h.dIO⟩
theorem wait_v {f:BF} {H:List VObj} {q:Ids} {wv:AV} {σ:SV} (h:HS f H q wv σ) (nx b:Nat) (hb:b<f.n) (hn:f.n≤500) (hl:σ.wt.length≤500) (C:AV→List VObj→Nat→Prop)
 (hC:∀ r H' nx' wv',HS f H' q wv' ⟨σ.I,σ.O,waitS σ.wt b⟩→KeepT [97,4,3] H H'→C r H' nx') :
 VCall Try.prog 42 [.ptr q.kS q.sS 0,I b] H nx C:=by
 refine VCall.of_body hmix f_live_solver_wait (by simp) ?_
 have hmx:(200000:Nat)≤maxLen:=by decide
 have hso:=h.so
 have hw:=h.w
 have e1:=ty_ne hw hso (by simp)
 have e1':=ty_ne hso hw (by simp)
 have l1:=lt_of hso
 have l2:=lt_of hw
 by_cases hm:b ∈ σ.wt
 ·have hg:gB (flags f.n σ.wt) b=true:=by rw[flags_get hb,decide_eq_true hm]
  simp only[go_sem,c_live_solver_wait,hso,hw,gB_getD,hg,flags_len]
  repeat ((with_reducible refine And.intro ?_ ?_);· omega)
  refine hC _ H _ wv ?_ (KeepT.refl _ _)
  rw[show waitS σ.wt b=σ.wt from if_pos hm]
  exact h
 ·have hg:gB (flags f.n σ.wt) b=false:=by rw[flags_get hb,decide_eq_false hm]
  have hws:waitS σ.wt b=σ.wt++[b]:=if_neg hm
  rw[hws]at hC
  rcases h.wt with ⟨rfl,hwt⟩ | ⟨k,s,rest,rfl,hk,hkp⟩
  ·have n1:=ne_len hso
   have n2:=ne_len hw
   simp only[go_sem,c_live_solver_wait,hso,hw,gB_getD,hg,flags_len,set_B,flags_add hb,e1,e1',l1,l2,List.getElem?_set,List.getElem?_append,List.length_set,List.length_append,Nat.lt_irrefl,Nat.sub_self]
   repeat ((with_reducible refine And.intro ?_ ?_);· first | omega | exact ⟨rfl,rfl,rfl⟩)
   have m1:=eq_true (show q.kS<H.length+1 by have:=of_eq_true l1;omega)
   have m2:=eq_true (show q.kW<H.length+1 by have:=of_eq_true l2;omega)
   have m3:=eq_true (show q.kS<H.length+1+1 by have:=of_eq_true l1;omega)
   have m4:=ne_len' hso
   have m5:=eq_false (show ¬ q.kS=H.length+1 by have:=of_eq_true l1;omega)
   have kp:∀ (x y:VObj) (oW oS:VObj),KeepT [97,4,3] H ((H.set q.kW oW++[x]++[y]).set q.kS oS):=fun x y oW oS =>
    (((KeepT.set hw (by simp)).trans (KeepT.app _ _ _)).trans (KeepT.app _ _ _)).trans (KeepT.set (ob:=⟨q.sS,97,1,slvL f q nilv⟩) (by simp only[List.getElem?_set,List.getElem?_append,List.length_set,List.length_append,Nat.lt_irrefl,Nat.sub_self,List.length_cons,List.length_nil,↓reduceIte,List.getElem?_cons_zero,Nat.zero_add,m1,m2,m3,m4,l1,l2,e1,e1',hso,hw]) (by simp))
   refine hC _ _ _ (.ref (H.length+1) (nx+1) 0 1) (h.keep (wt':=σ.wt++[b]) (kp _ _ _ _) ?_ ?_ (.inr ⟨H.length+1,nx+1,[],by rw[hwt];rfl,?_,fun c hc e=>by have:=of_eq_true (lt_of (h.pr c hc));omega⟩) fun c hc=>?_) (kp _ _ _ _)
   ·simp only[List.getElem?_set,List.getElem?_append,List.length_set,List.length_append,Nat.lt_irrefl,Nat.sub_self,List.length_cons,List.length_nil,↓reduceIte,List.getElem?_cons_zero,Nat.zero_add,m1,m2,m3,m4,l1,l2,e1,e1',hso,hw]
   ·simp only[List.getElem?_set,List.getElem?_append,List.length_set,List.length_append,Nat.lt_irrefl,Nat.sub_self,List.length_cons,List.length_nil,↓reduceIte,List.getElem?_cons_zero,Nat.zero_add,m1,m2,m3,m4,l1,l2,e1,e1',hso,hw]
   ·simp only[List.getElem?_set,List.getElem?_append,List.length_set,List.length_append,Nat.lt_irrefl,Nat.sub_self,List.length_cons,List.length_nil,↓reduceIte,List.getElem?_cons_zero,Nat.zero_add,m1,m2,m3,m4,l1,l2,e1,e1',hso,hw,m5]
    rw[hwt];rfl
   ·have hp:=h.pr c hc
    have p1:=ty_ne hw hp (by simp)
    have p2:=ty_ne hso hp (by simp)
    have p3:=lt_of hp
    have p4:=eq_true (show (q.pi c).1<H.length+1 by have:=of_eq_true p3;omega)
    simp only[List.getElem?_set,List.getElem?_append,List.length_set,List.length_append,List.length_cons,List.length_nil,↓reduceIte,Nat.zero_add,p1,p2,p3,p4]
  ·have e2:=ty_ne hk hso (by simp)
   have e3:=ty_ne hk hw (by simp)
   have e2':=ty_ne hso hk (by simp)
   have e3':=ty_ne hw hk (by simp)
   have l3:=lt_of hk
   simp only[go_sem,c_live_solver_wait,hso,hw,hk,gB_getD,hg,flags_len,set_B,flags_add hb,e1,e1',l1,l2,e2,e2',e3,e3',l3,List.getElem?_set,List.getElem?_append,List.length_set,List.length_append,Nat.lt_irrefl,Nat.sub_self]
   repeat ((with_reducible refine And.intro ?_ ?_);· first | omega | exact ⟨rfl,rfl,rfl⟩)
   have m1:=eq_true (show q.kS<H.length+1 by have:=of_eq_true l1;omega)
   have m2:=eq_true (show q.kW<H.length+1 by have:=of_eq_true l2;omega)
   have m3:=eq_true (show k<H.length+1 by have:=of_eq_true l3;omega)
   have kp:∀ (x y:VObj) (oW oS:VObj),KeepT [97,4,3] H (((H.set q.kW oW++[x]).set k y).set q.kS oS):=fun x y oW oS =>
    (((KeepT.set hw (by simp)).trans (KeepT.app _ _ _)).trans (KeepT.set (ob:=⟨s,3,1,natsL (σ.wt++rest)⟩) (by simp only[List.getElem?_set,List.getElem?_append,List.length_set,List.length_append,Nat.lt_irrefl,Nat.sub_self,List.length_cons,List.length_nil,↓reduceIte,List.getElem?_cons_zero,m1,m2,m3,l1,l2,l3,e1,e1',e2,e2',e3,e3',hso,hw,hk]) (by simp))).trans
     (KeepT.set (ob:=⟨q.sS,97,1,slvL f q (.ref k s 0 σ.wt.length)⟩) (by simp only[List.getElem?_set,List.getElem?_append,List.length_set,List.length_append,Nat.lt_irrefl,Nat.sub_self,List.length_cons,List.length_nil,↓reduceIte,List.getElem?_cons_zero,m1,m2,m3,l1,l2,l3,e1,e1',e2,e2',e3,e3',hso,hw,hk]) (by simp))
   refine hC _ _ _ (.ref k (nx+1) 0 (σ.wt.length+1)) (h.keep (wt':=σ.wt++[b]) (kp _ _ _ _) ?_ ?_ (.inr ⟨k,nx+1,[],by simp,?_,hkp⟩) fun c hc=>?_) (kp _ _ _ _)
   ·simp only[List.getElem?_set,List.getElem?_append,List.length_set,List.length_append,Nat.lt_irrefl,Nat.sub_self,List.length_cons,List.length_nil,↓reduceIte,List.getElem?_cons_zero,m1,m2,m3,l1,l2,l3,e1,e1',e2,e2',e3,e3',hso,hw,hk]
   ·simp only[List.getElem?_set,List.getElem?_append,List.length_set,List.length_append,Nat.lt_irrefl,Nat.sub_self,List.length_cons,List.length_nil,↓reduceIte,List.getElem?_cons_zero,m1,m2,m3,l1,l2,l3,e1,e1',e2,e2',e3,e3',hso,hw,hk]
   ·simp only[List.getElem?_set,List.getElem?_append,List.length_set,List.length_append,Nat.lt_irrefl,Nat.sub_self,List.length_cons,List.length_nil,↓reduceIte,List.getElem?_cons_zero,m1,m2,m3,l1,l2,l3,e1,e1',e2,e2',e3,e3',hso,hw,hk]
    simp[natsL]
   ·have hp:=h.pr c hc
    have p1:=ty_ne hw hp (by simp)
    have p2:=ty_ne hso hp (by simp)
    have p3:=lt_of hp
    have p5:=eq_false (show ¬ k=(q.pi c).1 from fun e=>hkp c hc e.symm)
    simp only[List.getElem?_set,List.getElem?_append,List.length_set,List.length_append,List.length_cons,List.length_nil,↓reduceIte,Nat.zero_add,p1,p2,p3,p5]
set_option maxRecDepth 10000
open Go.V
theorem cellT_rows {n r b:Nat} {g:Nat→Nat × Nat} {C:AV→Prop}:cellT (rowsL n r g) b false 1 C .mk=(b<n∧C (.ref (g b).1 (g b).2 0 (rl r))):=by
 rw[cellT_map (fun _=>rfl)]
 apply propext
 rw[List.length_range]
 refine ⟨fun ⟨h1,h2⟩=>⟨h1,?_⟩,fun ⟨h1,h2⟩=>⟨h1,?_⟩⟩
 ·rw[range_get h1]at h2;exact h2
 ·rw[range_get h1];exact h2
theorem cellT_imm {l:List Bk} {g:Bk→List AV} {b:Nat} {C:AV→Prop}:cellT (l.map fun k=>AV.imm 1 (g k)) b false 1 C .mk=(b<l.length∧C (.imm 1 (g (l.getD b default)))):=cellT_map fun _=>rfl
section
variable {f:BF} {H:List VObj} {q:Ids} {wv:AV} {σ:SV}
theorem WtV.keep {n:Nat} {pi:Nat→Nat × Nat} {H H':List VObj} {wv:AV} {wt:List Nat} {ts:List Nat} (h:WtV n pi H wv wt) (k:KeepT ts H H') (ht:3 ∉ ts):WtV n pi H' wv wt:=by
 rcases h with h | ⟨i,s,rest,h1,h2,h3⟩
 ·exact .inl h
 ·exact .inr ⟨i,s,rest,h1,k _ _ h2 ht,h3⟩
theorem HS.setO (h:HS f H q wv σ) (hs:SizedP f σ.L) {b:Nat} (hb:b<f.n) (l:List Bool):HS f (H.set (q.ro b).1 ⟨(q.ro b).2,130,1,rowC64 l⟩) q wv ⟨σ.I,σ.O.set b l,σ.wt⟩:=by
 have k:KeepT [130] H (H.set (q.ro b).1 ⟨(q.ro b).2,130,1,rowC64 l⟩):=KeepT.set (h.ro b hb) (by simp)
 have hO:b<σ.O.length:=by rw[show σ.O.length=f.n from hs.o];exact hb
 refine ⟨k _ _ h.so (by simp),k _ _ h.li (by simp),k _ _ h.lo (by simp),fun c hc=>?_,fun c hc=>?_,k _ _ h.w (by simp),h.wt.keep k (by simp),k _ _ h.la (by simp),k _ _ h.lr (by simp),k _ _ h.lt (by simp),fun c hc=>k _ _ (h.pr c hc) (by simp),h.dI,h.dO,h.dIO⟩
 ·rw[set_ne (fun e=>h.dIO c hc b hb e.symm)];exact h.ri c hc
 ·show _=some (VObj.mk _ _ _ (rowC64 ((σ.O.set b l).getD c [])))
  rw[row_set hO]
  by_cases e:b=c
  ·subst e;rw[if_pos rfl];exact set_get (h.ro b hb)
  ·rw[if_neg e,set_ne (fun g=>e (h.dO b hb c hc g))];exact h.ro c hc
theorem HS.setI (h:HS f H q wv σ) (hs:SizedP f σ.L) {b:Nat} (hb:b<f.n) (l:List Bool):HS f (H.set (q.ri b).1 ⟨(q.ri b).2,130,1,rowC64 l⟩) q wv ⟨σ.I.set b l,σ.O,σ.wt⟩:=by
 have k:KeepT [130] H (H.set (q.ri b).1 ⟨(q.ri b).2,130,1,rowC64 l⟩):=KeepT.set (h.ri b hb) (by simp)
 have hI:b<σ.I.length:=by rw[show σ.I.length=f.n from hs.i];exact hb
 refine ⟨k _ _ h.so (by simp),k _ _ h.li (by simp),k _ _ h.lo (by simp),fun c hc=>?_,fun c hc=>?_,k _ _ h.w (by simp),h.wt.keep k (by simp),k _ _ h.la (by simp),k _ _ h.lr (by simp),k _ _ h.lt (by simp),fun c hc=>k _ _ (h.pr c hc) (by simp),h.dI,h.dO,h.dIO⟩
 ·show _=some (VObj.mk _ _ _ (rowC64 ((σ.I.set b l).getD c [])))
  rw[row_set hI]
  by_cases e:b=c
  ·subst e;rw[if_pos rfl];exact set_get (h.ri b hb)
  ·rw[if_neg e,set_ne (fun g=>e (h.dI b hb c hc g))];exact h.ri c hc
 ·rw[set_ne (fun e=>h.dIO b hb c hc e)];exact h.ro c hc
theorem orw64 {a b:List Bool} (hl:a.length=b.length) (ha:a.length≤64):IntKind.u64.wrap ((BitVec.ofInt IntKind.u64.bits (wd a:Int) ||| BitVec.ofInt IntKind.u64.bits (wd b:Int)).toNat:Nat)=((wd (orL a b):Nat):Int):=by
 rw[← wd_or hl];exact or64 (wd_lt64 ha) (wd_lt64 (by omega))
theorem subw64 {a b:List Bool} (ha:a.length≤64) (hb:b.length≤64):IntKind.u64.wrap ((BitVec.ofInt IntKind.u64.bits (wd a:Int) &&& ~~~BitVec.ofInt IntKind.u64.bits (wd b:Int)).toNat:Nat)=((wd (subL a b):Nat):Int):=andNot64 ha hb
theorem or_sub (rd out st:List Bool) (hl:rd.length=out.length):orL rd (subL out st)=wayL rd out st:=gB_ext (by simp[orL,wayL,hl]) fun v hv=>by
 rw[orL_len]at hv
 rw[gB_or _ _ hv,gB_way _ _ _ (by omega),gB_sub _ _ (by omega)]
theorem grow_v (hf:Fine f) (h:HS f H q wv σ) (hs:SizedP f σ.L) (hr:f.r≤64) (nx b:Nat) (hb:b<f.n) (C:AV→List VObj→Nat→Prop)
 (hC:∀ H',HS f H' q wv (growS f σ b)→KeepT [130] H H'→C (B (moreS f σ b)) H' nx):VCall Try.prog 41 [.ptr q.kS q.sS 0,I b] H nx C:=by
 refine VCall.of_body hmix f_live_solver_grow (by simp) ?_
 have hso:=h.so
 have hlo:=h.lo
 have hli:=h.li
 have hob:=h.ro b hb
 have hib:=h.ri b hb
 have hbn:b<f.bks.length:=hb
 have hbk:f.bks.getD b default=f.bk b:=rfl
 have hrg:=range_get hb
 have e1:=ty_ne hob hso (by simp)
 have e2:=ty_ne hob hlo (by simp)
 have e3:=ty_ne hob hli (by simp)
 have e4:((q.ro b).1=(q.ri b).1)=False:=eq_false fun e=>h.dIO b hb b hb e.symm
 have l1:=lt_of hob
 have l2:=lt_of hib
 have hol:(σ.O.getD b []).length=f.r:=hs.ol hb
 have hil:(σ.I.getD b []).length=f.r:=hs.il hb
 have hto:=hf.to _ (BF.mem hb)
 have hnl:=nxt_len (f.bk b)
 have hlen:(f.bks.map fun b=>ints (nxt b)).length=f.n:=by simp[BF.n]
 simp only[go_sem,c_live_solver_grow,hso,hlo,cellT_rows,hrg,List.length_range,hbk]
 repeat ((with_reducible refine And.intro ?_ ?_);· omega)
 refine VW_loop (fun j:Nat=>⟨[(0,.ptr q.kS q.sS 0),(1,I b),(5,.ref (q.ro b).1 (q.ro b).2 0 (rl f.r)),(6,B false),(26,ints (nxt (f.bk b))),(27,I (nxt (f.bk b)).length),(28,I j)],
  H.set (q.ro b).1 ⟨(q.ro b).2,130,1,rowC64 (gath σ.I (σ.O.getD b []) ((nxt (f.bk b)).take j))⟩,nx⟩) (fun j=>j≤(nxt (f.bk b)).length) (fun j=>(nxt (f.bk b)).length-j) 0
  (Wk.mk (by simp[get_cons]) ⟨[],by rw[List.append_nil];exact (set_of_get hob).symm⟩ (Nat.le_refl _)) (by omega) ?_
 intro j hj
 by_cases hlt:j<(nxt (f.bk b)).length
 ·have hk:=hto _ (mem_getD hlt)
  have hgt:=gath_take σ.I (σ.O.getD b []) _ hlt
  have hgl:=gath_len σ.I ((nxt (f.bk b)).take j) (σ.O.getD b [])
  generalize hkk:(nxt (f.bk b)).getD j default=k at hk hgt ⊢
  have hkn:k.toNat<f.n:=by unfold BF.n;omega
  have hik:=h.ri k.toNat hkn
  have hkl:(σ.I.getD k.toNat []).length=f.r:=hs.il hkn
  have hrk:=range_get hkn
  have e5:((q.ro b).1=(q.ri k.toNat).1)=False:=eq_false fun e=>h.dIO _ hkn b hb e.symm
  generalize hx:gath σ.I (σ.O.getD b []) ((nxt (f.bk b)).take j)=x at hgt hgl ⊢
  rw[hol]at hgl
  simp only[go_sem,hso,hlo,hli,hik,cellT_rows,hrk,List.length_range,hbk,hkk,eq_true (show (j:Int)<(nxt (f.bk b)).length by omega),List.getElem?_set,e1,e2,e3,e4,e5,l1]
  repeat ((with_reducible refine And.intro ?_ ?_);· omega)
  have hyl:=hkl
  generalize hy:σ.I.getD k.toNat []=y at hik hyl hkl
  have hgt':gath σ.I (σ.O.getD b []) ((nxt (f.bk b)).take (j+1))=orL x y:=by rw[hgt];exact congrArg _ hy
  have hr1:rl f.r≤1:=by unfold rl;split<;>omega
  refine VW_loop (fun i:Nat=>⟨[(0,.ptr q.kS q.sS 0),(1,I b),(5,.ref (q.ro b).1 (q.ro b).2 0 (rl f.r)),(6,B false),(26,ints (nxt (f.bk b))),(27,I (nxt (f.bk b)).length),(28,I j),(38,.ref (q.ri k.toNat).1 (q.ri k.toNat).2 0 (rl f.r)),(39,I (rl f.r)),(40,I i)],
   H.set (q.ro b).1 ⟨(q.ro b).2,130,1,rowC64 (if i=0 then x else orL x y)⟩,nx⟩) (fun i=>i≤rl f.r) (fun i=>rl f.r-i) 0
   (Wk.mk (by simp[get_cons]) ⟨[],by simp⟩ (Nat.le_refl _)) (by omega) ?_
  intro i hi
  by_cases h1:i<rl f.r
  ·have h0:f.r≠0:=fun e=>by unfold rl at h1;rw[if_pos e]at h1;omega
   have hi0:i=0:=by omega
   subst hi0
   have e6:=orw64 (a:=x) (b:=y) (by omega) (by omega)
   have e7:rowC64 x=[U64 (wd x)]:=rowC64_pos (by omega)
   have e8:rowC64 y=[U64 (wd y)]:=rowC64_pos (by omega)
   have e9:rowC64 (orL x y)=[U64 (wd (orL x y))]:=rowC64_pos (by rw[orL_len];omega)
   rw[if_pos rfl,e7]
   rw[e8]at hik
   simp only[↓VW_skip,↓VW_ops,↓VW_par,↓VW_park,↓VW_seq,↓VW_block,↓VW_exit,↓VW_ret,↓VW_cond,↓litE_tmp,↓litE_const,↓seq_normal,↓seq_exit,↓seq_ret,↓blk_normal,↓blk_exit,↓blk_ret,↓get_nil,↓get_cons,↓put_some,↓put_none,↓put_some',↓put_none',↓VTrL_done,↓VTrL_one,↓VTrL_if,↓VTrL_both,↓wpD_eq,↓wpE_call,↓wpE_callA,↓wpE_mv,↓wpE_pick,↓wpE_ld,↓wpE_sto,↓wpE_idx,↓wpE_aidx,↓wpE_fad,↓wpE_fld,↓wpE_len,↓wpE_lens,↓wpE_bin,↓wpE_beq,↓wpE_un,↓wpE_conv,↓wpE_sl,↓wpE_sls,↓wpE_mk,↓wpE_app,↓wpE_bsl,↓wpE_bld,↓wpE_box,↓wpE_alc,↓wpE_mkf,↓wpE_mkb,↓wpE_nck,↓wpE_ext,↓wpE_pur,↓wpE_see,↓wpE_eff,↓wpE_ycal,undef,K.xtra,EOp.adds,argEnv,↓retQ,↓retW,↓VR.wp,↓VRs,binOK,binR,unOK,unR,ldOK,stoOK,putA,partA,partOK,fillA,fillOK,partsOf,evs,boundOf,AV.cells,AV.one,AV.laid,Value.oneCell',Nat.reduceEqDiff,Nat.reduceAdd,Nat.reduceMul,↓reduceIte,↓dreduceIte,true_and,and_true,List.cons_append,List.nil_append,List.length_map,List.length_cons,List.length_nil,List.getElem?_cons_zero,List.getElem?_cons_succ,List.map_cons,List.map_nil,Bool.not_true,Bool.not_false,forall_const,reduceCtorEq,false_implies,List.all_cons,List.all_nil,Bool.and_true,Bool.and_self,↓idxT_map,↓idxT_cons,↓cellT_I,↓cellT_B,↓cellT_map,↓cellT_cons,decide_eq_true_eq,decide_eq_false_iff_not,Int.toNat_natCast,bne_iff_ne,ne_eq,Bool.not_eq_true',Bool.not_eq_false',bne_eq_false_iff_eq,beq_iff_eq,beq_eq_false_iff_ne,implies_true,List.getD_cons_zero,List.getD_cons_succ,Bool.false_eq_true,false_or,or_false,true_or,or_true,Int.natCast_nonneg,Int.toNat_zero,Int.toNat_one,List.set_cons_zero,List.set_cons_succ,List.take_zero,List.take_succ_cons,List.take_nil,List.drop_zero,List.drop_succ_cons,List.drop_nil,List.append_nil,Nat.zero_add,Nat.add_zero,Nat.mul_one,Nat.zero_mul,↓wp_mv,↓wp_pick,↓wp_ld,↓wp_sto,↓wp_idx,↓wp_aidx,↓wp_fad,↓wp_fld,↓wp_len,↓wp_lens,↓wp_bin,↓wp_beq,↓wp_un,↓wp_conv,↓wp_sl,↓wp_sls,↓wp_mk,↓wp_app,↓wp_bsl,↓wp_bld,↓wp_box,↓wp_alc,↓wp_mkf,↓wp_mkb,↓wp_nck,↓wp_ext,↓wp_call,↓wp_callA,↓VOps_nil,↓VOps_go,↓VOps_if,↓evF_tmp,↓evF_const,↓evF_func,cv_int,cv_bool,cv_slice,cv_string,cv,Nat.reduceLeDiff,Nat.reduceLT,Nat.le_refl,Nat.reduceSub,Int.reduceToNat,Int.reduceLE,Int.reduceLT,not_true_eq_false,not_false_eq_true,decide_true,decide_false,Bool.true_eq_false,↓imp_tt,↓imp_ft,↓imp_tf,↓imp_ff,↓imp_tnt,↓imp_fnt,↓imp_tnf,↓imp_fnf,addedOK,addedN,addedCells,oldA,Old,oldL,↓VW_range,↓wp_ycal,↓wp_six,↓wp_ixv,↓wp_eqv,↓wp_mx,↓wp_mn,↓wp_nilq,↓wp_nils,↓wp_b2s,↓wp_look,↓wp_mlen,↓wp_cpy,↓wp_clr,↓wp_s2b,↓wp_mkm,↓wp_upd,↓eqT_nil,↓eqT_int,↓eqT_bool,↓eqT_str,↓b2sT_U8,↓b2sT_nil,↓lookT_nil,↓lookT_cons,cv_agg,cv_nilFunc,mapOK_nil,mapOK_cons,updA_nil,iteP,Bool.not_eq_true,Bool.not_eq_false,Classical.not_not,hik,one_imm,one_ref,rl_pos h0,Int.natCast_zero,Nat.cast_one',List.getElem?_set,e1,e2,e3,e4,e5,l1,e6]
   repeat ((with_reducible refine And.intro ?_ ?_);· first | omega | decide)
   refine ⟨1,by omega,by omega,Wk.mk (by simp[get_cons,rl_pos h0];decide) ⟨[],by simp[List.set_set,e9]⟩ (Nat.le_refl _)⟩
  ·obtain rfl:i=rl f.r:=by omega
   simp only[go_sem,eq_false (show ¬ (rl f.r:Int)<rl f.r by omega)]
   rw[i64_in (by omega) (by omega)]
   refine ⟨j+1,by omega,by omega,Wk.mk (by simp[get_cons]) ⟨[],?_⟩ (Nat.le_refl _)⟩
   rw[hgt',List.append_nil]
   by_cases h0:f.r=0
   ·have e7:rowC64 x=[]:=if_pos (by omega)
    have e9:rowC64 (orL x y)=[]:=if_pos (by rw[orL_len];omega)
    split
    ·rw[e7,e9]
    ·rfl
   ·rw[if_neg (by rw[rl_pos h0];decide)]
 ·obtain rfl:j=(nxt (f.bk b)).length:=by omega
  rw[List.take_of_length_le (Nat.le_refl _)]
  have hS1:=h.setO hs hb (newO f σ.I σ.O b)
  have hnl':=newO_len hf hs hb
  have hwl:=way_ahead hf hb _ hnl'
  have hro:readL (f.bk b) f.r=readL (f.bk b) f.r:=rfl
  have hgr:gath σ.I (σ.O.getD b []) (nxt (f.bk b))=newO f σ.I σ.O b:=rfl
  rw[hgr]
  have hob1:=set_get (x:=⟨(q.ro b).2,130,1,rowC64 (newO f σ.I σ.O b)⟩) hob
  have kp1:KeepT [130] H (H.set (q.ro b).1 ⟨(q.ro b).2,130,1,rowC64 (newO f σ.I σ.O b)⟩):=KeepT.set hob (by simp)
  generalize H.set (q.ro b).1 ⟨(q.ro b).2,130,1,rowC64 (newO f σ.I σ.O b)⟩=H1 at hS1 hob1 kp1 ⊢
  have hsz1:SizedP f (SV.L ⟨σ.I,σ.O.set b (newO f σ.I σ.O b),σ.wt⟩):=hs.setO hnl'
  have hS2:=hS1.setI hsz1 hb (grown f σ b)
  have hso1:=hS1.so
  have hlr1:=hS1.lr
  have hlt1:=hS1.lt
  have hli1:=hS1.li
  have hib1:H1[(q.ri b).1]? = some ⟨(q.ri b).2,130,1,rowC64 (σ.I.getD b [])⟩:=hS1.ri b hb
  have kp2:KeepT [130] H1 (H1.set (q.ri b).1 ⟨(q.ri b).2,130,1,rowC64 (grown f σ b)⟩):=KeepT.set hib1 (by simp)
  have hgl:=grown_len hf hs hb
  have hr1:rl f.r≤1:=by unfold rl;split<;>omega
  have hgrow:wayL (readL (f.bk b) f.r) (newO f σ.I σ.O b) (setL (f.bk b) f.r)=grown f σ b:=hwl
  have hrdl:(readL (f.bk b) f.r).length=f.r:=by unfold readL;rw[aheadL_len];simp
  have hstl:(setL (f.bk b) f.r).length=f.r:=by unfold setL;rw[doneL_len];simp
  have hosub:=or_sub (readL (f.bk b) f.r) (newO f σ.I σ.O b) (setL (f.bk b) f.r) (by omega)
  rw[hgrow]at hosub
  have hnomore:moreS f σ b=false→σ.I.set b (grown f σ b)=σ.I:=fun e=>by
   have e':σ.I.getD b []=grown f σ b:=Classical.byContradiction fun g=>by rw[moreS,decide_eq_true g]at e;cases e
   have hbI:b<σ.I.length:=by rw[show σ.I.length=f.n from hs.i];exact hb
   refine set_of_get ?_
   rw[← e',List.getElem?_eq_getElem hbI];simp[List.getD,List.getElem?_eq_getElem hbI]
  simp only[go_sem,hso1,hob1,eq_false (show ¬ ((nxt (f.bk b)).length:Int)<(nxt (f.bk b)).length by omega)]
  refine VW_loop (fun i:Nat=>⟨[(0,.ptr q.kS q.sS 0),(1,I b),(5,.ref (q.ro b).1 (q.ro b).2 0 (rl f.r)),(6,B (if i=0 then false else moreS f σ b)),(54,.ref (q.ro b).1 (q.ro b).2 0 (rl f.r)),(55,I (rl f.r)),(56,I i)],
   if i=0∨moreS f σ b=false then H1 else H1.set (q.ri b).1 ⟨(q.ri b).2,130,1,rowC64 (grown f σ b)⟩,nx⟩) (fun i=>i≤rl f.r) (fun i=>rl f.r-i) 0
   (Wk.mk (by simp[get_cons]) ⟨[],by simp⟩ (Nat.le_refl _)) (by omega) ?_
  intro i hi
  by_cases h1:i<rl f.r
  ·have h0:f.r≠0:=fun e=>by unfold rl at h1;rw[if_pos e]at h1;omega
   have hi0:i=0:=by omega
   subst hi0
   have e6:=subw64 (a:=newO f σ.I σ.O b) (b:=setL (f.bk b) f.r) (by omega) (by omega)
   have e6':=orw64 (a:=readL (f.bk b) f.r) (b:=subL (newO f σ.I σ.O b) (setL (f.bk b) f.r)) (by rw[subL_len];omega) (by omega)
   rw[hosub]at e6'
   have e7:rowC64 (newO f σ.I σ.O b)=[U64 (wd (newO f σ.I σ.O b))]:=rowC64_pos (by omega)
   have e8:rowC64 (σ.I.getD b [])=[U64 (wd (σ.I.getD b []))]:=rowC64_pos (by omega)
   have e9:rowC64 (grown f σ b)=[U64 (wd (grown f σ b))]:=rowC64_pos (by omega)
   have e10:rowC64 (readL (f.bk b) f.r)=[U64 (wd (readL (f.bk b) f.r))]:=rowC64_pos (by omega)
   have e11:rowC64 (setL (f.bk b) f.r)=[U64 (wd (setL (f.bk b) f.r))]:=rowC64_pos (by omega)
   rw[e7]at hob1
   rw[e8]at hib1
   rw[if_pos (show (0:Nat)=0 from rfl),if_pos (show (0:Nat)=0∨moreS f σ b=false from .inl rfl)]
   cases hm:moreS f σ b
   ·have e':σ.I.getD b []=grown f σ b:=Classical.byContradiction fun g=>by rw[moreS,decide_eq_true g]at hm;cases hm
    have ew:(wd (grown f σ b):Int)=wd (σ.I.getD b []):=by rw[e']
    simp only[↓VW_skip,↓VW_ops,↓VW_par,↓VW_park,↓VW_seq,↓VW_block,↓VW_exit,↓VW_ret,↓VW_cond,↓litE_tmp,↓litE_const,↓seq_normal,↓seq_exit,↓seq_ret,↓blk_normal,↓blk_exit,↓blk_ret,↓get_nil,↓get_cons,↓put_some,↓put_none,↓put_some',↓put_none',↓VTrL_done,↓VTrL_one,↓VTrL_if,↓VTrL_both,↓wpD_eq,↓wpE_call,↓wpE_callA,↓wpE_mv,↓wpE_pick,↓wpE_ld,↓wpE_sto,↓wpE_idx,↓wpE_aidx,↓wpE_fad,↓wpE_fld,↓wpE_len,↓wpE_lens,↓wpE_bin,↓wpE_beq,↓wpE_un,↓wpE_conv,↓wpE_sl,↓wpE_sls,↓wpE_mk,↓wpE_app,↓wpE_bsl,↓wpE_bld,↓wpE_box,↓wpE_alc,↓wpE_mkf,↓wpE_mkb,↓wpE_nck,↓wpE_ext,↓wpE_pur,↓wpE_see,↓wpE_eff,↓wpE_ycal,undef,K.xtra,EOp.adds,argEnv,↓retQ,↓retW,↓VR.wp,↓VRs,binOK,binR,unOK,unR,ldOK,stoOK,putA,partA,partOK,fillA,fillOK,partsOf,evs,boundOf,AV.cells,AV.one,AV.laid,Value.oneCell',Nat.reduceEqDiff,Nat.reduceAdd,Nat.reduceMul,↓reduceIte,↓dreduceIte,true_and,and_true,List.cons_append,List.nil_append,List.length_map,List.length_cons,List.length_nil,List.getElem?_cons_zero,List.getElem?_cons_succ,List.map_cons,List.map_nil,Bool.not_true,Bool.not_false,forall_const,reduceCtorEq,false_implies,List.all_cons,List.all_nil,Bool.and_true,Bool.and_self,↓idxT_map,↓idxT_cons,↓cellT_I,↓cellT_B,↓cellT_map,↓cellT_cons,decide_eq_true_eq,decide_eq_false_iff_not,Int.toNat_natCast,bne_iff_ne,ne_eq,Bool.not_eq_true',Bool.not_eq_false',bne_eq_false_iff_eq,beq_iff_eq,beq_eq_false_iff_ne,implies_true,List.getD_cons_zero,List.getD_cons_succ,Bool.false_eq_true,false_or,or_false,true_or,or_true,Int.natCast_nonneg,Int.toNat_zero,Int.toNat_one,List.set_cons_zero,List.set_cons_succ,List.take_zero,List.take_succ_cons,List.take_nil,List.drop_zero,List.drop_succ_cons,List.drop_nil,List.append_nil,Nat.zero_add,Nat.add_zero,Nat.mul_one,Nat.zero_mul,↓wp_mv,↓wp_pick,↓wp_ld,↓wp_sto,↓wp_idx,↓wp_aidx,↓wp_fad,↓wp_fld,↓wp_len,↓wp_lens,↓wp_bin,↓wp_beq,↓wp_un,↓wp_conv,↓wp_sl,↓wp_sls,↓wp_mk,↓wp_app,↓wp_bsl,↓wp_bld,↓wp_box,↓wp_alc,↓wp_mkf,↓wp_mkb,↓wp_nck,↓wp_ext,↓wp_call,↓wp_callA,↓VOps_nil,↓VOps_go,↓VOps_if,↓evF_tmp,↓evF_const,↓evF_func,cv_int,cv_bool,cv_slice,cv_string,cv,Nat.reduceLeDiff,Nat.reduceLT,Nat.le_refl,Nat.reduceSub,Int.reduceToNat,Int.reduceLE,Int.reduceLT,not_true_eq_false,not_false_eq_true,decide_true,decide_false,Bool.true_eq_false,↓imp_tt,↓imp_ft,↓imp_tf,↓imp_ff,↓imp_tnt,↓imp_fnt,↓imp_tnf,↓imp_fnf,addedOK,addedN,addedCells,oldA,Old,oldL,↓VW_range,↓wp_ycal,↓wp_six,↓wp_ixv,↓wp_eqv,↓wp_mx,↓wp_mn,↓wp_nilq,↓wp_nils,↓wp_b2s,↓wp_look,↓wp_mlen,↓wp_cpy,↓wp_clr,↓wp_s2b,↓wp_mkm,↓wp_upd,↓eqT_nil,↓eqT_int,↓eqT_bool,↓eqT_str,↓b2sT_U8,↓b2sT_nil,↓lookT_nil,↓lookT_cons,cv_agg,cv_nilFunc,mapOK_nil,mapOK_cons,updA_nil,iteP,Bool.not_eq_true,Bool.not_eq_false,Classical.not_not,hso1,hob1,hlr1,hlt1,cellT_imm,hli1,hib1,one_imm,one_ref,cellT_rows,hrg,hbk,e10,e11,rl_pos h0,Nat.cast_zero',Int.natCast_zero,Nat.cast_one',e6,e6',ew,ne_eq,bne_self_eq_false,List.length_map]
    repeat ((with_reducible refine And.intro ?_ ?_);· first | omega | decide)
    refine ⟨1,by omega,by omega,Wk.mk (by simp[get_cons,rl_pos h0,hm];decide) ⟨[],by simp[hm]⟩ (Nat.le_refl _)⟩
   ·have ew:¬ (wd (grown f σ b):Int)=wd (σ.I.getD b []):=fun e=>by
     have:=wd_inj (by omega) (show wd (grown f σ b)=wd (σ.I.getD b []) by omega)
     rw[moreS,decide_eq_false (by rw[this];simp)]at hm;cases hm
    simp only[↓VW_skip,↓VW_ops,↓VW_par,↓VW_park,↓VW_seq,↓VW_block,↓VW_exit,↓VW_ret,↓VW_cond,↓litE_tmp,↓litE_const,↓seq_normal,↓seq_exit,↓seq_ret,↓blk_normal,↓blk_exit,↓blk_ret,↓get_nil,↓get_cons,↓put_some,↓put_none,↓put_some',↓put_none',↓VTrL_done,↓VTrL_one,↓VTrL_if,↓VTrL_both,↓wpD_eq,↓wpE_call,↓wpE_callA,↓wpE_mv,↓wpE_pick,↓wpE_ld,↓wpE_sto,↓wpE_idx,↓wpE_aidx,↓wpE_fad,↓wpE_fld,↓wpE_len,↓wpE_lens,↓wpE_bin,↓wpE_beq,↓wpE_un,↓wpE_conv,↓wpE_sl,↓wpE_sls,↓wpE_mk,↓wpE_app,↓wpE_bsl,↓wpE_bld,↓wpE_box,↓wpE_alc,↓wpE_mkf,↓wpE_mkb,↓wpE_nck,↓wpE_ext,↓wpE_pur,↓wpE_see,↓wpE_eff,↓wpE_ycal,undef,K.xtra,EOp.adds,argEnv,↓retQ,↓retW,↓VR.wp,↓VRs,binOK,binR,unOK,unR,ldOK,stoOK,putA,partA,partOK,fillA,fillOK,partsOf,evs,boundOf,AV.cells,AV.one,AV.laid,Value.oneCell',Nat.reduceEqDiff,Nat.reduceAdd,Nat.reduceMul,↓reduceIte,↓dreduceIte,true_and,and_true,List.cons_append,List.nil_append,List.length_map,List.length_cons,List.length_nil,List.getElem?_cons_zero,List.getElem?_cons_succ,List.map_cons,List.map_nil,Bool.not_true,Bool.not_false,forall_const,reduceCtorEq,false_implies,List.all_cons,List.all_nil,Bool.and_true,Bool.and_self,↓idxT_map,↓idxT_cons,↓cellT_I,↓cellT_B,↓cellT_map,↓cellT_cons,decide_eq_true_eq,decide_eq_false_iff_not,Int.toNat_natCast,bne_iff_ne,ne_eq,Bool.not_eq_true',Bool.not_eq_false',bne_eq_false_iff_eq,beq_iff_eq,beq_eq_false_iff_ne,implies_true,List.getD_cons_zero,List.getD_cons_succ,Bool.false_eq_true,false_or,or_false,true_or,or_true,Int.natCast_nonneg,Int.toNat_zero,Int.toNat_one,List.set_cons_zero,List.set_cons_succ,List.take_zero,List.take_succ_cons,List.take_nil,List.drop_zero,List.drop_succ_cons,List.drop_nil,List.append_nil,Nat.zero_add,Nat.add_zero,Nat.mul_one,Nat.zero_mul,↓wp_mv,↓wp_pick,↓wp_ld,↓wp_sto,↓wp_idx,↓wp_aidx,↓wp_fad,↓wp_fld,↓wp_len,↓wp_lens,↓wp_bin,↓wp_beq,↓wp_un,↓wp_conv,↓wp_sl,↓wp_sls,↓wp_mk,↓wp_app,↓wp_bsl,↓wp_bld,↓wp_box,↓wp_alc,↓wp_mkf,↓wp_mkb,↓wp_nck,↓wp_ext,↓wp_call,↓wp_callA,↓VOps_nil,↓VOps_go,↓VOps_if,↓evF_tmp,↓evF_const,↓evF_func,cv_int,cv_bool,cv_slice,cv_string,cv,Nat.reduceLeDiff,Nat.reduceLT,Nat.le_refl,Nat.reduceSub,Int.reduceToNat,Int.reduceLE,Int.reduceLT,not_true_eq_false,not_false_eq_true,decide_true,decide_false,Bool.true_eq_false,↓imp_tt,↓imp_ft,↓imp_tf,↓imp_ff,↓imp_tnt,↓imp_fnt,↓imp_tnf,↓imp_fnf,addedOK,addedN,addedCells,oldA,Old,oldL,↓VW_range,↓wp_ycal,↓wp_six,↓wp_ixv,↓wp_eqv,↓wp_mx,↓wp_mn,↓wp_nilq,↓wp_nils,↓wp_b2s,↓wp_look,↓wp_mlen,↓wp_cpy,↓wp_clr,↓wp_s2b,↓wp_mkm,↓wp_upd,↓eqT_nil,↓eqT_int,↓eqT_bool,↓eqT_str,↓b2sT_U8,↓b2sT_nil,↓lookT_nil,↓lookT_cons,cv_agg,cv_nilFunc,mapOK_nil,mapOK_cons,updA_nil,iteP,Bool.not_eq_true,Bool.not_eq_false,Classical.not_not,hso1,hob1,hlr1,hlt1,cellT_imm,hli1,hib1,one_imm,one_ref,cellT_rows,hrg,hbk,e10,e11,rl_pos h0,Nat.cast_zero',Int.natCast_zero,Nat.cast_one',e6,e6',eq_false ew,ne_eq,List.length_map]
    repeat ((with_reducible refine And.intro ?_ ?_);· first | omega | decide)
    refine ⟨1,by omega,by omega,Wk.mk (by simp[get_cons,rl_pos h0,hm];decide) ⟨[],by simp[hm,e9]⟩ (Nat.le_refl _)⟩
  ·obtain rfl:i=rl f.r:=by omega
   simp only[go_sem,eq_false (show ¬ (rl f.r:Int)<rl f.r by omega)]
   cases hm:moreS f σ b
   ·rw[show (if rl f.r=0 then false else false)=false by split<;>rfl,if_pos (show rl f.r=0∨false=false from .inr rfl)]
    rw[hm]at hC
    refine hC H1 ?_ kp1
    unfold growS
    rw[hnomore hm]
    exact hS1
   ·have h0:rl f.r≠0:=fun e=>by
     have e0:f.r=0:=by unfold rl at e;split at e<;>omega
     have:=gB_ext (a:=σ.I.getD b []) (b:=grown f σ b) (by omega) fun v hv=>by omega
     rw[moreS,decide_eq_false (by rw[this];simp)]at hm;cases hm
    rw[if_neg h0,if_neg (show ¬ (rl f.r=0∨true=false) by simp[h0])]
    rw[hm]at hC
    exact hC _ hS2 (kp1.trans kp2)
end
end Go.Proofs.Ytkbhfokbhkmfgaa
namespace Go.V
set_option linter.unusedSimpArgs false
set_option linter.unusedVariables false
section
variable {P:Program}
theorem rl0_vals {w:World} {I J:Nat→Prop}:∀ {us:List Value} {vs:List Value},RL0 w I (us.map .val) vs→RL0 w J (us.map .val) vs
 | [],vs,h=>by simpa only [List.map_nil,RL0] using h
 | u::us,vs,h=>by
  simp only[List.map_cons,RL0]at h ⊢
  obtain ⟨v,vs',rfl,h1,h2⟩:=h
  exact ⟨v,vs',rfl,by simpa only [RV0] using h1,rl0_vals h2⟩
theorem Contract.vals {f:Nat} {args:List AV} {C:AV→Prop} (h:Contract P f args C) (hC:∀ r,C r→(∃ u,r = .val u)∨∃ us:List Value,r = .agg (us.map .val)):ContractN P f args C :=
 ⟨h.1,fun I w vs hI hvs=>(h.2 I w vs hI hvs).mono fun e w' hp=>by
   obtain ⟨v,r,h1,h2,h3,h4⟩:=hp
   refine ⟨v,r,h1,?_,h3,h4⟩
   rcases hC r h4 with ⟨u,rfl⟩ | ⟨us,rfl⟩
   ·simpa only [RV0] using h2
   ·simp only[RV0]at h2 ⊢
    obtain ⟨vs,e1,e2⟩:=h2
    exact ⟨vs,e1,rl0_vals e2⟩⟩
end
theorem flat_get {α:Type} {z:Nat}:∀ {ls:List (List α)},(∀ l ∈ ls,l.length=z)→∀ {i j:Nat} {l:List α} {u:α},ls[i]? = some l→l[j]? = some u→ls.flatten[i*z+j]? = some u
 | [],_,i,j,l,u,h,_=>by simp at h
 | a::ls,hz,i,j,l,u,h,hu=>by
  have ha:=hz a (by simp)
  cases i with
  | zero =>
   simp at h;subst h
   rw[List.flatten_cons,Nat.zero_mul,Nat.zero_add,List.getElem?_append_left (List.getElem?_eq_some_iff.1 hu).1];exact hu
  | succ i =>
   simp only[List.getElem?_cons_succ]at h
   rw[List.flatten_cons,List.getElem?_append_right (by rw[ha,Nat.succ_mul];omega),ha,show (i+1)*z+j-z=i*z+j by rw[Nat.succ_mul];omega]
   exact flat_get (fun l hl=>hz l (by simp[hl])) h hu
theorem RL.split {M:MM}:∀ {xs ys:List AV} {vs:List Value},RL M (xs++ys) vs→∃ v1 v2,vs=v1++v2∧RL M xs v1∧RL M ys v2
 | [],ys,vs,h=>⟨[],vs,rfl,by simp only[RL],h⟩
 | x::xs,ys,vs,h=>by
  simp only[List.cons_append,RL]at h
  obtain ⟨v,vs',rfl,h1,h2⟩:=h
  obtain ⟨v1,v2,rfl,h3,h4⟩:=RL.split h2
  exact ⟨v::v1,v2,rfl,by simp only[RL];exact ⟨v,v1,rfl,h1,h3⟩,h4⟩
theorem RL.chunks {M:MM}:∀ {yss:List (List AV)} {vs:List Value},RL M yss.flatten vs→∃ vss:List (List Value),vs=vss.flatten∧vss.length=yss.length∧∀ (i:Nat) (l:List AV) (v:List Value),yss[i]? = some l→vss[i]? = some v→RL M l v
 | [],vs,h=>by
  simp only[List.flatten_nil,RL]at h
  exact ⟨[],h,rfl,fun i l v h=>by simp at h⟩
 | y::yss,vs,h=>by
  rw[List.flatten_cons]at h
  obtain ⟨v1,v2,rfl,h1,h2⟩:=RL.split h
  obtain ⟨vss,rfl,h3,h4⟩:=RL.chunks h2
  refine ⟨v1::vss,by simp,by simp[h3],fun i l v hl hv=>?_⟩
  cases i with
  | zero=>simp at hl hv;subst hl;subst hv;exact h1
  | succ i=>exact h4 i l v (by simpa using hl) (by simpa using hv)
def FrzLL (n:Nat) (H:List VObj) (nx:Nat):List (List AV)→List (List AV)→Prop
 | [],zs=>zs=[]
 | y::ys,zs=>∃ z zs',zs=z::zs'∧FrzL n H nx y z∧FrzLL n H nx ys zs'
theorem FrzLL.pure {n:Nat} {H:List VObj} {nx:Nat}:∀ {yss:List (List AV)},(∀ l ∈ yss,l.all AV.pure=true)→FrzLL n H nx yss yss
 | [],_=>rfl
 | y::ys,h=>⟨y,ys,rfl,FrzL.pure (h y (by simp)),FrzLL.pure fun l hl=>h l (by simp[hl])⟩
theorem FrzLL.length {n:Nat} {H:List VObj} {nx:Nat}:∀ {yss zss:List (List AV)},FrzLL n H nx yss zss→zss.length=yss.length
 | [],_,h=>by simp only[FrzLL]at h;subst h;rfl
 | y::ys,_,h=>by
  simp only[FrzLL]at h
  obtain ⟨z,zs',rfl,_,h3⟩:=h
  simp[FrzLL.length h3]
theorem rl0_aggsT {M:MM} {n:Nat} (hR:RH M):∀ {yss zss:List (List AV)} {vss:List (List Value)},vss.length=yss.length→(∀ (i:Nat) (l:List AV) (v:List Value),yss[i]? = some l→vss[i]? = some v→RL M l v)→FrzLL n M.H M.nx yss zss →
 RL0 M.w (Drop M n) (zss.map .agg) (vss.map fun l=>Value.agg l.toArray)
 | [],_,[],_,_,h=>by simp only[FrzLL]at h;subst h;simp only[List.map_nil,RL0]
 | [],_,v::vs,h,_,_=>by simp at h
 | y::ys,_,[],h,_,_=>by simp at h
 | y::ys,_,v::vs,h,h1,h2=>by
  simp only[FrzLL]at h2
  obtain ⟨z,zs',rfl,h2,h3⟩:=h2
  simp only[List.map_cons,RL0]
  refine ⟨_,_,rfl,?_,rl0_aggsT hR (by simpa using h) (fun i l v hl hv=>h1 (i+1) l v (by simpa using hl) (by simpa using hv)) h3⟩
  simp only[RV0]
  exact ⟨v,rfl,h2.rl hR rfl rfl (h1 0 y v (by simp) (by simp))⟩
theorem flatz_len {α:Type} {z:Nat}:∀ {ls:List (List α)},(∀ l ∈ ls,l.length=z)→ls.flatten.length=ls.length*z
 | [],_=>by simp
 | y::ys,h=>by rw[List.flatten_cons,List.length_append,flatz_len (fun l hl=>h l (by simp[hl])),h y (by simp),List.length_cons,Nat.succ_mul];omega
theorem Frz.refT {n:Nat} {H:List VObj} {nx id s len z:Nat} {ob:VObj} {yss zss:List (List AV)} (hid:n≤id) (ho:H[id]? = some ob) (hs:ob.s=s) (hz:ob.sz=z) (hcs:ob.cs=yss.flatten)
 (hy:∀ l ∈ yss,l.length=z) (hlen:len=yss.length) (hf:FrzLL n H nx yss zss):Frz n H nx (.ref id s 0 len) (.imm z (zss.map .agg)):=fun M hR hH hnx v r=>by
 subst hH;subst hnx;subst hlen
 simp only[RV]at r
 obtain ⟨hzz,r⟩:=r.2.2 ob ho hs
 have hfl:yss.flatten.length=yss.length*z:=flatz_len hy
 cases hm:M.m.getD id none with
 | none =>
  rw[hm]at r
  obtain ⟨rfl,h1,h2⟩:=r
  have:yss=[]:=List.length_eq_zero_iff.1 (by omega)
  subst this
  simp only[FrzLL]at hf
  subst hf
  simp only[List.map_nil,RV0,RL0]
  exact ⟨none,0,0,[],rfl,rfl,Nat.le_refl _,by simp[maxLen],rfl,by simp,.inl rfl⟩
 | some g =>
  rw[hm]at r
  obtain ⟨oo,cap,rfl,q2,q3,q4,q5,q6⟩:=r
  obtain ⟨vs,g1,g2,g3⟩:=hR.cells ho hzz hm 0 (yss.length*z) (by rw[hcs,hfl];omega)
  rw[List.drop_zero,hcs,List.take_of_length_le (by omega)]at g2
  obtain ⟨vss,rfl,h3,h4⟩:=RL.chunks g2
  have hlv:∀ i v,vss[i]? = some v→∃ l,yss[i]? = some l∧RL M l v∧v.length=z:=fun i v hv=>by
   have hi:i<yss.length:=by have:=(List.getElem?_eq_some_iff.1 hv).1;omega
   have hl:=List.getElem?_eq_getElem hi
   have:=h4 i _ v hl hv
   exact ⟨_,hl,this,by rw[this.length];exact hy _ (List.getElem_mem hi)⟩
  have hmem:∀ v ∈ vss,v.length=z:=fun v hv=>by
   obtain ⟨i,hi⟩:=List.getElem?_of_mem hv
   obtain ⟨_,_,_,e⟩:=hlv i v hi
   exact e
  simp only[RV0]
  refine ⟨_,yss.length,cap,vss.map fun l=>Value.agg l.toArray,rfl,by simp[h3,hf.length],q2,q3,?_,fun u hu=>?_,?_⟩
  ·exact rl0_aggsT hR h3 h4 hf
  ·obtain ⟨l,hl,rfl⟩:=List.mem_map.1 hu
   simp[Value.cells,hmem l hl]
  ·by_cases hl:yss.length=0
   ·exact .inl hl
   ·refine .inr ⟨g,oo,rfl,⟨.inr ⟨(hR.lt hm).1,(hR.lt hm).2.1⟩,fun j hj e=>by have:=hR.inj j id g e hm;omega⟩,fun i u hu j x hx=>?_⟩
    have hoo:oo=M.o id+0:=by rcases q5 with q5 | q5<;>omega
    rw[List.getElem?_map]at hu
    cases hv:vss[i]? with
    | none=>rw[hv]at hu;cases hu
    | some l =>
     rw[hv]at hu
     simp only[Option.map_some,Option.some.injEq]at hu
     subst hu
     have hx':l[j]? = some x:=by simpa [Value.cells] using hx
     have:=g3 _ _ (flat_get hmem hv hx')
     rw[hoo,Nat.add_assoc];exact this
end Go.V
namespace Go.V
theorem Frz.ptr {n:Nat} {H:List VObj} {nx id s:Nat} {ob:VObj} {ys:List AV} (hid:n≤id) (ho:H[id]? = some ob) (hs:ob.s=s) (hz:ob.sz≠0) (h:FrzL n H nx ob.cs ys) :
 Frz n H nx (.ptr id s 0) (.ip (.agg ys)):=fun M hR hH hnx v r=>by
 subst hH
 simp only[RV]at r
 obtain ⟨hzz,g,hm,rfl⟩:=r.2.2 ob ho hs
 obtain ⟨vs,g1,g2,g3⟩:=hR.cells ho hzz hm 0 ob.cs.length (by omega)
 simp only[List.drop_zero,List.take_length]at g2
 have hrl:=h.rl hR rfl hnx g2
 simp only[RV0]
 refine ⟨g,_,.agg vs.toArray,rfl,⟨.inr ⟨(hR.lt hm).1,(hR.lt hm).2.1⟩,fun j hj e=>by have:=hR.inj j id g e hm;omega⟩,⟨vs,rfl,hrl⟩,fun j u hu=>?_⟩
 have:=g3 j u (by simpa [Value.cells] using hu)
 simpa using this
end Go.V
namespace Go.Proofs.Ytkbhfokbhkmfgaa
set_option linter.unusedSimpArgs false
set_option linter.unusedVariables false
set_option maxRecDepth 10000
open Go.V
theorem frz_ins {H:List VObj} {nx id s len:Nat} {ob:VObj} (l:List Tac) (ho:H[id]? = some ob) (hs:ob.s=s) (hz:ob.sz=8) (hcs:ob.cs=(l.map tacL).flatten) (hl:len=l.length):Frz 0 H nx (.ref id s 0 len) (inA l):=by
 have h:=Frz.refT (n:=0) (nx:=nx) (yss:=l.map tacL) (zss:=l.map tacL) (len:=len) (Nat.zero_le _) ho hs hz hcs (by intro q hq;obtain ⟨t,_,rfl⟩:=List.mem_map.1 hq;rfl) (by rw[List.length_map];exact hl) (FrzLL.pure (by intro q hq;obtain ⟨t,_,rfl⟩:=List.mem_map.1 hq;rfl))
 rw[List.map_map]at h
 exact h
theorem frz_bks {H:List VObj} {nx id s len:Nat} {ob:VObj} (bs:List Bk) (xs:List AV) (hx:xs.length=bs.length) (hf:∀ i<bs.length,Frz 0 H nx (xs.getD i .dead) (inA (bs.getD i default).ins)) (ho:H[id]? = some ob) (hs:ob.s=s) (hz:ob.sz=5)
 (hcs:ob.cs=((xs.zip bs).map fun p=>[p.1,I p.2.e,I p.2.v,I p.2.to,I p.2.el]).flatten) (hl:len=bs.length):Frz 0 H nx (.ref id s 0 len) (bksA bs):=by
 have key:∀ (xs:List AV) (bs:List Bk),xs.length=bs.length→(∀ i<bs.length,Frz 0 H nx (xs.getD i .dead) (inA (bs.getD i default).ins))→FrzLL 0 H nx ((xs.zip bs).map fun p=>[p.1,I p.2.e,I p.2.v,I p.2.to,I p.2.el]) (bs.map bkL):=by
  intro xs
  induction xs with
  | nil=>intro bs h _;cases bs with
   | nil=>rfl
   | cons b bs=>simp at h
  | cons x xs ih=>intro bs h hf;cases bs with
   | nil=>simp at h
   | cons b bs =>
    refine ⟨_,_,rfl,⟨_,_,rfl,hf 0 (by simp),_,_,rfl,Frz.pure rfl,_,_,rfl,Frz.pure rfl,_,_,rfl,Frz.pure rfl,_,_,rfl,Frz.pure rfl,rfl⟩,ih bs (by simpa using h) fun i hi=>?_⟩
    have:=hf (i+1) (by simp;omega)
    simpa using this
 have h:=Frz.refT (n:=0) (nx:=nx) (len:=len) (zss:=bs.map bkL) (Nat.zero_le _) ho hs hz hcs (by intro l hl;obtain ⟨p,_,rfl⟩:=List.mem_map.1 hl;rfl) (by rw[List.length_map,List.length_zip,hx,Nat.min_self];exact hl) (key xs bs hx hf)
 rw[List.map_map]at h
 exact h
set_option maxRecDepth 10000
open Go.V
theorem virt_at {env:List (Nat × AV)} {H:List VObj} {nx i:Nat} {ob:VObj} {cs':List AV} (ty sz:Nat) (hsz:sz≠0) (he:∀ p ∈ env,get env p.1=p.2) (ho:H[i]? = some ob) (hz:ob.sz≠0) (hl:ob.cs.length=cs'.length)
 (hc:∀ (j:Nat) x y,ob.cs[j]? = some x→cs'[j]? = some y→x=y∨(x = .val (.slice none 0 0)∧y = .ref H.length nx 0 0)):Wk ⟨env,H,nx⟩ ⟨env,H.set i ⟨ob.s,ob.ty,ob.sz,cs'⟩++[⟨nx,ty,sz,[]⟩],nx+1⟩:=by
 refine Wk.virt ty sz hsz (fun p hp=>.inl (he p hp)) ⟨H.set i ⟨ob.s,ob.ty,ob.sz,cs'⟩,rfl,by simp,fun j ob' h=>?_⟩ rfl
 rw[List.getElem?_set]at h
 by_cases e:i=j
 ·subst e
  rw[if_pos rfl,if_pos (List.getElem?_eq_some_iff.1 ho).1]at h
  cases h
  exact ⟨ob,ho,rfl,rfl,rfl,hl,fun h=>absurd h hz,hc⟩
 ·rw[if_neg e]at h
  exact ⟨ob',h,rfl,rfl,rfl,rfl,fun _=>rfl,fun _ x y hx hy=>.inl (by rw[hx]at hy;exact Option.some.inj hy)⟩
structure RQ where
 b:Nat
 s1:Nat
 s2:Nat
 nx:Nat
abbrev lvR (L:LD) (K s0:Nat) (x:RQ):List VObj:=[⟨s0,63,1,[.ref (K+1) x.s1 0 x.b,.ref (K+2) x.s2 0 x.b]⟩,⟨x.s1,67,1,(L.inn.take x.b).map bools⟩,⟨x.s2,67,1,(L.out.take x.b).map bools⟩]
theorem rows_snoc {m:List (List Bool)} {b:Nat} (hb:b<m.length):List.take b ((m.take b).map bools)++[bools (m.getD b [])]=(m.take (b+1)).map bools:=by
 rw[List.take_of_length_le (by simp;omega),List.take_add_one,List.map_append]
 simp[List.getD,List.getElem?_eq_getElem hb]
theorem lv_virt (L:LD) (H:List VObj) (nx:Nat) (env:List (Nat × AV)) (he:∀ p ∈ env,get env p.1=p.2):Wk ⟨env,H++[⟨nx,63,1,[nilv,nilv]⟩],nx+1⟩ ⟨env,H++lvR L H.length nx ⟨0,nx+1,nx+1+1,nx+1+1+1⟩,nx+1+1+1⟩:=by
 have h1:=virt_at (env:=env) (H:=H++[⟨nx,63,1,[nilv,nilv]⟩]) (nx:=nx+1) (i:=H.length) (ob:=⟨nx,63,1,[nilv,nilv]⟩) (cs':=[.ref (H.length+1) (nx+1) 0 0,nilv]) 67 1 (by decide) he (by rw[app_get0];rfl) (by simp) rfl (fun j x y hx hy=>by
  match j with
  | 0=>simp at hx hy;subst hx;subst hy;exact .inr ⟨rfl,by simp⟩
  | 1=>simp at hx hy;subst hx;subst hy;exact .inl rfl
  | j+2=>simp at hx)
 rw[app_set0,List.append_assoc]at h1
 have h2:=virt_at (env:=env) (H:=H++[⟨nx,63,1,[.ref (H.length+1) (nx+1) 0 0,nilv]⟩,⟨nx+1,67,1,[]⟩]) (nx:=nx+1+1) (i:=H.length) (ob:=⟨nx,63,1,[.ref (H.length+1) (nx+1) 0 0,nilv]⟩)
  (cs':=[.ref (H.length+1) (nx+1) 0 0,.ref (H.length+2) (nx+1+1) 0 0]) 67 1 (by decide) he (by rw[app_get0];rfl) (by simp) rfl (fun j x y hx hy=>by
  match j with
  | 0=>simp at hx hy;subst hx;subst hy;exact .inl rfl
  | 1=>simp at hx hy;subst hx;subst hy;exact .inr ⟨rfl,by simp⟩
  | j+2=>simp at hx)
 rw[app_set0,List.append_assoc]at h2
 exact h1.trans h2
set_option maxRecDepth 10000
open Go.V
def SolverOfV (f:BF):Prop:=∀ (o0 o1:VObj) (C:AV→List VObj→Nat→Prop),o0.ty=52→o1.ty=63 →
 (∀ q H nx wv,HS f H q wv (beginS f)→H[0]? = some o0→H[1]? = some o1→C (.ptr q.kS q.sS 0) H nx)→VCall Try.prog 40 [bfA f] [o0,o1] 2 C
theorem flags_del {n b:Nat} {w0:List Nat} (h:b<n) (hb:b ∉ w0):(flags n (w0++[b])).set b false=flags n w0:=gB_ext (by simp[flags]) fun v hv=>by
 have hv':v<n:=by simpa [flags] using hv
 rw[gB_set _ _ _ _ (by rw[flags_len];exact hv'),flags_get hv',flags_get hv']
 by_cases e:b=v
 ·subst e;simp[hb]
 ·rw[if_neg e]
  have:¬ v=b:=fun h=>e h.symm
  simp[this]
theorem cellT_preds {n:Nat} {pi:Nat→Nat × Nat} {pl:Nat→List Nat} {b:Nat} {C:AV→Prop}:cellT ((List.range n).map fun b=>AV.ref (pi b).1 (pi b).2 0 (pl b).length) b false 1 C .mk=(b<n∧C (.ref (pi b).1 (pi b).2 0 (pl b).length)):=by
 rw[cellT_map (fun _=>rfl)]
 apply propext
 rw[List.length_range]
 refine ⟨fun ⟨h1,h2⟩=>⟨h1,?_⟩,fun ⟨h1,h2⟩=>⟨h1,?_⟩⟩
 ·rw[range_get h1]at h2;exact h2
 ·rw[range_get h1];exact h2
theorem cellT_nats {l:List Nat} {b:Nat} {C:AV→Prop}:cellT (natsL l) b false 1 C .mk=(b<l.length∧C (I (l.getD b default:Nat))):=cellT_map fun _=>rfl
theorem waits_take (w0:List Nat) (ls:List Nat) {j:Nat} (hj:j<ls.length):waitsS w0 (ls.take (j+1))=waitS (waitsS w0 (ls.take j)) (ls.getD j default):=by
 have e:ls.take (j+1)=ls.take j++[ls.getD j default]:=by rw[List.take_add_one];simp[List.getD,List.getElem?_eq_getElem hj]
 rw[e];simp[waitsS]
theorem last_get (w0:List Nat) (b:Nat) (rest:List Nat):(w0++[b]++rest).getD w0.length default=b:=by
 rw[List.getD,List.append_assoc,List.getElem?_append_right (Nat.le_refl _),Nat.sub_self];rfl
theorem flat_le {α β:Type} (g:α→List β) (h:∀ a,(g a).length≤2):∀ l:List α,(l.flatMap g).length≤2*l.length
 | []=>by simp
 | a::l=>by
  have:=flat_le g h l
  have:=h a
  rw[List.flatMap_cons,List.length_append,List.length_cons];omega
theorem predL_len (f:BF) (b:Nat):(predL f b).length≤2*f.n:=by
 have:=flat_le (fun a=>((nxt (f.bk a)).filter fun k=>decide (k.toNat=b)).map fun _=>a) (fun a=>by
  rw[List.length_map]
  exact Nat.le_trans (List.length_filter_le _ _) (nxt_len _)) (List.range f.n)
 rw[List.length_range]at this
 exact this
structure OQ where
 H:List VObj
 wv:AV
 σ:SV
 nx:Nat
structure WQ where
 j:Nat
 H:List VObj
 wv:AV
 nx:Nat
theorem of_c (f:BF) (hf:Fine f) (hr:f.r≤64) (hV:SolverOfV f) (L:LD) (hL:Least f L):Contract Try.prog 22 [bfA f] (fun x=>x=liveA L):=by
 refine Contract.of_call (VCall.of_body hmix f_live_Of (by simp) ?_)
 have hr0:=hf.r0
 have hn5:f.n≤500:=hf.b1
 have hlen:(f.bks.length:Int)=f.n:=rfl
 simp only[go_sem,c_live_Of]
 refine hV _ _ _ rfl rfl fun q H nx wv h h0 h1=>?_
 simp only[go_sem]
 refine VW_loop (fun x:OQ=>⟨[(1,.ptr 0 0 0),(2,.ptr 1 1 0),(3,.ptr q.kS q.sS 0)],x.H,x.nx⟩) (fun x=>HS f x.H q x.wv x.σ∧SInv f x.σ∧x.H[0]? = some ⟨0,52,1,bfL f⟩∧x.H[1]? = some ⟨1,63,1,[nilv,nilv]⟩)
  (fun x=>muS f x.σ) ⟨H,wv,beginS f,nx⟩ (Wk.mk (by simp[get_cons]) ⟨[],by simp⟩ (Nat.le_refl _)) ⟨h,begin_inv f,h0,h1⟩ ?_
 clear h h0 h1
 rintro ⟨H,wv,σ,nx⟩ ⟨h,hi,h0,h1⟩
 simp only at h hi h0 h1
 have hso:=h.so
 have hw:=h.w
 have hwl:=hi.wlen
 rcases List.eq_nil_or_concat σ.wt with hnil | ⟨w0,b,hcat⟩
 ·have hLe:=hi.least hf hnil
  have hLL:σ.L=L:=hLe.unique hL
  have hIL:σ.I=L.inn:=by rw[← hLL];rfl
  have hOL:σ.O=L.out:=by rw[← hLL];rfl
  have hli:L.inn.length=f.n:=hL.cl.sz.i
  have hlo:L.out.length=f.n:=hL.cl.sz.o
  have hwv:wv=nilv∨∃ k s,wv = .ref k s 0 0∧∃ cs,H[k]? = some ⟨s,3,1,cs⟩:=by
   rcases h.wt with ⟨e,_⟩ | ⟨k,s,rest,e,hk,_⟩
   ·exact .inl e
   ·rw[hnil]at e;exact .inr ⟨k,s,e,_,hk⟩
  have hz:0<H.length:=(List.getElem?_eq_some_iff.1 h0).1
  have hz1:1<H.length:=(List.getElem?_eq_some_iff.1 h1).1
  have hwv1:wv.one=true:=by rcases hwv with e | ⟨_,_,e,_⟩<;>rw[e]<;>rfl
  have hol:(predL f 0).length≤2*f.n:=predL_len f 0
  have hsl:=h.li
  have hslo:=h.lo
  have hri:=h.ri
  have hro:=h.ro
  rw[hIL]at hri
  rw[hOL]at hro
  have e0:(0<H.length)=True:=eq_true hz
  have e1:(1<H.length)=True:=eq_true hz1
  have hmx:(200000:Nat)≤maxLen:=by decide
  have ga0:=app_old h0
  have ga1:=app_old h1
  have gaS:=app_old hso
  have gaI:=app_old hsl
  have gaO:=app_old hslo
  have hregs:f.regs=(f.r:Int):=by unfold BF.r;omega
  rcases hwv with e | ⟨k,s,e,cs,hk⟩
  all_goals
   subst e
   first
   | simp only[go_sem,hso,hk,ga0,Nat.cast_zero',Int.lt_irrefl]
   | simp only[go_sem,hso,ga0]
   refine VW_loop (fun x:RQ=>⟨[(1,.ptr 0 0 0),(2,.ptr 1 1 0),(3,.ptr q.kS q.sS 0),(8,.ptr H.length nx 0),(67,I f.n),(68,I x.b)],H++lvR L H.length nx x,x.nx⟩) (fun x=>x.b≤f.n) (fun x=>f.n-x.b) ⟨0,nx+1,nx+1+1,nx+1+1+1⟩
    ?_ (Nat.zero_le _) ?_
   ·refine Wk.trans (b:=⟨[(1,.ptr 0 0 0),(2,.ptr 1 1 0),(3,.ptr q.kS q.sS 0),(8,.ptr H.length nx 0),(67,I f.n),(68,I 0)],H++[(⟨nx,63,1,[nilv,nilv]⟩:VObj)],nx+1⟩) (Wk.mk (by simp[get_cons,BF.n]) ⟨[],by simp⟩ (Nat.le_refl _)) (lv_virt L H nx _ (by simp[get_cons]))
   rintro ⟨b,s1,s2,nx2⟩ hb
   simp only at hb
   by_cases hlt:b<f.n
   ·have hib:=hri b hlt
    have hobb:=hro b hlt
    have gaib:=app_old hib
    have gaob:=app_old hobb
    have hil:(L.inn.getD b []).length=f.r:=hL.cl.sz.il hlt
    have hol':(L.out.getD b []).length=f.r:=hL.cl.sz.ol hlt
    have sp1:ContractN Try.prog 43 [.imm 1 (rowC64 (L.inn.getD b [])),I f.regs] (fun r=>r=bools (L.inn.getD b [])):=by have:=spread_c (L.inn.getD b []) (by omega);rw[hil,← hregs]at this;exact this
    have sp2:ContractN Try.prog 43 [.imm 1 (rowC64 (L.out.getD b [])),I f.regs] (fun r=>r=bools (L.out.getD b [])):=by have:=spread_c (L.out.getD b []) (by omega);rw[hol',← hregs]at this;exact this
    simp only[go_sem,ga0,gaS,gaI,app_get,app_get0,cellT_rows,eq_true (show (b:Int)<f.n by omega)]
    repeat' (with_reducible apply And.intro)
    all_goals first | omega | skip
    all_goals
     refine VCall.of_contractN sp1 ?_ fun r hr=>?_
     ·exact ⟨_,_,rfl,frz_row (Nat.zero_le _) (gaib _) (by rw[hil]),_,_,rfl,Frz.pure rfl,rfl⟩
     subst hr
     refine ⟨Stab.refl _ _ _,?_⟩
     simp only[go_sem,ga0,gaS,gaO,app_get,app_get0,app_set,app_set0,List.append_assoc,List.length_append,cellT_rows]
     repeat' (with_reducible apply And.intro)
     all_goals first | omega | skip
     all_goals
      refine VCall.of_contractN sp2 ?_ fun r hr=>?_
      ·exact ⟨_,_,rfl,frz_row (Nat.zero_le _) (gaob _) (by rw[hol']),_,_,rfl,Frz.pure rfl,rfl⟩
      subst hr
      refine ⟨?_,?_⟩
      ·simp only[go_sem,app_get,app_get0,app_set,app_set0,List.append_assoc,List.length_append]
       exact Stab.refl _ _ _
      simp only[go_sem,ga0,gaS,gaO,app_get,app_get0,app_set,app_set0,List.append_assoc,List.length_append,cellT_rows]
      repeat' (with_reducible apply And.intro)
      all_goals first | omega | skip
      rw[i64_in (by omega) (by omega),rows_snoc (m:=L.inn) (by omega),rows_snoc (m:=L.out) (by omega)]
      refine ⟨⟨b+1,nx2+1,nx2+1+1+1,nx2+1+1+1+1⟩,by simp only;omega,by simp only;omega,Wk.mk (by simp[get_cons]) ⟨[_,_],by rw[List.append_assoc];rfl⟩ (Nat.le_refl _)⟩
   ·obtain rfl:b=f.n:=by omega
    have tk1:L.inn.take f.n=L.inn:=List.take_of_length_le (by omega)
    have tk2:L.out.take f.n=L.out:=List.take_of_length_le (by omega)
    have l3:(1<H.length+3)=True:=eq_true (by omega)
    have l4:(1<H.length+(0+1+1+1))=True:=eq_true (by omega)
    simp only[go_sem,ga1,app_get,app_get0,List.getElem?_set,List.length_append,l3,l4,eq_false (show ¬ (f.n:Int)<f.n by omega)]
    repeat ((with_reducible refine And.intro ?_ ?_);· omega)
    refine ⟨_,Frz.agg (ys:=[rowsA L.inn,rowsA L.out]) ?_,rfl⟩
    exact ⟨_,_,rfl,rows_frz (m:=L.inn) (Nat.zero_le _) (by rw[set_ne (by omega),app_get];show some (VObj.mk s1 67 1 ((L.inn.take f.n).map bools))=_;rw[tk1]) hli.symm,_,_,rfl,rows_frz (m:=L.out) (Nat.zero_le _) (by rw[set_ne (by omega),app_get];show some (VObj.mk s2 67 1 ((L.out.take f.n).map bools))=_;rw[tk2]) hlo.symm,rfl⟩
 ·rw[List.concat_eq_append]at hcat
  have hwt:=h.wt
  rw[hcat]at hwt
  rcases hwt with ⟨_,hwt⟩ | ⟨k,s,rest,rfl,hk,hkp⟩
  ·simp at hwt
  have hb:b<f.n:=hi.wn b (by rw[hcat];simp)
  have hnd:=hi.nd
  rw[hcat,List.nodup_append]at hnd
  have hb0:b ∉ w0:=fun e=>hnd.2.2 b e b (by simp) rfl
  have e1:=ty_ne hso hk (by simp)
  have e2:=ty_ne hso hw (by simp)
  have e3:=ty_ne hw hk (by simp)
  have e4:=ty_ne hw hso (by simp)
  have l1:=lt_of hso
  have l2:=lt_of hw
  have hwl0:w0.length+1≤500:=by rw[hcat]at hwl;simp at hwl;omega
  have hle:(w0++[b]).length=w0.length+1:=by simp
  have hlg:=last_get w0 b rest
  have hrl:(w0++[b]++rest).length=w0.length+1+rest.length:=by simp only[List.length_append,List.length_cons,List.length_nil]
  have ei:IntKind.i64.wrap ((w0.length+1:Nat)-1:Int)=w0.length:=by rw[i64_in (by omega) (by omega)];omega
  rw[hcat]at hw
  simp only[go_sem,hso,hw,hk,hle,eq_true (show (0:Int)<((w0.length+1:Nat):Int) by omega),ei,cellT_nats,hlg,List.getElem?_set,List.length_set,e1,e2,e3,e4,l1,l2,flags_len,set_B,flags_del hb hb0,Nat.sub_zero]
  repeat ((with_reducible refine And.intro ?_ ?_);· omega)
  have kp0:KeepT [97,4,3] H ((H.set q.kS ⟨q.sS,97,1,slvL f q (.ref k s 0 w0.length)⟩).set q.kW ⟨q.sW,4,1,(flags f.n w0).map B⟩) :=
   (KeepT.set hso (by simp)).trans (KeepT.set (ob:=⟨q.sW,4,1,(flags f.n (w0++[b])).map B⟩) (by rw[set_ne (fun e=>by rw[e]at hso;rw[hso]at hw;simp at hw)];exact hw) (by simp))
  have hS2:HS f ((H.set q.kS ⟨q.sS,97,1,slvL f q (.ref k s 0 w0.length)⟩).set q.kW ⟨q.sW,4,1,(flags f.n w0).map B⟩) q (.ref k s 0 w0.length) ⟨σ.I,σ.O,w0⟩:=by
   refine h.keep (wt':=w0) kp0 ?_ ?_ (.inr ⟨k,s,b::rest,rfl,?_,hkp⟩) fun c hc=>?_
   ·simp only[List.getElem?_set,List.length_set,e4,l1,l2,↓reduceIte]
   ·simp only[List.getElem?_set,List.length_set,e4,l1,l2,↓reduceIte]
   ·simp only[List.getElem?_set,List.length_set,e1,e3,l1,l2,↓reduceIte,hk]
    simp
   ·have hp:=h.pr c hc
    have p1:=ty_ne hw hp (by simp)
    have p2:=ty_ne hso hp (by simp)
    simp only[List.getElem?_set,p1,p2,↓reduceIte]
  have hrd:=hi.round hf hcat
  have hsz:SizedP f (SV.L ⟨σ.I,σ.O,w0⟩):=hi.sz
  have hg0:=kp0 _ _ h0 (by simp)
  have hg1:=kp0 _ _ h1 (by simp)
  generalize (H.set q.kS ⟨q.sS,97,1,slvL f q (.ref k s 0 w0.length)⟩).set q.kW ⟨q.sW,4,1,(flags f.n w0).map B⟩=H2 at hS2 hg0 hg1 ⊢
  clear kp0
  refine grow_v hf hS2 hsz hr nx b hb _ fun H3 hS3 kp3=>?_
  have hms:moreS f ⟨σ.I,σ.O,w0⟩ b=moreS f σ b:=rfl
  have hgs:growS f ⟨σ.I,σ.O,w0⟩ b=⟨(growS f σ b).I,(growS f σ b).O,w0⟩:=rfl
  rw[hms]
  rw[hgs]at hS3
  have h30:=kp3 _ _ hg0 (by simp)
  have h31:=kp3 _ _ hg1 (by simp)
  have hrdw:(roundS f σ w0 b).wt=if moreS f σ b=true then waitsS w0 (predL f b) else w0:=rfl
  cases hm:moreS f σ b
  ·rw[hm]at hrdw
   simp only[go_sem]
   refine ⟨⟨H3,.ref k s 0 w0.length,roundS f σ w0 b,nx⟩,⟨?_,hrd.1,h30,h31⟩,hrd.2,Wk.mk (by simp[get_cons]) ⟨[],by simp⟩ (Nat.le_refl _)⟩
   have:roundS f σ w0 b=⟨(growS f σ b).I,(growS f σ b).O,w0⟩:=by unfold roundS;rw[hm];rfl
   rw[this];exact hS3
  ·rw[hm,if_pos rfl]at hrdw
   have hso3:=hS3.so
   have hla3:=hS3.la
   have hpr3:=hS3.pr b hb
   have hpl:=predL_len f b
   simp only[go_sem,hso3,hla3,hpr3,cellT_preds,hlg]
   repeat ((with_reducible refine And.intro ?_ ?_);· omega)
   refine VW_loop (fun x:WQ=>⟨[(1,.ptr 0 0 0),(2,.ptr 1 1 0),(3,.ptr q.kS q.sS 0),(55,.ref (q.pi b).1 (q.pi b).2 0 (predL f b).length),(56,I (predL f b).length),(57,I x.j)],x.H,x.nx⟩)
    (fun x=>x.j≤(predL f b).length∧HS f x.H q x.wv ⟨(growS f σ b).I,(growS f σ b).O,waitsS w0 ((predL f b).take x.j)⟩∧x.H[0]? = some ⟨0,52,1,bfL f⟩∧x.H[1]? = some ⟨1,63,1,[nilv,nilv]⟩)
    (fun x=>(predL f b).length-x.j) ⟨0,H3,.ref k s 0 w0.length,nx⟩ (Wk.mk (by simp[get_cons]) ⟨[],by simp⟩ (Nat.le_refl _)) ⟨Nat.zero_le _,hS3,h30,h31⟩ ?_
   clear hS3 h30 h31 hso3 hla3 hpr3 kp3 hS2 hg0 hg1
   rintro ⟨j,H4,wv4,nx4⟩ ⟨hj,hS4,h40,h41⟩
   simp only at hj hS4 h40 h41
   by_cases hlt:j<(predL f b).length
   ·have hp4:=hS4.pr b hb
    have hwt:=waits_take w0 (predL f b) hlt
    have hmem:=mem_pred.1 (mem_getD hlt)
    have hlw:(waitsS w0 ((predL f b).take j)).length≤f.n:=nodup_le _ _ (nodup_waits hnd.1) fun c hc=>by
     rcases mem_waits.1 hc with g | g
     ·exact hi.wn c (by rw[hcat];simp[g])
     ·exact (mem_pred.1 (List.mem_of_mem_take g)).1
    simp only[go_sem,hp4,cellT_nats,eq_true (show (j:Int)<(predL f b).length by omega)]
    repeat ((with_reducible refine And.intro ?_ ?_);· omega)
    refine wait_v hS4 nx4 _ hmem.1 hn5 (by show (waitsS w0 ((predL f b).take j)).length≤500;omega) _ fun r H5 nx5 wv5 hS5 kp5=>?_
    have hS5':HS f H5 q wv5 ⟨(growS f σ b).I,(growS f σ b).O,waitsS w0 ((predL f b).take (j+1))⟩:=by rw[hwt];exact hS5
    simp only[go_sem]
    rw[i64_in (by omega) (by omega)]
    exact ⟨⟨j+1,H5,wv5,nx5⟩,⟨by simp only;omega,hS5',kp5 _ _ h40 (by simp),kp5 _ _ h41 (by simp)⟩,by simp only;omega,Wk.mk (by simp[get_cons]) ⟨[],by simp⟩ (Nat.le_refl _)⟩
   ·have hjl:j=(predL f b).length:=by omega
    rw[hjl,List.take_length]at hS4
    simp only[go_sem,eq_false (show ¬ (j:Int)<(predL f b).length by omega)]
    refine ⟨⟨H4,wv4,roundS f σ w0 b,nx4⟩,⟨?_,hrd.1,h40,h41⟩,hrd.2,Wk.mk (by simp[get_cons]) ⟨[],by simp⟩ (Nat.le_refl _)⟩
    have:roundS f σ w0 b=⟨(growS f σ b).I,(growS f σ b).O,waitsS w0 (predL f b)⟩:=by unfold roundS;rw[hm];rfl
    rw[this];exact hS4
set_option maxRecDepth 10000
open Go.V
def predJ (f:BF) (b j:Nat) (c:Nat):List Nat :=
 ((List.range b).flatMap fun a=>((nxt (f.bk a)).filter fun k=>decide (k.toNat=c)).map fun _=>a)++(((nxt (f.bk b)).take j).filter fun k=>decide (k.toNat=c)).map fun _=>b
theorem predJ_next (f:BF) (b c:Nat):predJ f b (nxt (f.bk b)).length c=predJ f (b+1) 0 c:=by
 unfold predJ
 rw[List.take_length,List.range_succ,List.flatMap_append]
 simp
theorem predJ_all (f:BF) (c:Nat):predJ f f.n 0 c=predL f c:=by unfold predJ predL;simp
theorem predJ_step (f:BF) (b c:Nat) {j:Nat} (hj:j<(nxt (f.bk b)).length):predJ f b (j+1) c=if ((nxt (f.bk b)).getD j default).toNat=c then predJ f b j c++[b] else predJ f b j c:=by
 unfold predJ
 have e:(nxt (f.bk b)).take (j+1)=(nxt (f.bk b)).take j++[(nxt (f.bk b)).getD j default]:=by rw[List.take_add_one];simp[List.getD,List.getElem?_eq_getElem hj]
 rw[e,List.filter_append,List.map_append]
 generalize (nxt (f.bk b)).getD j default=k
 by_cases h:k.toNat=c
 ·rw[if_pos h];simp[h]
 ·rw[if_neg h];simp[h]
theorem predJ_len (f:BF) (b j c:Nat):(predJ f b j c).length≤2*b+2:=by
 unfold predJ
 rw[List.length_append,List.length_map]
 have h1:=flat_le (fun a=>((nxt (f.bk a)).filter fun k=>decide (k.toNat=c)).map fun _=>a) (fun a=>by rw[List.length_map];exact Nat.le_trans (List.length_filter_le _ _) (nxt_len _)) (List.range b)
 have h2:(((nxt (f.bk b)).take j).filter fun k=>decide (k.toNat=c)).length≤2:=Nat.le_trans (List.length_filter_le _ _) (Nat.le_trans (by simp[List.length_take];omega) (nxt_len (f.bk b)))
 rw[List.length_range]at h1
 omega
structure BQ where
 b:Nat
 H:List VObj
 s6:Nat
 s7:Nat
 s8:Nat
 s9:Nat
 sp:Nat→Nat
 ri:Nat→Nat × Nat
 ro:Nat→Nat × Nat
 nx:Nat
abbrev ahC (n:Nat) (sp:Nat→Nat) (pl:Nat→List Nat):List AV:=(List.range n).map fun c=>.ref (10+c) (sp c) 0 (pl c).length
abbrev slB (f:BF) (ka kw b s6 s7 s8 s9:Nat):List AV:=[nextA f,.ref ka ka 0 f.n,.ref 6 s6 0 b,.ref 7 s7 0 b,.ref 8 s8 0 b,.ref 9 s9 0 b,nilv,.ref kw kw 0 f.n]
structure SB (f:BF) (ka kw:Nat) (o0 o1:VObj) (pl:Nat→List Nat) (x:BQ):Prop where
 h0:x.H[0]? = some o0
 h1:x.H[1]? = some o1
 h2:x.H[2]? = some ⟨2,52,1,bfL f⟩
 so:x.H[5]? = some ⟨5,97,1,slB f ka kw x.b x.s6 x.s7 x.s8 x.s9⟩
 ah:x.H[ka]? = some ⟨ka,53,1,ahC f.n x.sp pl⟩
 pr:∀ c<f.n,x.H[10+c]? = some ⟨x.sp c,3,1,natsL (pl c)⟩
 r6:x.H[6]? = some ⟨x.s6,100,1,(f.bks.take x.b).map fun b=>.imm 1 (rowC64 (readL b f.r))⟩
 r7:x.H[7]? = some ⟨x.s7,100,1,(f.bks.take x.b).map fun b=>.imm 1 (rowC64 (setL b f.r))⟩
 r8:x.H[8]? = some ⟨x.s8,100,1,rowsL x.b f.r x.ri⟩
 r9:x.H[9]? = some ⟨x.s9,100,1,rowsL x.b f.r x.ro⟩
 ri:∀ c<x.b,x.H[(x.ri c).1]? = some ⟨(x.ri c).2,130,1,rowC64 (List.replicate f.r false)⟩
 ro:∀ c<x.b,x.H[(x.ro c).1]? = some ⟨(x.ro c).2,130,1,rowC64 (List.replicate f.r false)⟩
 w:x.H[kw]? = some ⟨kw,4,1,(List.replicate f.n false).map B⟩
 dI:∀ b<x.b,∀ c<x.b,(x.ri b).1=(x.ri c).1→b=c
 dO:∀ b<x.b,∀ c<x.b,(x.ro b).1=(x.ro c).1→b=c
 dIO:∀ b<x.b,∀ c<x.b,(x.ri b).1≠(x.ro c).1
theorem cellT_ah {n b:Nat} {sp:Nat→Nat} {pl:Nat→List Nat} {C:AV→Prop}:cellT (ahC n sp pl) b false 1 C .mk=(b<n∧C (.ref (10+b) (sp b) 0 (pl b).length)):=by
 rw[cellT_map (fun _=>rfl)]
 apply propext
 rw[List.length_range]
 refine ⟨fun ⟨h1,h2⟩=>⟨h1,?_⟩,fun ⟨h1,h2⟩=>⟨h1,?_⟩⟩
 ·rw[range_get h1]at h2;exact h2
 ·rw[range_get h1];exact h2
theorem ahC_set {n k s:Nat} {sp:Nat→Nat} {pl:Nat→List Nat} {m:Nat} (hk:k<n) (l:List Nat) (hm:m=l.length):(ahC n sp pl).set k (.ref (10+k) s 0 m)=ahC n (fun c=>if c=k then s else sp c) (fun c=>if c=k then l else pl c):=by
 subst hm
 refine List.ext_getElem (by simp) fun i h1 h2=>?_
 rw[List.getElem_set]
 simp only[List.getElem_map,List.getElem_range]
 by_cases e:k=i
 ·subst e;simp
 ·have:¬ i=k:=fun h=>e h.symm
  simp[e,this]
theorem SB.add {f:BF} {ka kw:Nat} {o0 o1:VObj} {pl:Nat→List Nat} {x:BQ} (h:SB f ka kw o0 o1 pl x) (hka:ka=3∨ka=4) (hkw:kw=3∨kw=4) (hne:ka≠kw) (t0:o0.ty=52) (t1:o1.ty=63) {k:Nat} (hk:k<f.n) (l:List Nat) (s':Nat) (tmp:VObj) (nx':Nat) :
 SB f ka kw o0 o1 (fun c=>if c=k then l else pl c) { x with H:=((x.H++[tmp]).set (10+k) ⟨s',3,1,natsL l⟩).set ka ⟨ka,53,1,ahC f.n (fun c=>if c=k then s' else x.sp c) (fun c=>if c=k then l else pl c)⟩,sp:=fun c=>if c=k then s' else x.sp c,nx:=nx' }:=by
 have k1:KeepT [3,53] x.H (((x.H++[tmp]).set (10+k) ⟨s',3,1,natsL l⟩).set ka ⟨ka,53,1,ahC f.n (fun c=>if c=k then s' else x.sp c) (fun c=>if c=k then l else pl c)⟩) :=
  ((KeepT.app _ _ _).trans (KeepT.set (app_old (h.pr k hk) _) (by simp))).trans (KeepT.set (ob:=⟨ka,53,1,ahC f.n x.sp pl⟩) (by rw[set_ne (by omega)];exact app_old h.ah _) (by simp))
 refine ⟨k1 _ _ h.h0 (by rw[t0];simp),k1 _ _ h.h1 (by rw[t1];simp),k1 _ _ h.h2 (by simp),k1 _ _ h.so (by simp),?_,fun c hc=>?_,k1 _ _ h.r6 (by simp),k1 _ _ h.r7 (by simp),k1 _ _ h.r8 (by simp),k1 _ _ h.r9 (by simp),fun c hc=>k1 _ _ (h.ri c hc) (by simp),fun c hc=>k1 _ _ (h.ro c hc) (by simp),k1 _ _ h.w (by simp),h.dI,h.dO,h.dIO⟩
 ·exact set_get (a:=⟨ka,53,1,ahC f.n x.sp pl⟩) (by rw[set_ne (by omega)];exact app_old h.ah _)
 ·simp only
  rw[set_ne (by omega)]
  by_cases e:c=k
  ·subst e
   rw[if_pos rfl,if_pos rfl]
   exact set_get (app_old (h.pr c hk) _)
  ·rw[if_neg e,if_neg e,set_ne (by omega)]
   exact app_old (h.pr c hc) _
set_option maxRecDepth 10000
open Go.V
theorem virt_set {env:List (Nat × AV)} {H:List VObj} {nx i j:Nat} {ob:VObj} (ty sz:Nat) (hsz:sz≠0) (he:∀ p ∈ env,get env p.1=p.2) (ho:H[i]? = some ob) (hz:ob.sz≠0) (hj:ob.cs[j]? = some nilv) :
 Wk ⟨env,H,nx⟩ ⟨env,H.set i ⟨ob.s,ob.ty,ob.sz,ob.cs.set j (.ref H.length nx 0 0)⟩++[⟨nx,ty,sz,[]⟩],nx+1⟩ :=
 virt_at ty sz hsz he ho hz (by simp) fun m x y hx hy=>by
  rw[List.getElem?_set]at hy
  by_cases e:j=m
  ·subst e
   rw[if_pos rfl,if_pos (List.getElem?_eq_some_iff.1 hj).1]at hy
   rw[hj]at hx
   cases hx;cases hy
   exact .inr ⟨rfl,rfl⟩
  ·rw[if_neg e]at hy
   rw[hx]at hy;exact .inl (Option.some.inj hy)
theorem virt_cells (n ka:Nat) (hka:ka<10) (env:List (Nat × AV)) (he:∀ p ∈ env,get env p.1=p.2) (H:List VObj) (hl:H.length=10) (ha:H[ka]? = some ⟨ka,53,1,List.replicate n nilv⟩):∀ c,c≤n →
 ∃ H',Wk ⟨env,H,10⟩ ⟨env,H',10+c⟩∧H'.length=10+c∧(∀ i,i<10→i≠ka→H'[i]? = H[i]?)∧H'[ka]? = some ⟨ka,53,1,(List.range n).map fun d=>if d<c then .ref (10+d) (10+d) 0 0 else nilv⟩∧∀ d<c,H'[10+d]? = some ⟨10+d,3,1,[]⟩
 | 0,_=>⟨H,Wk.refl _,hl,fun _ _ _=>rfl,by rw[ha];congr 2;refine List.ext_getElem (by simp) fun i h1 h2=>by simp,fun d hd=>by omega⟩
 | c+1,hc=>by
  obtain ⟨H',hw,h1,h2,h3,h4⟩:=virt_cells n ka hka env he H hl ha c (by omega)
  have hv:=virt_set (env:=env) (nx:=10+c) (j:=c) 3 1 (by decide) he h3 (by simp) (by simp[show c<n by omega])
  refine ⟨_,hw.trans hv,by simp[h1];omega,fun i hi hne=>?_,?_,fun d hd=>?_⟩
  ·rw[List.getElem?_append_left (by simp;omega),List.getElem?_set_ne (by omega)]
   exact h2 i hi hne
  ·rw[List.getElem?_append_left (by simp;omega),List.getElem?_set_self (by omega),h1]
   congr 2
   refine List.ext_getElem (by simp) fun i g1 g2=>?_
   rw[List.getElem_set]
   simp only[List.getElem_map,List.getElem_range]
   by_cases e:c=i
   ·subst e;simp
   ·rw[if_neg e]
    by_cases e2:i<c
    ·rw[if_pos e2,if_pos (by omega)]
    ·rw[if_neg e2,if_neg (by omega)]
  ·by_cases e:d=c
   ·subst e
    rw[List.getElem?_append_right (by simp;omega)]
    simp[h1]
   ·rw[List.getElem?_append_left (by simp;omega),List.getElem?_set_ne (by omega)]
    exact h4 d (by omega)
theorem begin_virt (f:BF) (ka kw:Nat) (hk:(ka=3∧kw=4)∨(ka=4∧kw=3)) (o0 o1:VObj) (env:List (Nat × AV)) (he:∀ p ∈ env,get env p.1=p.2) (H:List VObj) (hl:H.length=6) (h0:H[0]? = some o0) (h1:H[1]? = some o1)
 (h2:H[2]? = some ⟨2,52,1,bfL f⟩) (hS:H[5]? = some ⟨5,97,1,[nextA f,.ref ka ka 0 f.n,nilv,nilv,nilv,nilv,nilv,.ref kw kw 0 f.n]⟩)
 (ha:H[ka]? = some ⟨ka,53,1,List.replicate f.n nilv⟩) (hw:H[kw]? = some ⟨kw,4,1,(List.replicate f.n false).map B⟩) :
 ∃ H' nx',Wk ⟨env,H,6⟩ ⟨env,H',nx'⟩∧SB f ka kw o0 o1 (fun _=>[]) ⟨0,H',6,7,8,9,fun c=>10+c,fun _=>(0,0),fun _=>(0,0),nx'⟩:=by
 have w1:=virt_set (env:=env) (nx:=6) (j:=2) 100 1 (by decide) he hS (by simp) rfl
 obtain ⟨H1,e1⟩:∃ H1,H1=H.set 5 ⟨5,97,1,[nextA f,.ref ka ka 0 f.n,.ref 6 6 0 0,nilv,nilv,nilv,nilv,.ref kw kw 0 f.n]⟩++[⟨6,100,1,[]⟩]:=⟨_,rfl⟩
 rw[hl]at w1
 have w1':Wk ⟨env,H,6⟩ ⟨env,H1,7⟩:=by rw[e1];exact w1
 have l1:H1.length=7:=by rw[e1];simp[hl]
 have hS1:H1[5]? = some ⟨5,97,1,[nextA f,.ref ka ka 0 f.n,.ref 6 6 0 0,nilv,nilv,nilv,nilv,.ref kw kw 0 f.n]⟩:=by rw[e1,List.getElem?_append_left (by simp[hl]),List.getElem?_set_self (by omega)]
 have o1':∀ i,i<6→i≠5→H1[i]? = H[i]?:=fun i hi hne=>by rw[e1,List.getElem?_append_left (by simp[hl];omega),List.getElem?_set_ne (by omega)]
 have n1:H1[6]? = some ⟨6,100,1,[]⟩:=by rw[e1,List.getElem?_append_right (by simp[hl])];simp[hl]
 clear e1 w1
 have w2:=virt_set (env:=env) (nx:=7) (j:=3) 100 1 (by decide) he hS1 (by simp) rfl
 obtain ⟨H2,e2⟩:∃ H2,H2=H1.set 5 ⟨5,97,1,[nextA f,.ref ka ka 0 f.n,.ref 6 6 0 0,.ref 7 7 0 0,nilv,nilv,nilv,.ref kw kw 0 f.n]⟩++[⟨7,100,1,[]⟩]:=⟨_,rfl⟩
 rw[l1]at w2
 have w2':Wk ⟨env,H1,7⟩ ⟨env,H2,8⟩:=by rw[e2];exact w2
 have l2:H2.length=8:=by rw[e2];simp[l1]
 have hS2:H2[5]? = some ⟨5,97,1,[nextA f,.ref ka ka 0 f.n,.ref 6 6 0 0,.ref 7 7 0 0,nilv,nilv,nilv,.ref kw kw 0 f.n]⟩:=by rw[e2,List.getElem?_append_left (by simp[l1]),List.getElem?_set_self (by omega)]
 have o2':∀ i,i<7→i≠5→H2[i]? = H1[i]?:=fun i hi hne=>by rw[e2,List.getElem?_append_left (by simp[l1];omega),List.getElem?_set_ne (by omega)]
 have n2:H2[7]? = some ⟨7,100,1,[]⟩:=by rw[e2,List.getElem?_append_right (by simp[l1])];simp[l1]
 clear e2 w2
 have w3:=virt_set (env:=env) (nx:=8) (j:=4) 100 1 (by decide) he hS2 (by simp) rfl
 obtain ⟨H3,e3⟩:∃ H3,H3=H2.set 5 ⟨5,97,1,[nextA f,.ref ka ka 0 f.n,.ref 6 6 0 0,.ref 7 7 0 0,.ref 8 8 0 0,nilv,nilv,.ref kw kw 0 f.n]⟩++[⟨8,100,1,[]⟩]:=⟨_,rfl⟩
 rw[l2]at w3
 have w3':Wk ⟨env,H2,8⟩ ⟨env,H3,9⟩:=by rw[e3];exact w3
 have l3:H3.length=9:=by rw[e3];simp[l2]
 have hS3:H3[5]? = some ⟨5,97,1,[nextA f,.ref ka ka 0 f.n,.ref 6 6 0 0,.ref 7 7 0 0,.ref 8 8 0 0,nilv,nilv,.ref kw kw 0 f.n]⟩:=by rw[e3,List.getElem?_append_left (by simp[l2]),List.getElem?_set_self (by omega)]
 have o3':∀ i,i<8→i≠5→H3[i]? = H2[i]?:=fun i hi hne=>by rw[e3,List.getElem?_append_left (by simp[l2];omega),List.getElem?_set_ne (by omega)]
 have n3:H3[8]? = some ⟨8,100,1,[]⟩:=by rw[e3,List.getElem?_append_right (by simp[l2])];simp[l2]
 clear e3 w3
 have w4:=virt_set (env:=env) (nx:=9) (j:=5) 100 1 (by decide) he hS3 (by simp) rfl
 obtain ⟨H4,e4⟩:∃ H4,H4=H3.set 5 ⟨5,97,1,slB f ka kw 0 6 7 8 9⟩++[⟨9,100,1,[]⟩]:=⟨_,rfl⟩
 rw[l3]at w4
 have w4':Wk ⟨env,H3,9⟩ ⟨env,H4,10⟩:=by rw[e4];exact w4
 have l4:H4.length=10:=by rw[e4];simp[l3]
 have hS4:H4[5]? = some ⟨5,97,1,slB f ka kw 0 6 7 8 9⟩:=by rw[e4,List.getElem?_append_left (by simp[l3]),List.getElem?_set_self (by omega)]
 have o4':∀ i,i<9→i≠5→H4[i]? = H3[i]?:=fun i hi hne=>by rw[e4,List.getElem?_append_left (by simp[l3];omega),List.getElem?_set_ne (by omega)]
 have n4:H4[9]? = some ⟨9,100,1,[]⟩:=by rw[e4,List.getElem?_append_right (by simp[l3])];simp[l3]
 clear e4 w4
 have old:∀ i,i<6→i≠5→H4[i]? = H[i]?:=fun i hi hne=>by rw[o4' i (by omega) hne,o3' i (by omega) hne,o2' i (by omega) hne,o1' i hi hne]
 obtain ⟨H',hw',g1,g2,g3,g4⟩:=virt_cells f.n ka (by omega) env he H4 l4 (by rw[old ka (by omega) (by omega)];exact ha) f.n (Nat.le_refl _)
 refine ⟨H',_,(((w1'.trans w2').trans w3').trans w4').trans hw',?_⟩
 refine ⟨?_,?_,?_,?_,?_,fun c hc=>g4 c hc,?_,?_,?_,?_,fun c hc=>absurd hc (by simp),fun c hc=>absurd hc (by simp),?_,fun c hc=>absurd hc (by simp),fun c hc=>absurd hc (by simp),fun c hc=>absurd hc (by simp)⟩
 ·rw[g2 0 (by omega) (by omega),old 0 (by omega) (by omega)];exact h0
 ·rw[g2 1 (by omega) (by omega),old 1 (by omega) (by omega)];exact h1
 ·rw[g2 2 (by omega) (by omega),old 2 (by omega) (by omega)];exact h2
 ·rw[g2 5 (by omega) (by omega)];exact hS4
 ·rw[g3]
  congr 2
  refine List.ext_getElem (by simp) fun i q1 q2=>?_
  have:i<f.n:=by simpa using q1
  simp[this]
 ·rw[g2 6 (by omega) (by omega),o4' 6 (by omega) (by omega),o3' 6 (by omega) (by omega),o2' 6 (by omega) (by omega)];exact n1
 ·rw[g2 7 (by omega) (by omega),o4' 7 (by omega) (by omega),o3' 7 (by omega) (by omega)];exact n2
 ·rw[g2 8 (by omega) (by omega),o4' 8 (by omega) (by omega)];exact n3
 ·rw[g2 9 (by omega) (by omega)];exact n4
 ·rw[g2 kw (by omega) (by omega),old kw (by omega) (by omega)];exact hw
set_option maxRecDepth 10000
open Go.V
structure RK where
 kl:Nat
 sl:Nat
 k1:Nat
 s1:Nat
 k2:Nat
 s2:Nat
 g1:Nat→Nat × Nat
 g2:Nat→Nat × Nat
structure RS (f:BF) (H:List VObj) (q:RK) (I O:List (List Bool)):Prop where
 fb:H[0]? = some ⟨0,52,1,bfL f⟩
 rl:H[1]? = some ⟨1,63,1,[nilv,nilv]⟩
 lv:H[q.kl]? = some ⟨q.sl,63,1,[.ref q.k1 q.s1 0 f.n,.ref q.k2 q.s2 0 f.n]⟩
 mi:MT f.n f.r H q.k1 q.s1 q.g1 I
 mo:MT f.n f.r H q.k2 q.s2 q.g2 O
 dio:∀ b<f.n,∀ c<f.n,(q.g1 b).1≠(q.g2 c).1
section
variable {f:BF} {H:List VObj} {q:RK} {I O:List (List Bool)}
theorem RS.app (h:RS f H q I O) (R:List VObj):RS f (H++R) q I O:=⟨app_old h.fb R,app_old h.rl R,app_old h.lv R,h.mi.app R,h.mo.app R,h.dio⟩
theorem RS.setO (h:RS f H q I O) (hl:O.length=f.n) {b:Nat} (hb:b<f.n) (l:List Bool):RS f (H.set (q.g2 b).1 ⟨(q.g2 b).2,4,1,l.map B⟩) q I (O.set b l):=by
 have k:KeepT [4] H (H.set (q.g2 b).1 ⟨(q.g2 b).2,4,1,l.map B⟩):=KeepT.set (h.mo.r b hb) (by simp)
 have hO:b<O.length:=by omega
 refine ⟨k _ _ h.fb (by simp),k _ _ h.rl (by simp),k _ _ h.lv (by simp),⟨k _ _ h.mi.l (by simp),fun c hc=>?_,h.mi.d⟩,⟨k _ _ h.mo.l (by simp),fun c hc=>?_,h.mo.d⟩,h.dio⟩
 ·rw[set_ne (fun e=>h.dio c hc b hb e.symm)];exact h.mi.r c hc
 ·rw[row_set hO]
  by_cases e:b=c
  ·subst e;rw[if_pos rfl];exact set_get (h.mo.r b hb)
  ·rw[if_neg e,set_ne (fun g=>e (h.mo.d b hb c hc g))];exact h.mo.r c hc
theorem RS.setI (h:RS f H q I O) (hl:I.length=f.n) {b:Nat} (hb:b<f.n) (l:List Bool):RS f (H.set (q.g1 b).1 ⟨(q.g1 b).2,4,1,l.map B⟩) q (I.set b l) O:=by
 have k:KeepT [4] H (H.set (q.g1 b).1 ⟨(q.g1 b).2,4,1,l.map B⟩):=KeepT.set (h.mi.r b hb) (by simp)
 have hI:b<I.length:=by omega
 refine ⟨k _ _ h.fb (by simp),k _ _ h.rl (by simp),k _ _ h.lv (by simp),⟨k _ _ h.mi.l (by simp),fun c hc=>?_,h.mi.d⟩,⟨k _ _ h.mo.l (by simp),fun c hc=>?_,h.mo.d⟩,h.dio⟩
 ·rw[row_set hI]
  by_cases e:b=c
  ·subst e;rw[if_pos rfl];exact set_get (h.mi.r b hb)
  ·rw[if_neg e,set_ne (fun g=>e (h.mi.d b hb c hc g))];exact h.mi.r c hc
 ·rw[set_ne (fun e=>h.dio b hb c hc e)];exact h.mo.r c hc
end
theorem MT.keep {n r:Nat} {H H':List VObj} {k s:Nat} {g:Nat→Nat × Nat} {m:List (List Bool)} {ts:List Nat} (h:MT n r H k s g m) (kp:KeepT ts H H') (h1:67 ∉ ts) (h2:4 ∉ ts):MT n r H' k s g m :=
 ⟨kp _ _ h.l h1,fun b hb=>kp _ _ (h.r b hb) h2,h.d⟩
def _root_.Go.V.VC.tl:VC→VC
 | .seq _ y=>y
 | x=>x
def Kept (H H':List VObj):Prop:=∀ (i:Nat) (ob:VObj),H[i]? = some ob→H'[i]? = some ob
theorem Kept.app (H R:List VObj):Kept H (H++R):=fun _ _ h=>app_old h R
theorem Kept.trans {A B C:List VObj} (h:Kept A B) (k:Kept B C):Kept A C:=fun i ob ho=>k i ob (h i ob ho)
theorem MT.kept {n r:Nat} {H H':List VObj} {k s:Nat} {g:Nat→Nat × Nat} {m:List (List Bool)} (h:MT n r H k s g m) (kp:Kept H H'):MT n r H' k s g m:=⟨kp _ _ h.l,fun b hb=>kp _ _ (h.r b hb),h.d⟩
theorem MT.lt {n r:Nat} {H:List VObj} {k s:Nat} {g:Nat→Nat × Nat} {m:List (List Bool)} (h:MT n r H k s g m) {b:Nat} (hb:b<n):(g b).1<H.length:=(List.getElem?_eq_some_iff.1 (h.r b hb)).1
theorem MT.lv {n r:Nat} {H:List VObj} {k s kl:Nat} {g:Nat→Nat × Nat} {m:List (List Bool)} {o o':VObj} (h:MT n r H k s g m) (ho:H[kl]? = some o) (ht:o.ty=63):MT n r (H.set kl o') k s g m :=
 h.keep (ts:=[63]) (KeepT.set ho (by rw[ht];simp)) (by simp) (by simp)
set_option maxRecDepth 10000
open Go.V
structure WQ2 where
 k:Nat
 H:List VObj
 wv:AV
 nx:Nat
theorem SB.HS {f:BF} {ka kw:Nat} {o0 o1:VObj} {x:BQ} (h:SB f ka kw o0 o1 (predJ f f.n 0) x) (hb:x.b=f.n) :
 HS f x.H ⟨5,5,8,x.s8,9,x.s9,kw,kw,ka,ka,6,x.s6,7,x.s7,fun c=>(10+c,x.sp c),x.ri,x.ro⟩ nilv ⟨List.replicate f.n (List.replicate f.r false),List.replicate f.n (List.replicate f.r false),[]⟩:=by
 have hrep:∀ b,b<f.n→(List.replicate f.n (List.replicate f.r false)).getD b []=List.replicate f.r false:=fun b hb=>by simp[List.getD,hb]
 have htk:f.bks.take f.n=f.bks:=List.take_of_length_le (Nat.le_refl _)
 have hpl:predJ f f.n 0=predL f:=funext fun c=>predJ_all f c
 have hso:=h.so
 have h6:=h.r6
 have h7:=h.r7
 have h8:=h.r8
 have h9:=h.r9
 rw[hb]at hso h6 h7 h8 h9
 rw[htk]at h6 h7
 have hah:=h.ah
 have hpr:=h.pr
 rw[hpl]at hah hpr
 have hfl:flags f.n []=List.replicate f.n false:=gB_ext (by simp[flags]) fun v hv=>by
  have hv':v<f.n:=by simpa [flags] using hv
  rw[flags_get hv',gB_rep];simp
 exact ⟨hso,h8,h9,fun b hb'=>by rw[hrep b hb'];exact h.ri b (by omega),fun b hb'=>by rw[hrep b hb'];exact h.ro b (by omega),by rw[hfl];exact h.w,.inl ⟨rfl,rfl⟩,hah,h6,h7,hpr,fun b hb' c hc=>h.dI b (by omega) c (by omega),fun b hb' c hc=>h.dO b (by omega) c (by omega),fun b hb' c hc=>h.dIO b (by omega) c (by omega)⟩
structure PQ where
 j:Nat
 H:List VObj
 sp:Nat→Nat
 nx:Nat
theorem lt_succ' {a n:Nat} (h:a<n):(a<n+1)=True:=eq_true (by omega)
theorem app_at {α:Type} {H R:List α} {i:Nat} (h:i<H.length):(H++R)[i]? = H[i]?:=List.getElem?_append_left h
theorem app_end {α:Type} {H:List α} {a:α}:(H++[a])[H.length]? = some a:=by simp
theorem app_endn {α:Type} {H:List α} {a:α} {k:Nat} (h:k=H.length):(H++[a])[k]? = some a:=by subst h;simp
theorem set_at {α:Type} {H:List α} {a:α} {i:Nat} (h:i<H.length):(H.set i a)[i]? = some a:=by simp[h]
theorem set_off {α:Type} {H:List α} {a:α} {i j:Nat} (h:(i=j)=False):(H.set i a)[j]? = H[j]?:=List.getElem?_set_ne (fun e=>by rw[e]at h;simp at h)
theorem push_at {H:List VObj} {t x y a:VObj} {k i:Nat} (h:H[i]? = some a) (hk:k≠i) (h5:5≠i):(((H++[t]).set k x).set 5 y)[i]? = some a:=by rw[set_ne h5,set_ne hk];exact app_old h _
theorem push_5 {H:List VObj} {t x y a:VObj} {k:Nat} (h:H[5]? = some a):(((H++[t]).set k x).set 5 y)[5]? = some y:=by
 have:=(List.getElem?_eq_some_iff.1 h).1
 rw[List.getElem?_set_self (by simp;omega)]
theorem push_k {H:List VObj} {t x y a:VObj} {k:Nat} (h:H[k]? = some a) (h5:5≠k):(((H++[t]).set k x).set 5 y)[k]? = some x:=by
 rw[set_ne h5];exact set_get (app_old h _)
theorem push_keep {H:List VObj} {t x y a z:VObj} {k:Nat} (h:H[k]? = some a) (h5:H[5]? = some z) (ha:a.ty=100) (hz:z.ty=97):KeepT [100,97] H (((H++[t]).set k x).set 5 y):=fun i ob hi ho=>by
 have f1:k≠i:=fun e=>by subst e;rw[h]at hi;cases hi;exact ho (by simp[ha])
 have f2:5≠i:=fun e=>by subst e;rw[h5]at hi;cases hi;exact ho (by simp[hz])
 exact push_at hi f1 f2
theorem rowsL_succ (n r:Nat) (ri:Nat→Nat × Nat) (q:Nat × Nat):rowsL n r ri++[AV.ref q.1 q.2 0 (rl r)]=rowsL (n+1) r (fun c=>if c=n then q else ri c):=by
 unfold rowsL
 rw[List.range_succ,List.map_append]
 congr 1
 ·refine List.map_congr_left fun c hc=>?_
  have:c≠n:=by have:=List.mem_range.1 hc;omega
  simp only[if_neg this]
 ·simp
theorem SB.row {f:BF} {ka kw:Nat} {o0 o1:VObj} {pl:Nat→List Nat} {x:BQ} (h:SB f ka kw o0 o1 pl x) (t0:o0.ty=52) (t1:o1.ty=63) (hb:x.b<f.n)
 {H4 H6 H7:List VObj} {y1 u1 u2 a5:VObj} {s6' s7' s8' s9' n4 n6 nx':Nat}
 (k4:KeepT [100,97] x.H H4) (g5:H4[5]? = some a5) (g5t:a5.ty=97)
 (g6:H4[6]? = some ⟨s6',100,1,(f.bks.take (x.b+1)).map fun b=>.imm 1 (rowC64 (readL b f.r))⟩)
 (g7:H4[7]? = some ⟨s7',100,1,(f.bks.take (x.b+1)).map fun b=>.imm 1 (rowC64 (setL b f.r))⟩)
 (g8:H4[8]? = some ⟨x.s8,100,1,rowsL x.b f.r x.ri⟩) (g9:H4[9]? = some ⟨x.s9,100,1,rowsL x.b f.r x.ro⟩)
 (y1t:y1.ty=97)
 (e6:H6=(((H4++[VObj.mk n4 130 1 (rowC64 (List.replicate f.r false))])++[u1]).set 8 (VObj.mk s8' 100 1 (rowsL x.b f.r x.ri++[AV.ref H4.length n4 0 (rl f.r)]))).set 5 y1)
 (e7:H7=(((H6++[VObj.mk n6 130 1 (rowC64 (List.replicate f.r false))])++[u2]).set 9 (VObj.mk s9' 100 1 (rowsL x.b f.r x.ro++[AV.ref H6.length n6 0 (rl f.r)]))).set 5 (VObj.mk 5 97 1 (slB f ka kw (x.b+1) s6' s7' s8' s9'))) :
 SB f ka kw o0 o1 pl ⟨x.b+1,H7,s6',s7',s8',s9',x.sp,fun c=>if c=x.b then (H4.length,n4) else x.ri c,fun c=>if c=x.b then (H6.length,n6) else x.ro c,nx'⟩:=by
 have k5:KeepT [100,97] (H4++[⟨n4,130,1,rowC64 (List.replicate f.r false)⟩]) H6:=by
  rw[e6];exact push_keep (app_old g8 _) (app_old g5 _) rfl g5t
 have k6:=(KeepT.app [100,97] H4 [⟨n4,130,1,rowC64 (List.replicate f.r false)⟩]).trans k5
 have j5:H6[5]? = some y1:=by rw[e6];exact push_5 (app_old g5 _)
 have j6:H6[6]? = some _:=(congrArg (fun l:List VObj=>l[(6:Nat)]?) e6).trans (push_at (app_old g6 _) (by decide) (by decide))
 have j7:H6[7]? = some _:=(congrArg (fun l:List VObj=>l[(7:Nat)]?) e6).trans (push_at (app_old g7 _) (by decide) (by decide))
 have j8:H6[8]? = some _:=(congrArg (fun l:List VObj=>l[(8:Nat)]?) e6).trans (push_k (app_old g8 _) (by decide))
 have j9:H6[9]? = some _:=(congrArg (fun l:List VObj=>l[(9:Nat)]?) e6).trans (push_at (app_old g9 _) (by decide) (by decide))
 have k7':KeepT [100,97] (H6++[⟨n6,130,1,rowC64 (List.replicate f.r false)⟩]) H7:=by
  rw[e7];exact push_keep (app_old j9 _) (app_old j5 _) rfl y1t
 have k7:=(KeepT.app [100,97] H6 [⟨n6,130,1,rowC64 (List.replicate f.r false)⟩]).trans k7'
 have k:=(k4.trans k6).trans k7
 have li:∀ c<x.b,(x.ri c).1<H4.length:=fun c hc=>(List.getElem?_eq_some_iff.1 (k4 _ _ (h.ri c hc) (by simp))).1
 have lo:∀ c<x.b,(x.ro c).1<H4.length:=fun c hc=>(List.getElem?_eq_some_iff.1 (k4 _ _ (h.ro c hc) (by simp))).1
 have l46:H4.length<H6.length:=by rw[e6];simp
 refine ⟨k _ _ h.h0 (by rw[t0];simp),k _ _ h.h1 (by rw[t1];simp),k _ _ h.h2 (by simp),?_,k _ _ h.ah (by simp),fun c hc=>k _ _ (h.pr c hc) (by simp),?_,?_,?_,?_,fun c hc=>?_,fun c hc=>?_,k _ _ h.w (by simp),fun c hc d hd=>?_,fun c hc d hd=>?_,fun c hc d hd=>?_⟩
 ·rw[e7];exact push_5 (app_old j5 _)
 ·rw[e7];exact push_at (app_old j6 _) (by decide) (by decide)
 ·rw[e7];exact push_at (app_old j7 _) (by decide) (by decide)
 ·rw[← rowsL_succ,e7];exact push_at (app_old j8 _) (by decide) (by decide)
 ·rw[← rowsL_succ,e7];exact push_k (app_old j9 _) (by decide)
 ·simp only at hc ⊢
  by_cases e:c=x.b
  ·rw[if_pos e];exact k7 _ _ (k5 _ _ app_end (by simp)) (by simp)
  ·rw[if_neg e];exact k _ _ (h.ri c (by omega)) (by simp)
 ·simp only at hc ⊢
  by_cases e:c=x.b
  ·rw[if_pos e];exact k7' _ _ app_end (by simp)
  ·rw[if_neg e];exact k _ _ (h.ro c (by omega)) (by simp)
 ·simp only at hc hd ⊢
  by_cases e:c=x.b
  ·by_cases e2:d=x.b
   ·intro _;omega
   ·rw[if_pos e,if_neg e2];intro he;have:=li d (by omega);simp only at he;omega
  ·by_cases e2:d=x.b
   ·rw[if_neg e,if_pos e2];intro he;have:=li c (by omega);simp only at he;omega
   ·rw[if_neg e,if_neg e2];exact h.dI c (by omega) d (by omega)
 ·simp only at hc hd ⊢
  by_cases e:c=x.b
  ·by_cases e2:d=x.b
   ·intro _;omega
   ·rw[if_pos e,if_neg e2];intro he;have:=lo d (by omega);simp only at he;omega
  ·by_cases e2:d=x.b
   ·rw[if_neg e,if_pos e2];intro he;have:=lo c (by omega);simp only at he;omega
   ·rw[if_neg e,if_neg e2];exact h.dO c (by omega) d (by omega)
 ·simp only at hc hd ⊢
  by_cases e:c=x.b
  ·by_cases e2:d=x.b
   ·rw[if_pos e,if_pos e2];intro he;simp only at he;omega
   ·rw[if_pos e,if_neg e2];intro he;have:=lo d (by omega);simp only at he;omega
  ·by_cases e2:d=x.b
   ·rw[if_neg e,if_pos e2];intro he;have:=li c (by omega);simp only at he;omega
   ·rw[if_neg e,if_neg e2];exact h.dIO c (by omega) d (by omega)
theorem takeL_succ {f:BF} {b:Nat} (hb:b<f.n) (g:Bk→AV):List.take b (List.map g (List.take b f.bks))++[g (f.bk b)]=(f.bks.take (b+1)).map g:=by
 have:f.bks[b]? = some (f.bk b):=by
  have h:b<f.bks.length:=hb
  unfold BF.bk;simp[List.getD,h]
 rw[List.take_of_length_le (by simp;omega),List.take_add_one,this]
 simp
theorem solver_tail (f:BF) (hf:Fine f) (hr:f.r≤64) (ka kw:Nat) (hk:(ka=3∧kw=4)∨(ka=4∧kw=3)) (o0 o1:VObj) (t0:o0.ty=52) (t1:o1.ty=63) (env:List (Nat × AV)) (he1:get env 1 = .ptr 2 2 0) (he3:get env 3=I f.n) (he4:get env 4 = .ptr 5 5 0)
 (H:List VObj) (hl:H.length=6) (h0:H[0]? = some o0) (h1:H[1]? = some o1)
 (h2:H[2]? = some ⟨2,52,1,bfL f⟩) (hS:H[5]? = some ⟨5,97,1,[nextA f,.ref ka ka 0 f.n,nilv,nilv,nilv,nilv,nilv,.ref kw kw 0 f.n]⟩)
 (ha:H[ka]? = some ⟨ka,53,1,List.replicate f.n nilv⟩) (hw:H[kw]? = some ⟨kw,4,1,(List.replicate f.n false).map B⟩) (C:AV→List VObj→Nat→Prop)
 (hC:∀ q H nx wv,HS f H q wv (beginS f)→H[0]? = some o0→H[1]? = some o1→C (.ptr q.kS q.sS 0) H nx):VW Try.prog c_live_solverOf.tl.tl.tl (retQ Try.prog [VR.tmp 2] C) ⟨env,H,6⟩:=by
 have hr0:=hf.r0
 have hregs:f.regs=(f.r:Int):=by unfold BF.r;omega
 have hn5:f.n≤500:=hf.b1
 have hlen:f.bks.length=f.n:=rfl
 have hmx:(200000:Nat)≤maxLen:=by decide
 simp only[go_sem,c_live_solverOf,VC.tl,he1,he3,he4,hS,hlen]
 obtain ⟨H',nx',hwk,hsb⟩:=begin_virt f ka kw hk o0 o1 [(1,.ptr 2 2 0),(3,I f.n),(4,.ptr 5 5 0),(26,nextA f),(27,I f.n),(28,I ((0:Nat):Int))] (by simp[get_cons]) H hl h0 h1 h2 hS ha hw
 refine VW_loop (fun x:BQ=>⟨[(1,.ptr 2 2 0),(3,I f.n),(4,.ptr 5 5 0),(26,nextA f),(27,I f.n),(28,I x.b)],x.H,x.nx⟩) (fun x=>x.b≤f.n∧SB f ka kw o0 o1 (predJ f x.b 0) x) (fun x=>f.n-x.b) ⟨0,H',6,7,8,9,fun c=>10+c,fun _=>(0,0),fun _=>(0,0),nx'⟩
  (by refine Wk.trans ?_ hwk;exact Wk.mk (by simp[get_cons,he1,he3,he4]) ⟨[],by simp⟩ (Nat.le_refl _)) ⟨Nat.zero_le _,hsb⟩ ?_
 clear hsb hwk h0 h1 h2 hS ha hw hl
 rintro ⟨b,H,s6,s7,s8,s9,sp,ri,ro,nx⟩ ⟨hb,h⟩
 simp only at hb h
 have hka:ka=3∨ka=4:=by omega
 have hkw:kw=3∨kw=4:=by omega
 have hne:ka≠kw:=by omega
 by_cases hlt:b<f.n
 ·have hbk:f.bks.getD b default=f.bk b:=rfl
  have hnl:=nxt_len (f.bk b)
  have hto:=hf.to _ (BF.mem hlt)
  simp only[go_sem,hbk,hlen,eq_true (show (b:Int)<f.n by omega)]
  repeat ((with_reducible refine And.intro ?_ ?_);· omega)
  refine VW_loop (fun y:PQ=>⟨[(1,.ptr 2 2 0),(3,I f.n),(4,.ptr 5 5 0),(26,nextA f),(27,I f.n),(28,I b),(5,I b),(33,ints (nxt (f.bk b))),(34,I (nxt (f.bk b)).length),(35,I y.j)],y.H,y.nx⟩)
   (fun y=>y.j≤(nxt (f.bk b)).length∧SB f ka kw o0 o1 (predJ f b y.j) ⟨b,y.H,s6,s7,s8,s9,y.sp,ri,ro,y.nx⟩) (fun y=>(nxt (f.bk b)).length-y.j) ⟨0,H,sp,nx⟩ (Wk.mk (by simp[get_cons]) ⟨[],by simp⟩ (Nat.le_refl _)) ⟨Nat.zero_le _,h⟩ ?_
  clear h
  rintro ⟨j,H,sp,nx⟩ ⟨hj,h⟩
  simp only at hj h
  have hso:=h.so
  have hah:=h.ah
  simp only at hso hah
  have l5:=lt_of hso
  have lka:=lt_of hah
  by_cases hl2:j<(nxt (f.bk b)).length
  ·have hkk:=hto _ (mem_getD hl2)
   have hps:=fun c=>predJ_step f b c hl2
   obtain ⟨k,hkd⟩:∃ k,k=((nxt (f.bk b)).getD j default).toNat:=⟨_,rfl⟩
   have hki:(nxt (f.bk b)).getD j default=(k:Int):=by omega
   have hkn:k<f.n:=by unfold BF.n;omega
   have hpr:=h.pr k hkn
   have hpl:=predJ_len f b j k
   simp only at hpr
   have lk:=lt_of hpr
   have m1:=eq_true (show 5<H.length+1 by have:=of_eq_true l5;omega)
   have m2:=eq_true (show ka<H.length+1 by have:=of_eq_true lka;omega)
   have m3:=eq_true (show 10+k<H.length+1 by have:=of_eq_true lk;omega)
   have f1:(10+k=ka)=False:=eq_false (by omega)
   have f2:(10+k=5)=False:=eq_false (by omega)
   have f3:(5=ka)=False:=eq_false (by omega)
   have f4:(ka=5)=False:=eq_false (by omega)
   have f5:(ka=10+k)=False:=eq_false (by omega)
   simp only[go_sem,hso,hah,hpr,hki,cellT_ah,eq_true (show (j:Int)<(nxt (f.bk b)).length by omega),List.getElem?_set,List.getElem?_append,List.length_set,List.length_append,l5,lka,lk,m1,m2,m3,f1,f2,f3,f4,f5,Nat.lt_irrefl,Nat.sub_self]
   repeat' (with_reducible apply And.intro)
   all_goals first | omega | exact ⟨rfl,rfl,rfl⟩ | (simp only[List.length_range];omega) | skip
   all_goals
    have hpn:(fun c=>if c=k then predJ f b j k++[b] else predJ f b j c)=predJ f b (j+1):=by
     funext c
     rw[hps c,hki,Int.toNat_natCast]
     by_cases e:c=k
     ·subst e;simp
     ·rw[if_neg e,if_neg (fun h=>e h.symm)]
    have hadd:=h.add hka hkw hne t0 t1 hkn (predJ f b j k++[b]) (nx+1) ⟨nx,3,1,[I b]⟩ (nx+1+1)
    rw[hpn]at hadd
    refine ⟨⟨j+1,((H++[(⟨nx,3,1,[I b]⟩:VObj)]).set (10+k) (⟨nx+1,3,1,natsL (predJ f b j k++[b])⟩:VObj)).set ka (⟨ka,53,1,ahC f.n (fun c=>if c=k then nx+1 else sp c) (predJ f b (j+1))⟩:VObj),fun c=>if c=k then nx+1 else sp c,nx+1+1⟩,⟨by show j+1≤_;omega,hadd⟩,by show _-(j+1)<_-j;omega,?_⟩
    rw[ahC_set hkn (predJ f b j k++[b]) (by simp),hpn,show List.take (predJ f b j k).length (natsL (predJ f b j k))++[I (b:Int)]=natsL (predJ f b j k++[b]) by simp[natsL,List.take_of_length_le]]
    rw[i64_in (by omega) (by omega)]
    exact Wk.mk (by simp[get_cons]) ⟨[],by simp⟩ (Nat.le_refl _)
  ·have hje:j=(nxt (f.bk b)).length:=by omega
   subst hje
   rw[show predJ f b (nxt (f.bk b)).length=predJ f (b+1) 0 from funext fun c=>predJ_next f b c]at h
   have h6:=h.r6
   have h7:=h.r7
   have h8:=h.r8
   have h9:=h.r9
   have h2:=h.h2
   simp only at h6 h7 h8 h9 h2
   have l2:=lt_of h2
   have l6:=lt_of h6
   have l7:=lt_of h7
   have l8:=lt_of h8
   have l9:=lt_of h9
   simp only[go_sem,h2,hso,hbk,hlen,eq_false (show ¬ ((nxt (f.bk b)).length:Int)<(nxt (f.bk b)).length by omega)]
   have hbm:=BF.mem hlt
   have hro:=hf.v _ hbm
   have hrt:=hf.ins _ hbm
   rw[hregs]at hro hrt
   refine ⟨hlt,ECall.of (touch_c (f.bk b) f.r hr (by have:=hf.len _ hbm;omega) hro hrt) (by rw[hregs];exact SleL.pure rfl) ⟨_,fun _=>Iff.rfl⟩ fun x hx=>?_⟩
   subst hx
   have e56:(5=6)=False:=by simp
   have e57:(5=7)=False:=by simp
   have e58:(5=8)=False:=by simp
   have e59:(5=9)=False:=by simp
   have e65:(6=5)=False:=by simp
   have e75:(7=5)=False:=by simp
   have e76:(7=6)=False:=by simp
   have e67:(6=7)=False:=by simp
   simp only[go_sem,hso,h6,h7,h8,h9,h2,List.length_set,List.length_append,l2,l5,l6,l7,l8,l9,lt_succ',app_at,app_end,app_endn,set_at,set_off,Nat.zero_add,e56,e57,e58,e59,e65,e75,e76,e67,List.length_take,hlen]
   repeat ((with_reducible refine And.intro ?_ ?_);· first | omega | exact ⟨rfl,rfl,rfl⟩)
   obtain ⟨H4,e4⟩:∃ H4,H4=(((((H++[((VObj.mk (nx) 100 1 ([AV.imm 1 (rowC64 (readL (f.bk b) f.r))])))]).set 6 (VObj.mk (nx+1) 100 1 (List.take b (List.map (fun b=>AV.imm 1 (rowC64 (readL b f.r))) (List.take b f.bks))++[AV.imm 1 (rowC64 (readL (f.bk b) f.r))]))).set 5 (VObj.mk (5) 97 1 ([nextA f,AV.ref ka ka 0 f.n,AV.ref 6 (nx+1) 0 (b+1),AV.ref 7 s7 0 b,AV.ref 8 s8 0 b,AV.ref 9 s9 0 b,nilv,AV.ref kw kw 0 f.n]))++[(VObj.mk (nx+1+1) 100 1 ([AV.imm 1 (rowC64 (setL (f.bk b) f.r))]))]).set 7 (VObj.mk (nx+1+1+1) 100 1 (List.take b (List.map (fun b=>AV.imm 1 (rowC64 (setL b f.r))) (List.take b f.bks))++[AV.imm 1 (rowC64 (setL (f.bk b) f.r))]))).set 5 (VObj.mk (5) 97 1 ([nextA f,AV.ref ka ka 0 f.n,AV.ref 6 (nx+1) 0 (b+1),AV.ref 7 (nx+1+1+1) 0 (b+1),AV.ref 8 s8 0 b,AV.ref 9 s9 0 b,nilv,AV.ref kw kw 0 f.n]))):=⟨_,rfl⟩
   rw[← e4]
   have k4:KeepT [100,97] H H4:=by
    rw[e4]
    exact (push_keep h6 hso rfl rfl).trans (push_keep (push_at h7 (by decide) (by decide)) (push_5 hso) rfl rfl)
   have h45:H4[5]? = some ⟨5,97,1,[nextA f,AV.ref ka ka 0 f.n,AV.ref 6 (nx+1) 0 (b+1),AV.ref 7 (nx+1+1+1) 0 (b+1),AV.ref 8 s8 0 b,AV.ref 9 s9 0 b,nilv,AV.ref kw kw 0 f.n]⟩:=by rw[e4];exact push_5 (push_5 hso)
   have h42:H4[2]? = some ⟨2,52,1,bfL f⟩:=k4 _ _ h2 (by simp)
   have h48:H4[8]? = some ⟨s8,100,1,rowsL b f.r ri⟩:=by rw[e4];exact push_at (push_at h8 (by decide) (by decide)) (by decide) (by decide)
   have h49:H4[9]? = some ⟨s9,100,1,rowsL b f.r ro⟩:=by rw[e4];exact push_at (push_at h9 (by decide) (by decide)) (by decide) (by decide)
   have l45:=lt_of h45
   have l42:=lt_of h42
   have l48:=lt_of h48
   have l49:=lt_of h49
   have e85:(8=5)=False:=by simp
   have e89:(8=9)=False:=by simp
   have e98:(9=8)=False:=by simp
   have e95:(9=5)=False:=by simp
   simp only[go_sem,h45,h42,h48,h49,List.length_set,List.length_append,l45,l42,l48,l49,lt_succ',app_at,app_end,app_endn,set_at,set_off,e85,e89,e98,e95,Nat.zero_add,e58,e59]
   rw[← e4,hregs]
   refine ⟨?_,?_⟩
   all_goals
    unfold VCallT
    refine rowOf_v f.r hr _ _ _ ?_
    refine ⟨?_,?_⟩
    ·simp only[go_sem,List.length_set,List.length_append,app_at,app_end,app_endn,set_at,set_off,Nat.zero_add]
     rw[← e4]
     exact stab_app _ _
    simp only[go_sem,h45,h42,h48,h49,List.length_set,List.length_append,l45,l42,l48,l49,lt_succ',app_at,app_end,app_endn,set_at,set_off,e85,e89,e98,e95,Nat.zero_add,e58,e59]
    repeat ((with_reducible refine And.intro ?_ ?_);· omega)
    obtain ⟨n4,en4⟩:∃ n4,n4=nx+1+1+1+1:=⟨_,rfl⟩
    rw[← en4]
    have htk:List.take b (rowsL b f.r ri)=rowsL b f.r ri:=List.take_of_length_le (by simp)
    have htk2:List.take b (rowsL b f.r ro)=rowsL b f.r ro:=List.take_of_length_le (by simp)
    rw[htk]
    obtain ⟨H6,e6⟩:∃ H6,H6=(((H4++[VObj.mk n4 130 1 (rowC64 (List.replicate f.r false))])++[VObj.mk (n4+1) 100 1 [AV.ref H4.length n4 0 (rl f.r)]]).set 8 (VObj.mk (n4+1+1) 100 1 (rowsL b f.r ri++[AV.ref H4.length n4 0 (rl f.r)]))).set 5 (VObj.mk 5 97 1 [nextA f,AV.ref ka ka 0 f.n,AV.ref 6 (nx+1) 0 (b+1),AV.ref 7 (nx+1+1+1) 0 (b+1),AV.ref 8 (n4+1+1) 0 (b+1),AV.ref 9 s9 0 b,nilv,AV.ref kw kw 0 f.n]):=⟨_,rfl⟩
    rw[← e6]
    have k64:KeepT [100,97] H4 H6:=by
     rw[e6];exact (KeepT.app _ _ _).trans (push_keep (app_old h48 _) (app_old h45 _) rfl rfl)
    have h65:H6[5]? = some _:=(congrArg (fun l:List VObj=>l[(5:Nat)]?) e6).trans (push_5 (app_old h45 _))
    have h62:=k64 _ _ h42 (by simp)
    have h69:H6[9]? = some _:=(congrArg (fun l:List VObj=>l[(9:Nat)]?) e6).trans (push_at (app_old h49 _) (by decide) (by decide))
    have l65:=lt_of h65
    have l62:=lt_of h62
    have l69:=lt_of h69
    simp only[go_sem,h65,h62,h69,List.length_set,List.length_append,l65,l62,l69,lt_succ',app_at,app_end,app_endn,set_at,set_off,e89,e98,e95,Nat.zero_add,e59]
    rw[htk,← e6,hregs]
    refine ⟨?_,?_⟩
    all_goals
     unfold VCallT
     refine rowOf_v f.r hr _ _ _ ?_
     refine ⟨?_,?_⟩
     ·simp only[go_sem,List.length_set,List.length_append,app_at,app_end,app_endn,set_at,set_off,Nat.zero_add]
      rw[htk,← e6]
      exact stab_app _ _
     simp only[go_sem,h65,h62,h69,List.length_set,List.length_append,l65,l62,l69,lt_succ',app_at,app_end,app_endn,set_at,set_off,e89,e98,e95,Nat.zero_add,e59]
     repeat ((with_reducible refine And.intro ?_ ?_);· omega)
     rw[htk2]
     have g6:H4[6]? = some ⟨nx+1,100,1,(f.bks.take (b+1)).map fun b=>.imm 1 (rowC64 (readL b f.r))⟩:=by
      rw[← takeL_succ hlt (fun b=>.imm 1 (rowC64 (readL b f.r))),e4]
      exact push_at (push_k h6 (by decide)) (by decide) (by decide)
     have g7:H4[7]? = some ⟨nx+1+1+1,100,1,(f.bks.take (b+1)).map fun b=>.imm 1 (rowC64 (setL b f.r))⟩:=by
      rw[← takeL_succ hlt (fun b=>.imm 1 (rowC64 (setL b f.r))),e4]
      exact push_k (push_at h7 (by decide) (by decide)) (by decide)
     have hrow:=fun nx' H7 e7=>h.row (H7:=H7) (u2:=VObj.mk (n4+1+1+1+1) 100 1 [AV.ref H6.length (n4+1+1+1) 0 (rl f.r)]) (s9':=n4+1+1+1+1+1) (n6:=n4+1+1+1) (nx':=nx') t0 t1 hlt k4 h45 rfl g6 g7 h48 h49 rfl e6 e7
     refine ⟨⟨b+1,_,nx+1,nx+1+1+1,n4+1+1,n4+1+1+1+1+1,sp,_,_,_⟩,⟨by show b+1≤_;omega,hrow (n4+1+1+1+1+1+1) _ rfl⟩,by show f.n-(b+1)<f.n-b;omega,?_⟩
     rw[i64_in (by omega) (by omega)]
     exact Wk.mk (by simp[get_cons]) ⟨[],by simp⟩ (Nat.le_refl _)
 ·have hbe:b=f.n:=by omega
  subst hbe
  have hs:=h.HS rfl
  have hg0:=h.h0
  have hg1:=h.h1
  simp only at hs hg0 hg1
  obtain ⟨q,hq⟩:∃ q:Ids,q=⟨5,5,8,s8,9,s9,kw,kw,ka,ka,6,s6,7,s7,fun c=>(10+c,sp c),ri,ro⟩:=⟨_,rfl⟩
  rw[← hq]at hs
  have hqS:AV.ptr 5 5 0 = .ptr q.kS q.sS 0:=by rw[hq]
  clear hq h
  simp only[go_sem,hlen,eq_false (show ¬ ((f.n:Nat):Int)<f.n by omega),hqS]
  refine VW_loop (fun y:WQ2=>⟨[(4,.ptr q.kS q.sS 0),(112,I f.n),(113,I y.k)],y.H,y.nx⟩) (fun y=>y.k≤f.n∧HS f y.H q y.wv ⟨List.replicate f.n (List.replicate f.r false),List.replicate f.n (List.replicate f.r false),List.range y.k⟩∧y.H[0]? = some o0∧y.H[1]? = some o1) (fun y=>f.n-y.k) ⟨0,H,nilv,nx⟩ (Wk.mk (by simp[get_cons]) ⟨[],by simp⟩ (Nat.le_refl _)) ⟨Nat.zero_le _,hs,hg0,hg1⟩ ?_
  clear hs hg0 hg1
  rintro ⟨k,H,wv,nx⟩ ⟨hk1,hs,hg0,hg1⟩
  simp only at hk1 hs hg0 hg1
  by_cases hl3:k<f.n
  ·simp only[go_sem,eq_true (show (k:Int)<f.n by omega)]
   refine wait_v hs _ _ hl3 hn5 (by simp;omega) _ ?_
   intro r H' nx' wv' hs' hkeep
   have hw:waitS (List.range k) k=List.range (k+1):=by
    unfold waitS
    rw[if_neg (by simp),List.range_succ]
   simp only[hw]at hs'
   simp only[go_sem]
   refine ⟨⟨k+1,H',wv',nx'⟩,⟨by show k+1≤_;omega,hs',hkeep _ _ hg0 (by rw[t0];simp),hkeep _ _ hg1 (by rw[t1];simp)⟩,by show f.n-(k+1)<f.n-k;omega,?_⟩
   rw[i64_in (by omega) (by omega)]
   exact Wk.mk (by simp[get_cons]) ⟨[],by simp⟩ (Nat.le_refl _)
  ·have hke:k=f.n:=by omega
   subst hke
   simp only[go_sem,eq_false (show ¬ ((f.n:Nat):Int)<f.n by omega)]
   exact hC q H nx wv hs hg0 hg1
set_option maxRecDepth 10000
open Go.V
theorem solverOf_v (f:BF) (hf:Fine f) (hr:f.r≤64):SolverOfV f:=by
 intro o0 o1 C t0 t1 hC
 refine VCall.of_body hmix f_live_solverOf (by simp) ?_
 have hn5:f.n≤500:=hf.b1
 have hmx:(200000:Nat)≤maxLen:=by decide
 have hlen:f.bks.length=f.n:=rfl
 have hc:c_live_solverOf=VC.seq _ (VC.seq _ (VC.seq _ c_live_solverOf.tl.tl.tl)):=rfl
 have htail:=fun ka kw hk env he1 he3 he4 H hl h0 h1 h2 hS ha hw=>solver_tail f hf hr ka kw hk o0 o1 t0 t1 env he1 he3 he4 H hl h0 h1 h2 hS ha hw C (fun q H nx wv h g0 g1=>hC q H nx wv h g0 g1)
 obtain ⟨D,hD⟩:∃ D,D=c_live_solverOf.tl.tl.tl:=⟨_,rfl⟩
 rw[← hD]at htail
 rw[hc,← hD]
 have hrp:∀ m,(List.replicate m [AV.val (.slice none 0 0)]).flatten=List.replicate m nilv:=fun m=>by simp[List.flatten_replicate_singleton]
 have hrb:∀ m,(List.replicate m [AV.val (.bool false)]).flatten=(List.replicate m false).map B:=fun m=>by simp[List.flatten_replicate_singleton]
 simp only[go_sem,hlen]
 refine ECall.of (next_c f hf.b1) (SleL.pure rfl) ⟨_,fun _=>Iff.rfl⟩ fun x hx=>?_
 subst hx
 simp only[go_sem,hlen]
 repeat' (with_reducible apply And.intro)
 all_goals first | omega | skip
 ·rw[hrp,hrb]
  exact htail 3 4 (.inl ⟨rfl,rfl⟩) _ rfl rfl rfl _ rfl rfl rfl rfl rfl rfl rfl
 ·rw[hrp,hrb]
  exact htail 4 3 (.inr ⟨rfl,rfl⟩) _ rfl rfl rfl _ rfl rfl rfl rfl rfl rfl rfl
theorem live_of_c (f:BF) (hf:Fine f) (hr:f.r≤64) (L:LD) (hL:Least f L):Contract Try.prog 22 [bfA f] (fun x=>x=liveA L):=of_c f hf hr (solverOf_v f hf hr) L hL
abbrev alA (pl:List Int):AV:=.agg [ints pl]
def gP (pl:List Int) (v:Nat):Int:=pl.getD v default
def okP (n p:Int):Bool:=decide (-4000≤p∧p≠0∧p≤n) || decide (-4000≤p∧p<0)
theorem okP_iff {n p:Int}:okP n p=true↔(1≤p∧p≤n)∨(-4000≤p∧p≤-1):=by
 unfold okP
 rw[Bool.or_eq_true,decide_eq_true_iff,decide_eq_true_iff]
 omega
def placesB (pl:List Int) (regs n:Int):Bool:=decide ((pl.length:Int)=regs) && pl.all (okP n)
def apartB (pl:List Int) (row:List Bool):Bool:=decide (∀ i<row.length,∀ k<i,gB row i=true→gB row k=true→gP pl i≠gP pl k)
def oneAB (t:Tac) (pl:List Int) (row:List Bool):Bool :=
 decide (∀ v<row.length,gB row v=true→¬ ((0≤setsL t∧(v:Int)≠setsL t∧gP pl v=gP pl (setsL t).toNat)∨(t.op=10∧0<gP pl v)))
def blkAB (f:BF) (L:LD) (pl:List Int) (b:Nat):Bool:=(List.range (f.bk b).ins.length).all fun i=>oneAB ((f.bk b).ins.getD i default) pl ((behindL (f.bk b) (L.out.getD b default)).getD i default)
def allocB (f:BF) (L:LD) (pl:List Int) (n:Int):Bool:=checkB f L && placesB pl f.regs n && apartB pl (L.inn.getD 0 default) && (List.range f.n).all (blkAB f L pl)
structure AllocP (f:BF) (L:LD) (pl:List Int) (n:Int):Prop where
 cl:ClosedP f L
 len:pl.length=f.r
 ok:∀ v<f.r,(1≤gP pl v∧gP pl v≤n)∨(-4000≤gP pl v∧gP pl v≤-1)
 ap:∀ u<f.r,∀ v<f.r,u≠v→L.I 0 u=true→L.I 0 v=true→gP pl u≠gP pl v
 st:∀ b<f.n,∀ i<(f.bk b).ins.length,SetsT ((f.bk b).ins.getD i default)→∀ v<f.r,thru1 ((f.bk b).ins.drop (i+1)) v (last1 (f.bk b) v (L.O b v))=true→v≠((f.bk b).ins.getD i default).d.toNat→gP pl v≠gP pl ((f.bk b).ins.getD i default).d.toNat
 ca:∀ b<f.n,∀ i<(f.bk b).ins.length,((f.bk b).ins.getD i default).op=10→∀ v<f.r,thru1 ((f.bk b).ins.drop (i+1)) v (last1 (f.bk b) v (L.O b v))=true→gP pl v<0
theorem behindL_get (b:Bk) (l:List Bool) {i:Nat} (hi:i<b.ins.length):(behindL b l).getD i default=thruL (b.ins.drop (i+1)) (lastL b l):=by
 unfold behindL
 simp only[List.getD,List.getElem?_map,List.getElem?_range hi,Option.map_some,Option.getD_some]
theorem gB_behind {f:BF} (hf:Fine f) {b:Nat} (hb:b<f.n) {l:List Bool} (hl:l.length=f.r) {i:Nat} (hi:i<(f.bk b).ins.length) {v:Nat} (hv:v<f.r) :
 ((behindL (f.bk b) l).getD i default).length=f.r∧gB ((behindL (f.bk b) l).getD i default) v=thru1 ((f.bk b).ins.drop (i+1)) v (last1 (f.bk b) v (gB l v)):=by
 have hr:=hf.regs hb hl
 rw[behindL_get _ _ hi,thruL_len,lastL_len]
 refine ⟨hl,?_⟩
 rw[gB_thru _ _ _ (fun t ht=>by rw[lastL_len];exact hr.1 t (List.mem_of_mem_drop ht)) (by rw[lastL_len,hl];exact hv),gB_last _ _ _ (fun e=>(hr.2 e).1) (by rw[hl];exact hv)]
theorem behindL_lens {f:BF} (hf:Fine f) {b:Nat} (hb:b<f.n) {l:List Bool} (hl:l.length=f.r) {i:Nat} (hi:i<(f.bk b).ins.length):((behindL (f.bk b) l).getD i default).length=f.r:=by
 rw[behindL_get _ _ hi,thruL_len,lastL_len];exact hl
theorem mem_ok {pl:List Int} {n:Int}:pl.all (okP n)=true↔∀ v<pl.length,(1≤gP pl v∧gP pl v≤n)∨(-4000≤gP pl v∧gP pl v≤-1):=by
 rw[List.all_eq_true]
 refine ⟨fun h v hv=>okP_iff.1 (h _ (mem_getD hv)),fun h p hp=>?_⟩
 obtain ⟨i,hi,rfl⟩:=List.getElem_of_mem hp
 have:=h i hi
 unfold gP at this
 rw[List.getD,List.getElem?_eq_getElem hi,Option.getD_some]at this
 exact okP_iff.2 this
theorem allocB_iff {f:BF} (hf:Fine f) (L:LD) (pl:List Int) (n:Int):allocB f L pl n=true↔AllocP f L pl n:=by
 have hr0:=hf.r0
 have hrr:(f.r:Int)=f.regs:=by unfold BF.r;omega
 have hn0:0<f.n:=List.length_pos_iff.2 hf.b0
 unfold allocB placesB
 simp only[Bool.and_eq_true,checkB_iff hf,decide_eq_true_eq,mem_ok]
 rw[List.all_eq_true]
 simp only[List.mem_range]
 refine ⟨fun ⟨⟨⟨h1,h2,h3⟩,h4⟩,h5⟩=>?_,fun h=>⟨⟨⟨h.cl,by rw[h.len];exact hrr,by rw[h.len];exact h.ok⟩,?_⟩,fun b hb=>?_⟩⟩
 ·have hl:pl.length=f.r:=by omega
  have h4:=of_decide_eq_true h4
  have hi0:(L.inn.getD 0 default).length=f.r:=h1.sz.il hn0
  have hone:∀ b<f.n,∀ i<(f.bk b).ins.length,∀ v<f.r,thru1 ((f.bk b).ins.drop (i+1)) v (last1 (f.bk b) v (L.O b v))=true →
   ¬ ((0≤setsL ((f.bk b).ins.getD i default)∧(v:Int)≠setsL ((f.bk b).ins.getD i default)∧gP pl v=gP pl (setsL ((f.bk b).ins.getD i default)).toNat)∨(((f.bk b).ins.getD i default).op=10∧0<gP pl v)):=fun b hb i hi v hv h=>by
   have h6:=h5 b hb
   unfold blkAB at h6
   rw[List.all_eq_true]at h6
   have h7:=of_decide_eq_true (h6 i (List.mem_range.2 hi))
   have ho:(L.out.getD b default).length=f.r:=h1.sz.ol hb
   obtain ⟨g1,g2⟩:=gB_behind hf hb ho hi hv
   exact h7 v (by rw[g1];exact hv) (by rw[g2];exact h)
  refine ⟨h1,hl,fun v hv=>h3 v (by omega),fun u hu v hv hne a b=>?_,fun b hb i hi hs v hv h hne=>?_,fun b hb i hi hop v hv h=>?_⟩
  ·rcases Nat.lt_or_ge u v with h | h
   ·exact fun e=>h4 v (by rw[hi0];exact hv) u h b a e.symm
   ·exact h4 u (by rw[hi0];exact hu) v (by omega) a b
  ·intro e
   have hss:setsL ((f.bk b).ins.getD i default)=((f.bk b).ins.getD i default).d:=if_pos hs
   have hd:=(hf.ins _ (BF.mem hb) _ (mem_getD hi)).2 hs
   exact hone b hb i hi v hv h (.inl ⟨by rw[hss];exact hd.1,by rw[hss];omega,by rw[hss];exact e⟩)
  ·have g1:=hone b hb i hi v hv h
   have g2:=h3 v (by omega)
   rcases g2 with g2 | g2
   ·exact absurd (.inr ⟨hop,by omega⟩) g1
   ·omega
 ·refine decide_eq_true fun i hi k hk a b=>?_
  have hi0:(L.inn.getD 0 default).length=f.r:=h.cl.sz.il hn0
  rw[hi0]at hi
  exact h.ap i hi k (by omega) (by omega) a b
 ·unfold blkAB
  rw[List.all_eq_true]
  intro i hi
  have hi:=List.mem_range.1 hi
  refine decide_eq_true fun v hv a=>?_
  have ho:(L.out.getD b default).length=f.r:=h.cl.sz.ol hb
  rw[behindL_lens hf hb ho hi]at hv
  obtain ⟨g1,g2⟩:=gB_behind hf hb ho hi hv
  rw[g2]at a
  rintro (⟨e1,e2,e3⟩ | ⟨e1,e2⟩)
  ·unfold setsL at e1 e2 e3
   by_cases hs:SetsT ((f.bk b).ins.getD i default)
   ·rw[if_pos hs]at e1 e2 e3
    exact h.st b hb i hi hs v hv a (by omega) e3
   ·rw[if_neg hs]at e1;omega
  ·have:=h.ca b hb i hi e1 v hv a
   omega
def wdsI (pl:List Int):Int:=pl.foldl (fun n p=>if p<0∧n<IntKind.i64.wrap (-p) then IntKind.i64.wrap (-p) else n) 0
theorem wdsI_take (pl:List Int) {k:Nat} (hk:k<pl.length):wdsI (pl.take (k+1))=(if pl.getD k default<0∧wdsI (pl.take k)<IntKind.i64.wrap (-(pl.getD k default)) then IntKind.i64.wrap (-(pl.getD k default)) else wdsI (pl.take k)):=by
 unfold wdsI
 rw[List.take_add_one,List.foldl_append]
 simp[List.getD,List.getElem?_eq_getElem hk]
theorem wrap_le (n:Int) : -9223372036854775808≤IntKind.i64.wrap n∧IntKind.i64.wrap n≤9223372036854775807:=by
 rw[IntKind.wrap_i64];omega
theorem wdsI_pos (pl:List Int):0≤wdsI pl∧wdsI pl≤9223372036854775807:=by
 unfold wdsI
 suffices h:∀ (n:Int),0≤n∧n≤9223372036854775807→0≤pl.foldl (fun n p=>if p<0∧n<IntKind.i64.wrap (-p) then IntKind.i64.wrap (-p) else n) n∧pl.foldl (fun n p=>if p<0∧n<IntKind.i64.wrap (-p) then IntKind.i64.wrap (-p) else n) n≤9223372036854775807 from h 0 (by omega)
 induction pl with
 | nil=>exact fun n h=>h
 | cons p pl ih =>
  intro n h
  rw[List.foldl_cons]
  refine ih _ ?_
  have:=wrap_le (-p)
  split<;>omega
theorem wdsI_ge {pl:List Int} {v:Nat} (hv:v<pl.length) (h0 : -4000≤gP pl v) (h1:gP pl v<0) : -(gP pl v)≤wdsI pl:=by
 have hmono:∀ (l:List Int) (n:Int),n≤l.foldl (fun n p=>if p<0∧n<IntKind.i64.wrap (-p) then IntKind.i64.wrap (-p) else n) n:=by
  intro l
  induction l with
  | nil=>exact fun n=>Int.le_refl n
  | cons p l ih =>
   intro n
   rw[List.foldl_cons]
   refine Int.le_trans ?_ (ih _)
   split<;>omega
 have key:∀ (l:List Int) (n p:Int),p ∈ l→-4000≤p→p<0→-p≤l.foldl (fun n p=>if p<0∧n<IntKind.i64.wrap (-p) then IntKind.i64.wrap (-p) else n) n:=by
  intro l
  induction l with
  | nil=>intro n p h;simp at h
  | cons q l ih =>
   intro n p hp h1 h2
   rw[List.foldl_cons]
   rcases List.mem_cons.1 hp with rfl | h
   ·refine Int.le_trans ?_ (hmono l _)
    rw[i64_in (show -9223372036854775808≤-p by omega) (by omega)]
    split<;>omega
   ·exact ih _ p h h1 h2
 exact key pl 0 _ (mem_getD hv) h0 h1
theorem wdsI_le {pl:List Int} {m:Int} (hm:0≤m) (h:∀ v<pl.length,-9000000000000≤gP pl v∧-(gP pl v)≤m):wdsI pl≤m:=by
 unfold wdsI
 have key:∀ (l:List Int) (n:Int),n≤m→(∀ p ∈ l,-9000000000000≤p∧-p≤m)→l.foldl (fun n p=>if p<0∧n<IntKind.i64.wrap (-p) then IntKind.i64.wrap (-p) else n) n≤m:=by
  intro l
  induction l with
  | nil=>exact fun n h _=>h
  | cons q l ih =>
   intro n hn hl
   rw[List.foldl_cons]
   refine ih _ ?_ fun p hp=>hl p (by simp[hp])
   have:=hl q (by simp)
   split
   ·rename_i h3
    rw[i64_in (show -9223372036854775808≤-q by omega) (by omega)]
    exact this.2
   ·exact hn
 refine key pl 0 hm fun p hp=>?_
 obtain ⟨i,hi,rfl⟩:=List.getElem_of_mem hp
 have:=h i hi
 unfold gP at this
 rw[List.getD,List.getElem?_eq_getElem hi,Option.getD_some]at this
 exact this
set_option maxRecDepth 10000
open Go.V
theorem rwords_c (pl:List Int) (hl:pl.length≤140737488355328):Contract Try.prog 36 [alA pl] (fun r=>r=I (wdsI pl)):=by
 refine Contract.of_call (VCall.of_body hmix f_scref28_Words (by simp) ?_)
 simp only[go_sem,c_scref28_Words]
 refine VW_loop (fun k:Nat=>⟨[(1,.ptr 0 0 0),(3,I (wdsI (pl.take k))),(4,I k)],[⟨0,55,1,[ints pl]⟩],1⟩) (fun k=>k≤pl.length) (fun k=>pl.length-k) 0 (Wk.mk (by simp[get_cons,wdsI]) ⟨[],rfl⟩ (Nat.le_refl _)) (Nat.zero_le _) ?_
 intro k hk
 by_cases h:k<pl.length
 ·have hst:=wdsI_take pl h
  generalize hp:pl.getD k default=p at hst
  by_cases h1:p<0
  ·by_cases h2:wdsI (pl.take k)<IntKind.i64.wrap (-p)
   ·rw[if_pos ⟨h1,h2⟩]at hst
    simp only[go_sem,hp,Int.zero_sub,eq_true (show (k:Int)<pl.length by omega),eq_true h1,eq_true h2]
    repeat ((with_reducible refine And.intro ?_ ?_);· omega)
    rw[i64_in (n:=(k:Int)+1) (by omega) (by omega)]
    exact ⟨k+1,by omega,by omega,Wk.mk (by simp[get_cons,hst]) ⟨[],rfl⟩ (Nat.le_refl _)⟩
   ·rw[if_neg (fun e=>h2 e.2)]at hst
    simp only[go_sem,hp,Int.zero_sub,eq_true (show (k:Int)<pl.length by omega),eq_true h1,eq_false h2]
    repeat ((with_reducible refine And.intro ?_ ?_);· omega)
    rw[i64_in (n:=(k:Int)+1) (by omega) (by omega)]
    exact ⟨k+1,by omega,by omega,Wk.mk (by simp[get_cons,hst]) ⟨[],rfl⟩ (Nat.le_refl _)⟩
  ·rw[if_neg (fun e=>h1 e.1)]at hst
   simp only[go_sem,hp,Int.zero_sub,eq_true (show (k:Int)<pl.length by omega),eq_false h1]
   repeat ((with_reducible refine And.intro ?_ ?_);· omega)
   rw[i64_in (n:=(k:Int)+1) (by omega) (by omega)]
   exact ⟨k+1,by omega,by omega,Wk.mk (by simp[get_cons,hst]) ⟨[],rfl⟩ (Nat.le_refl _)⟩
 ·simp only[go_sem,eq_false (show ¬ (k:Int)<pl.length by omega)]
  refine ⟨_,Frz.pure rfl,?_⟩
  rw[List.take_of_length_le (by omega)]
theorem awords_c (pl:List Int) (hl:pl.length≤140737488355328):Contract Try.prog 30 [alA pl] (fun r=>r=I (wdsI pl)):=by
 refine Contract.of_call (VCall.of_body hmix f_alloc_Words (by simp) ?_)
 simp only[go_sem,c_alloc_Words]
 refine VW_loop (fun k:Nat=>⟨[(3,I (wdsI (pl.take k))),(7,ints pl),(8,I pl.length),(9,I k)],[],1⟩) (fun k=>k≤pl.length) (fun k=>pl.length-k) 0 (Wk.mk (by simp[get_cons,wdsI]) ⟨_,rfl⟩ (Nat.le_refl _)) (Nat.zero_le _) ?_
 intro k hk
 by_cases h:k<pl.length
 ·have hst:=wdsI_take pl h
  generalize hp:pl.getD k default=p at hst
  by_cases h1:p<0
  ·by_cases h2:wdsI (pl.take k)<IntKind.i64.wrap (-p)
   ·rw[if_pos ⟨h1,h2⟩]at hst
    simp only[go_sem,hp,Int.zero_sub,eq_true (show (k:Int)<pl.length by omega),eq_true h1,eq_true h2,gt_iff_lt]
    repeat ((with_reducible refine And.intro ?_ ?_);· omega)
    rw[i64_in (n:=(k:Int)+1) (by omega) (by omega)]
    exact ⟨k+1,by omega,by omega,Wk.mk (by simp[get_cons,hst]) ⟨[],rfl⟩ (Nat.le_refl _)⟩
   ·rw[if_neg (fun e=>h2 e.2)]at hst
    simp only[go_sem,hp,Int.zero_sub,eq_true (show (k:Int)<pl.length by omega),eq_true h1,eq_false h2,gt_iff_lt]
    repeat ((with_reducible refine And.intro ?_ ?_);· omega)
    rw[i64_in (n:=(k:Int)+1) (by omega) (by omega)]
    exact ⟨k+1,by omega,by omega,Wk.mk (by simp[get_cons,hst]) ⟨[],rfl⟩ (Nat.le_refl _)⟩
  ·rw[if_neg (fun e=>h1 e.1)]at hst
   simp only[go_sem,hp,Int.zero_sub,eq_true (show (k:Int)<pl.length by omega),eq_false h1]
   repeat ((with_reducible refine And.intro ?_ ?_);· omega)
   rw[i64_in (n:=(k:Int)+1) (by omega) (by omega)]
   exact ⟨k+1,by omega,by omega,Wk.mk (by simp[get_cons,hst]) ⟨[],rfl⟩ (Nat.le_refl _)⟩
 ·simp only[go_sem,eq_false (show ¬ (k:Int)<pl.length by omega)]
  refine ⟨_,Frz.pure rfl,?_⟩
  rw[List.take_of_length_le (by omega)]
set_option maxRecDepth 10000
open Go.V
theorem SizedP.ok {f:BF} (hf:Fine f) {L:LD} (h:SizedP f L):LOK L:=by
 have h1:=hf.b1
 have h2:=hf.r1
 have h3:=hf.r0
 have hn:f.n=f.bks.length:=rfl
 have hr:f.r≤4000:=by unfold BF.r;omega
 have a1:=h.i
 have a2:=h.o
 exact ⟨by omega,by omega,fun l hl=>by have:=h.ir l hl;omega,fun l hl=>by have:=h.or l hl;omega⟩
def cntB (l:List Bk):Nat:=(l.map fun b=>b.ins.length+1).sum
def totF (l:List BF):Nat:=(l.map fun f=>cntB f.bks).sum
theorem totF_step (l:List BF) {k:Nat} (h:k<l.length):totF (l.take (k+1))=totF (l.take k)+cntB (l.getD k default).bks:=by
 unfold totF
 have e:l.take (k+1)=l.take k++[l.getD k default]:=by rw[List.take_add_one];simp[List.getD,List.getElem?_eq_getElem h]
 rw[e];simp
theorem cntB_mem {l:List Bk} {b:Bk} (h:b ∈ l):b.ins.length+1≤cntB l:=by
 induction l with
 | nil=>cases h
 | cons a l ih =>
  simp only[cntB,List.map_cons,List.sum_cons]at ih ⊢
  rcases List.mem_cons.1 h with rfl | h
  ·omega
  ·have:=ih h;omega
theorem totF_mem {l:List BF} {f:BF} (h:f ∈ l):cntB f.bks≤totF l:=by
 induction l with
 | nil=>cases h
 | cons a l ih =>
  simp only[totF,List.map_cons,List.sum_cons]at ih ⊢
  rcases List.mem_cons.1 h with rfl | h
  ·omega
  ·have:=ih h;omega
structure FewP (b:BP):Prop where
 w:b.words≤8000
 l:b.funcs.length≤20
 f:∀ f ∈ b.funcs,f.bks.length≤60∧f.regs≤30
 n:totF b.funcs≤1000
 r:rightB b=true
theorem FewP.fine {b:BP} (h:FewP b) {i:Nat} (hi:i<b.funcs.length):Fine (b.funcs.getD i default)∧(b.funcs.getD i default).r≤30∧oneB (b.funcs.getD i default) i b.words=true:=by
 have hr:=h.r
 unfold rightB at hr
 simp only[Bool.and_eq_true,List.all_eq_true,List.mem_range]at hr
 have h1:=hr.2 i hi
 have hm:b.funcs.getD i default ∈ b.funcs:=mem_getD hi
 have hf:=h.f _ hm
 have hn:=h.n
 have ht:=totF_mem hm
 refine ⟨one_fine h1 (by omega) (fun k hk=>?_),by unfold BF.r;omega,h1⟩
 have:=cntB_mem hk
 omega
end Go.Proofs.Ytkbhfokbhkmfgaa
