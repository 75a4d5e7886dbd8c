/- A run of stack code and its image's, plainly: how their states hang together. No condition. A run of stack code and its image's, plainly: each instruction but calls and their ends. No condition. -/
import Derived.Test.YtaedcpipilnpcaaGreatQr2
import Derived.Test.YtaedcpipilnpcaaGreatUH
import Derived.Test.YtaedcpipilnpcaaGreatUG
import Derived.SizedLaws
import Derived.Test.YtaedcpipilnpcaaGreatUCode
set_option linter.unusedVariables false
set_option linter.unusedSimpArgs false
namespace Go.Proofs.YtaedcpipilnpcaaGreat
set_option linter.unusedSimpArgs false
set_option linter.unusedVariables false
open Go.V
def StkAt (me:List Int) (b:Int):List Int→Prop
 | []=>True
 | v::L=>me.getD (b+L.length).toNat default=v∧StkAt me b L
theorem StkAt.agree {me me':List Int} {b:Int}:∀ {L:List Int},StkAt me b L→(∀ a:Int,b≤a→a<b+L.length→me'.getD a.toNat default=me.getD a.toNat default)→StkAt me' b L
 | [],_,_=>trivial
 | v::L,h,k=>by
  simp only[List.length_cons]at k
  exact ⟨(k _ (by omega) (by omega)).trans h.1,StkAt.agree h.2 fun a h1 h2=>k a h1 (by omega)⟩
theorem StkAt.drop {me:List Int} {b:Int}:∀ {L:List Int} (n:Nat),StkAt me b L→StkAt me b (L.drop n)
 | L,0,h=>h
 | [],n+1,h=>trivial
 | v::L,n+1,h=>StkAt.drop n h.2
theorem StkAt.tail {me:List Int} {b:Int} {L:List Int} (h:StkAt me b L):StkAt me b L.tail:=by
 cases L with
 | nil=>trivial
 | cons v L=>exact h.2
theorem StkAt.get {me:List Int} {b:Int}:∀ {L:List Int} {j:Nat},StkAt me b L→j<L.length→me.getD (b+((L.length-1-j:Nat):Int)).toNat default=L.getD j default
 | [],j,_,h=>absurd h (Nat.not_lt_zero _)
 | v::L,0,h,_=>by simpa using h.1
 | v::L,j+1,h,hj=>by
  have:=StkAt.get (j:=j) h.2 (by simpa using hj)
  simp only[List.length_cons,List.getD_cons_succ]
  rw[← this];congr 3;omega
theorem StkAt.top {me:List Int} {b:Int} {L:List Int} (h:StkAt me b L) (h1:1≤L.length):me.getD (b+L.length-1).toNat default=L.headD 0:=by
 cases L with
 | nil=>simp at h1
 | cons v L=>simp only[List.length_cons,List.headD_cons];rw[← h.1];congr 2;omega
theorem StkAt.snd {me:List Int} {b:Int} {L:List Int} (h:StkAt me b L) (h1:2≤L.length):me.getD (b+L.length-2).toNat default=L.tail.headD 0:=by
 cases L with
 | nil=>simp at h1
 | cons v L =>
  simp only[List.length_cons,List.tail_cons]at h1 ⊢
  rw[← StkAt.top h.2 (by omega)];congr 2;omega
theorem StkAt.set {me:List Int} {b:Int} {T:List Int} {v:Int} (h:StkAt me b T) (hb:0≤b) (hl:b+T.length<me.length):StkAt (me.set (b+T.length).toNat v) b (v::T) :=
 ⟨getD_set_self (by omega),h.agree fun a h1 h2=>getD_set_ne (by omega)⟩
def RetAt (s:SP) (g:Nat) (c:Fm) (a:Nat):Prop:=a+cntB (s.fn g).word=adr s c.f c.at_∧((s.fn g).word=true→At (fixE s) a [⟨17,1,0,baseE s c.f+c.L.length⟩])
def BelAt (s:SP) (me:List Int):Nat→List Fm→Prop
 | f,[]=>f+1=s.funcs.length
 | f,c::rest=>f<c.f∧c.f<s.funcs.length∧(∃ a:Nat,me.getD (datE s f).toNat default=(a:Int)∧RetAt s f c a)∧StkAt me (baseE s c.f) c.L∧BelAt s me c.f rest
theorem BelAt.agree {s:SP} {me me':List Int}:∀ {l:List Fm} {f:Nat},BelAt s me f l→(∀ a:Int,(a=datE s f∧f+1<s.funcs.length)∨datE s (f+1)≤a→me'.getD a.toNat default=me.getD a.toNat default)→BelAt s me' f l
 | [],f,h,_=>h
 | c::rest,f,h,k=>by
  obtain ⟨h1,h2,⟨a,h3,h4⟩,h5,h6⟩:=h
  have hm:=datE_mono (s:=s) (show f+1≤c.f by omega)
  have hb:=base_ge (s:=s) c.f
  have hm2:=datE_mono (s:=s) (show c.f≤c.f+1 by omega)
  exact ⟨h1,h2,⟨a,(k _ (.inl ⟨rfl,by omega⟩)).trans h3,h4⟩,h5.agree fun a g1 g2=>k a (.inr (by omega)),h6.agree fun a ha=>k a (.inr (by omega))⟩
structure Rk (s:SP) (σ:SM) (m:Mc):Prop where
 z:m.rg 0=0
 u:m.rg 15=1
 pc:m.pc=adr s σ.top.f σ.top.at_
 n:(m.me.length:Int)=dataE s
 w:∀ a<s.words.toNat,m.me.getD a default=σ.mem.getD a default
 o:m.out=σ.out
 d:m.rd=σ.rd
 k:StkAt m.me (baseE s σ.top.f) σ.top.L
 b:BelAt s m.me σ.top.f σ.below
structure SimP (s:SP):Prop where
 r:RightP s
 dep:∀ f<s.funcs.length,Sol s f (depS s f)
 dat:dataE s≤32768
 wf:WfP s
section
variable {s:SP} {σ σ':SM} {m m':Mc} {T:List Int} {v:Int}
theorem Rk.push (hP:SimP s) (hft:σ.top.f<s.funcs.length) (h:Rk s σ m) (hf:σ'.top.f=σ.top.f) (hb:σ'.below=σ.below) (hL:σ'.top.L=v::T) (hT:StkAt m.me (baseE s σ.top.f) T) (hm:σ'.mem=σ.mem) (ho:m'.out=σ'.out) (hd:m'.rd=σ'.rd)
 (hpc:m'.pc=adr s σ.top.f σ'.top.at_) (z:m'.rg 0=0) (u:m'.rg 15=1) (hme:m'.me=m.me.set (baseE s σ.top.f+T.length).toNat v) (hbd:baseE s σ.top.f+T.length<datE s (σ.top.f+1)):Rk s σ' m':=by
 have hw0:=hP.r.w0
 have hb1:=base_ge (s:=s) σ.top.f
 have hb2:=words_le (s:=s) σ.top.f
 have hb3:=datE_le (s:=s) (show σ.top.f+1≤s.funcs.length by omega)
 have hn:=h.n
 refine ⟨z,u,by rw[hf];exact hpc,by rw[hme,List.length_set];exact h.n,fun a ha=>?_,ho,hd,?_,?_⟩
 ·rw[hme,hm,getD_set_ne (by omega)];exact h.w a ha
 ·rw[hf,hL,hme];exact hT.set (by omega) (by omega)
 ·rw[hf,hb,hme]
  refine h.b.agree fun a ha=>getD_set_ne ?_
  rcases ha with ⟨ha,hl⟩ | ha
  ·have:=base_back hl;omega
  ·omega
theorem Rk.pop (h:Rk s σ m) (hf:σ'.top.f=σ.top.f) (hb:σ'.below=σ.below) (hT:StkAt m.me (baseE s σ.top.f) σ'.top.L) (hm:σ'.mem=σ.mem) (ho:m'.out=σ'.out) (hd:m'.rd=σ'.rd)
 (hpc:m'.pc=adr s σ.top.f σ'.top.at_) (z:m'.rg 0=0) (u:m'.rg 15=1) (hme:m'.me=m.me):Rk s σ' m' :=
 ⟨z,u,by rw[hf];exact hpc,by rw[hme];exact h.n,fun a ha=>by rw[hme,hm];exact h.w a ha,ho,hd,by rw[hf,hme];exact hT,by rw[hf,hb,hme];exact h.b⟩
theorem Rk.store (hP:SimP s) (hI:σ.mem.length=s.words.toNat) (h:Rk s σ m) {a:Int} (ha:0≤a∧a<s.words) (hf:σ'.top.f=σ.top.f) (hb:σ'.below=σ.below) (hT:StkAt m.me (baseE s σ.top.f) σ'.top.L) (hm:σ'.mem=σ.mem.set a.toNat v) (ho:m'.out=σ'.out) (hd:m'.rd=σ'.rd)
 (hpc:m'.pc=adr s σ.top.f σ'.top.at_) (z:m'.rg 0=0) (u:m'.rg 15=1) (hme:m'.me=m.me.set a.toNat v):Rk s σ' m':=by
 have hb1:=base_ge (s:=s) σ.top.f
 have hb2:=words_le (s:=s) σ.top.f
 have hb3:=datE_mono (s:=s) (show σ.top.f≤σ.top.f+1 by omega)
 have hb4:=datE_mono (s:=s) (show 0≤s.funcs.length by omega)
 have hn:=h.n
 have hd0:dataE s=datE s s.funcs.length:=rfl
 have hd1:datE s 0=s.words:=rfl
 refine ⟨z,u,by rw[hf];exact hpc,by rw[hme,List.length_set];exact h.n,fun b hb=>?_,ho,hd,?_,?_⟩
 ·rw[hme,hm]
  by_cases e:a.toNat=b
  ·subst e;rw[getD_set_self (by omega),getD_set_self (by omega)]
  ·rw[getD_set_ne e,getD_set_ne e];exact h.w b hb
 ·rw[hf,hme];exact hT.agree fun b h1 h2=>getD_set_ne (by omega)
 ·rw[hf,hb,hme];exact h.b.agree fun b hb=>getD_set_ne (by omega)
end
structure Gm (m m1:Mc):Prop where
 z:m1.rg 0=m.rg 0
 u:m1.rg 15=m.rg 15
 me:m1.me=m.me
 o:m1.out=m.out
 d:m1.rd=m.rd
theorem Gm.refl (m:Mc):Gm m m:=⟨rfl,rfl,rfl,rfl,rfl⟩
theorem Gm.stM {m m1:Mc} (h:Gm m m1) {r v:Int} (hr:1≤r∧r≤14):Gm m (stM m1 r v) :=
 ⟨by simp only[Go.Proofs.YtaedcpipilnpcaaGreat.stM,upM];rw[if_neg (by omega)];exact h.z,by simp only[Go.Proofs.YtaedcpipilnpcaaGreat.stM,upM];rw[if_neg (by omega)];exact h.u,h.me,h.o,h.d⟩
theorem At.cons {code:List Ci} {k:Nat} {i:Ci} {l:List Ci} (h:At code k (i::l)):At code k [i]∧At code (k+1) l:=by
 have:=At.app (l:=[i]) (m:=l) h
 simpa using this
section
variable {code:List Ci} {inp:ByteArray} {m m1:Mc} {j:Nat} {l:List Ci} {r p:Int}
theorem go_set (h:Gm m m1) {i:Ci} {v:Int} (ha:At code j (i::l)) (hp:m1.pc=j) (hr:1≤r∧r≤14) (hm:mI inp m1 i=(stM m1 r v,0)) :
 ∃ m2,Mx code inp 1 m1 m2∧m2.pc=((j+1:Nat):Int)∧Gm m m2∧m2.rg r.toNat=v∧(∀ q,q≠r.toNat→m2.rg q=m1.rg q)∧At code (j+1) l :=
 ⟨_,Mx.one ha.cons.1 hp hm,by simp[stM,hp],h.stM hr,by simp[stM,upM],fun q hq=>by simp[stM,upM,hq],ha.cons.2⟩
theorem go_ld (h:Gm m m1) (z:m.rg 0=0) (ha:At code j (⟨16,r,0,p⟩::l)) (hp:m1.pc=j) (hr:1≤r∧r≤14) (hb:0≤p∧p<m.me.length) (hl:m.me.length≤32768) :
 ∃ m2,Mx code inp 1 m1 m2∧m2.pc=((j+1:Nat):Int)∧Gm m m2∧m2.rg r.toNat=m.me.getD p.toNat default∧(∀ q,q≠r.toNat→m2.rg q=m1.rg q)∧At code (j+1) l:=by
 have hz:m1.rg (0:Int).toNat=0:=h.z.trans z
 have:=mI_ld inp m1 r 0 p (by rw[hz];omega) (by rw[hz,h.me];omega)
 rw[hz,Int.zero_add,h.me]at this
 exact go_set h ha hp hr this
theorem go_st (h:Gm m m1) (z:m.rg 0=0) (ha:At code j (⟨17,r,0,p⟩::l)) (hp:m1.pc=j) (hb:0≤p∧p<m.me.length) (hl:m.me.length≤32768) :
 ∃ m2,Mx code inp 1 m1 m2∧m2.pc=((j+1:Nat):Int)∧m2.me=m.me.set p.toNat (m1.rg r.toNat)∧m2.rg=m1.rg∧m2.out=m.out∧m2.rd=m.rd∧At code (j+1) l:=by
 have hz:m1.rg (0:Int).toNat=0:=h.z.trans z
 have:=mI_st inp m1 r 0 p (by rw[hz];omega) (by rw[hz,h.me];omega)
 rw[hz,Int.zero_add,h.me]at this
 exact ⟨_,Mx.one ha.cons.1 hp this,by simp[hp],rfl,rfl,h.o,h.d,ha.cons.2⟩
end
def GoesK (s:SP) (inp:ByteArray) (σ:SM) (m:Mc):Prop:=∃ (n:Nat) (m':Mc),(n:Int)≤64+8*s.words∧Mx (fixE s) inp n m m'∧Rk s (stepS s inp σ) m'
def EndsK (s:SP) (inp:ByteArray) (σ:SM) (m:Mc):Prop:=∃ (n:Nat) (m':Mc),(n:Int)+1≤64+8*s.words∧Mn (fixE s) inp n m (stepS s inp σ).fin m'∧m'.out=(stepS s inp σ).out
structure CmK (s:SP) (σ:SM) (m:Mc) (x:SI):Prop where
 l:m.me.length≤32768
 at_:At (fixE s) (adr s σ.top.f σ.top.at_) (fxE s (insE (exE s σ.top.f) σ.top.L.length x))
 nx:adr s σ.top.f (σ.top.at_+1)=adr s σ.top.f σ.top.at_+(insE (exE s σ.top.f) σ.top.L.length x).length
 b0:0≤baseE s σ.top.f
 bd:baseE s σ.top.f+σ.top.L.length≤datE s (σ.top.f+1)
 bm:datE s (σ.top.f+1)≤m.me.length
 bw:s.words≤baseE s σ.top.f
 w0:0≤s.words
section
variable {s:SP} {σ:SM} {m:Mc} {inp:ByteArray}
theorem inv_bd {σ:SM} (hI:InvS s (depS s) σ):baseE s σ.top.f+σ.top.L.length≤datE s (σ.top.f+1):=by
 have h1:=hI.top.d
 rw[Nat.add_zero]at h1
 have:=dpE_at h1
 rw[datE_next];omega
theorem cmK (hP:SimP s) (hI:InvS s (depS s) σ) (h:Rk s σ m):CmK s σ m (s.ins σ.top.f σ.top.at_):=by
 have hn:=h.n
 have hd:=hP.dat
 have hn0:=hP.r.n0
 have e:atE (exE s σ.top.f) σ.top.at_ (s.ins σ.top.f σ.top.at_)=insE (exE s σ.top.f) σ.top.L.length (s.ins σ.top.f σ.top.at_):=by
  have h1:=hI.top.d
  rw[Nat.add_zero]at h1
  unfold atE
  rw[show (exE s σ.top.f).dl=depS s σ.top.f from rfl,h1,if_pos (by omega)]
 have ha:=at_ins hn0 hI.top.f hI.top.k
 have hs:=adr_succ (s:=s) hI.top.k
 rw[e]at ha hs
 have hb1:=base_ge (s:=s) σ.top.f
 have hb2:=words_le (s:=s) σ.top.f
 have hb3:=datE_le (s:=s) (show σ.top.f+1≤s.funcs.length from hI.top.f)
 have hw0:=hP.r.w0
 exact ⟨by omega,ha,hs,by omega,inv_bd hI,by omega,by omega,hw0⟩
theorem fx_p (op a b c:Int):fxE s [pY op a b c]=[⟨op,a,b,c⟩]:=rfl
theorem tgt_in (hn:1≤s.funcs.length) {f:Nat} (hf:f<s.funcs.length) {a:Int} (ha:0≤a∧a<((s.fn f).code.length:Int)):tgt (endE s).en (endE s).rows ((f:Int),a)=((adr s f a.toNat:Nat):Int):=by
 unfold tgt
 rw[if_pos ha.1,show ((f:Int),a).1.toNat=f by simp,show ((f:Int),a).2=a from rfl]
 exact adr_row hn hf (by omega)
theorem push_end (hP:SimP s) (hI:InvS s (depS s) σ) (h:Rk s σ m) {σ':SM} {T:List Int} {v:Int} (hI':InvS s (depS s) σ') (hf:σ'.top.f=σ.top.f) (hb:σ'.below=σ.below) (hL:σ'.top.L=v::T) (hT:StkAt m.me (baseE s σ.top.f) T) (hm:σ'.mem=σ.mem) (ho:σ'.out=σ.out)
 {m1:Mc} {j n:Nat} {p r:Int} {l:List Ci} (g:Gm m { m1 with rd:=m.rd }) (hrd:m1.rd=σ'.rd) (hx:Mx (fixE s) inp n m m1) (ha:At (fixE s) j (⟨17,r,0,p⟩::l)) (hp:m1.pc=j) (hpe:p=baseE s σ.top.f+T.length) (hv:m1.rg r.toNat=v) (hj:j+1=adr s σ.top.f σ'.top.at_) :
 ∃ m',Mx (fixE s) inp (n+1) m m'∧Rk s σ' m':=by
 have hn:=h.n
 have hd:=hP.dat
 have hb1:=base_ge (s:=s) σ.top.f
 have hb2:=words_le (s:=s) σ.top.f
 have hb3:=datE_le (s:=s) (show σ.top.f+1≤s.funcs.length from hI.top.f)
 have hw0:=hP.r.w0
 have hbd:=inv_bd hI'
 rw[hf,hL]at hbd
 simp only[List.length_cons]at hbd
 subst hpe
 have hz:m1.rg (0:Int).toNat=0:=g.z.trans h.z
 have hme:m1.me=m.me:=g.me
 have:=mI_st inp m1 r 0 (baseE s σ.top.f+T.length) (by rw[hz];omega) (by rw[hz,hme];omega)
 rw[hz,Int.zero_add,hv,hme]at this
 refine ⟨_,hx.trans (Mx.one ha.cons.1 hp this),h.push hP hI.top.f hf hb hL hT hm ?_ hrd ?_ (g.z.trans h.z) (g.u.trans h.u) rfl (by omega)⟩
 ·show m1.out=_;rw[ho];exact g.o.trans h.o
 ·show m1.pc+1=_;rw[hp,← hj];omega
theorem Gm.rd {m m1:Mc} (h:Gm m m1):Gm m { m1 with rd:=m.rd }:=⟨h.z,h.u,h.me,h.o,rfl⟩
theorem op_push (hP:SimP s) (hI:InvS s (depS s) σ) (h:Rk s σ m) (h0:σ.fin=0) (hI':InvS s (depS s) (stepS s inp σ)) (e:(s.ins σ.top.f σ.top.at_).op=1):GoesK s inp σ m:=by
 obtain ⟨hl,ha,hnx,hb0,hbd,hbm,hbw,hw0⟩:=cmK hP hI h
 obtain ⟨hn0,hn1⟩:=ins_wf hP.wf hI.top.f hI.top.k
 have hs:stepS s inp σ=stepI s inp (s.ins σ.top.f σ.top.at_) σ.next:=stepS_eq h0
 unfold GoesK
 rw[hs]at hI' ⊢
 generalize s.ins σ.top.f σ.top.at_=x at *
 have hnt:σ.next.top.L=σ.top.L:=rfl
 simp only[stepI,e,Int.reduceEq,if_true,if_false,hnt]at hI' ⊢
 simp only[insE,e,Int.reduceEq,if_true,if_false]at ha hnx
 by_cases hn:65535<x.n
 ·rw[show fxE s (numE 1 x.n++[stE (exE s σ.top.f) σ.top.L.length 1 0])=[⟨1,1,0,x.n % 65536⟩,⟨2,1,0,x.n / 65536⟩,⟨17,1,0,baseE s σ.top.f+σ.top.L.length-0⟩] by simp[fxE,fixY,numE,stE,pY,hn,exE]]at ha
  rw[show (numE 1 x.n++[stE (exE s σ.top.f) σ.top.L.length 1 0]).length=3 by simp[numE,hn]]at hnx
  obtain ⟨m1,x1,p1,g1,v1,q1,ha⟩:=go_set (inp:=inp) (Gm.refl m) ha h.pc (by omega) (mI_li inp m 1 0 _)
  obtain ⟨m2,x2,p2,g2,v2,q2,ha⟩:=go_set g1 ha p1 (by omega) (mI_lui inp m1 1 0 _)
  obtain ⟨m',k1,k2⟩:=push_end hP hI h hI' rfl rfl rfl h.k rfl rfl g2.rd (g2.d.trans h.d) (x1.trans x2) ha p2 (by omega) (by rw[v2,v1];show _=x.n;omega) (by show _=adr s σ.top.f (σ.top.at_+1);omega)
  exact ⟨3,m',by omega,k1,k2⟩
 ·rw[show fxE s (numE 1 x.n++[stE (exE s σ.top.f) σ.top.L.length 1 0])=[⟨1,1,0,x.n % 65536⟩,⟨17,1,0,baseE s σ.top.f+σ.top.L.length-0⟩] by simp[fxE,fixY,numE,stE,pY,hn,exE]]at ha
  rw[show (numE 1 x.n++[stE (exE s σ.top.f) σ.top.L.length 1 0]).length=2 by simp[numE,hn]]at hnx
  obtain ⟨m1,x1,p1,g1,v1,q1,ha⟩:=go_set (inp:=inp) (Gm.refl m) ha h.pc (by omega) (mI_li inp m 1 0 _)
  obtain ⟨m',k1,k2⟩:=push_end hP hI h hI' rfl rfl rfl h.k rfl rfl g1.rd (g1.d.trans h.d) x1 ha p1 (by omega) (by rw[v1];show _=x.n;omega) (by show _=adr s σ.top.f (σ.top.at_+1);omega)
  exact ⟨2,m',by omega,k1,k2⟩
theorem op_load (hP:SimP s) (hI:InvS s (depS s) σ) (h:Rk s σ m) (h0:σ.fin=0) (hI':InvS s (depS s) (stepS s inp σ)) (e:(s.ins σ.top.f σ.top.at_).op=2) (hx:0≤(s.ins σ.top.f σ.top.at_).a∧(s.ins σ.top.f σ.top.at_).a<σ.mem.length):GoesK s inp σ m:=by
 obtain ⟨hl,ha,hnx,hb0,hbd,hbm,hbw,hw0⟩:=cmK hP hI h
 have hs:stepS s inp σ=stepI s inp (s.ins σ.top.f σ.top.at_) σ.next:=stepS_eq h0
 unfold GoesK
 rw[hs]at hI' ⊢
 have hml:=hI.mem
 generalize s.ins σ.top.f σ.top.at_=x at *
 have hnt:σ.next.top.L=σ.top.L:=rfl
 simp only[stepI,e,Int.reduceEq,if_true,if_false,hnt]at hI' ⊢
 simp only[insE,e,Int.reduceEq,if_true,if_false]at ha hnx
 rw[show fxE s [pY 16 1 0 x.a,stE (exE s σ.top.f) σ.top.L.length 1 0]=[⟨16,1,0,x.a⟩,⟨17,1,0,baseE s σ.top.f+σ.top.L.length-0⟩] by simp[fxE,fixY,stE,pY,exE]]at ha
 simp only[List.length_cons,List.length_nil]at hnx
 obtain ⟨m1,x1,p1,g1,v1,q1,ha⟩:=go_ld (inp:=inp) (Gm.refl m) h.z ha h.pc (by omega) (by omega) hl
 obtain ⟨m',k1,k2⟩:=push_end hP hI h hI' rfl rfl rfl h.k rfl rfl g1.rd (g1.d.trans h.d) x1 ha p1 (by omega) (by rw[show (1:Int).toNat=1 from rfl]at v1 ⊢;rw[v1];exact h.w _ (by omega)) (by show _=adr s σ.top.f (σ.top.at_+1);omega)
 exact ⟨2,m',by omega,k1,k2⟩
theorem op_store (hP:SimP s) (hI:InvS s (depS s) σ) (h:Rk s σ m) (h0:σ.fin=0) (e:(s.ins σ.top.f σ.top.at_).op=3) (hx:0≤(s.ins σ.top.f σ.top.at_).a∧(s.ins σ.top.f σ.top.at_).a<σ.mem.length) (h1:1≤σ.top.L.length):GoesK s inp σ m:=by
 obtain ⟨hl,ha,hnx,hb0,hbd,hbm,hbw,hw0⟩:=cmK hP hI h
 have hs:stepS s inp σ=stepI s inp (s.ins σ.top.f σ.top.at_) σ.next:=stepS_eq h0
 unfold GoesK
 rw[hs]
 have hml:=hI.mem
 generalize s.ins σ.top.f σ.top.at_=x at *
 simp only[stepI,e,Int.reduceEq,if_true,if_false]
 simp only[insE,e,Int.reduceEq,if_true,if_false]at ha hnx
 rw[show fxE s [ldE (exE s σ.top.f) σ.top.L.length 1 1,pY 17 1 0 x.a]=[⟨16,1,0,baseE s σ.top.f+σ.top.L.length-1⟩,⟨17,1,0,x.a⟩] by simp[fxE,fixY,ldE,pY,exE]]at ha
 simp only[List.length_cons,List.length_nil]at hnx
 obtain ⟨m1,x1,p1,g1,v1,q1,ha⟩:=go_ld (inp:=inp) (Gm.refl m) h.z ha h.pc (by omega) (by omega) hl
 obtain ⟨m2,x2,p2,e2,r2,o2,d2,_⟩:=go_st (inp:=inp) g1 h.z ha p1 (by omega) hl
 rw[h.k.top h1]at v1
 rw[v1]at e2
 exact ⟨2,m2,by omega,x1.trans x2,h.store hP hml (by omega) rfl rfl h.k.tail rfl (o2.trans h.o) (d2.trans h.d) (by show m2.pc=((adr s σ.top.f (σ.top.at_+1):Nat):Int);omega) (by rw[r2];exact g1.z.trans h.z) (by rw[r2];exact g1.u.trans h.u) e2⟩
theorem mI_chk (inp:ByteArray) (m:Mc) (a c:Int):mI inp m ⟨25,a,0,c⟩=if m.rg a.toNat<c then ({ m with pc:=m.pc+1 },0) else (m,3):=by simp[mI]
theorem go_chk {code:List Ci} {m m1:Mc} {j:Nat} {l:List Ci} {r p:Int} (h:Gm m m1) (ha:At code j (⟨25,r,0,p⟩::l)) (hp:m1.pc=j) (hlt:m1.rg r.toNat<p) :
 ∃ m2,Mx code inp 1 m1 m2∧m2.pc=((j+1:Nat):Int)∧Gm m m2∧m2.rg=m1.rg∧At code (j+1) l:=by
 have:=mI_chk inp m1 r p
 rw[if_pos hlt]at this
 exact ⟨_,Mx.one ha.cons.1 hp this,by simp[hp],⟨h.z,h.u,h.me,h.o,h.d⟩,rfl,ha.cons.2⟩
theorem op_aload (hP:SimP s) (hI:InvS s (depS s) σ) (hw:WfS σ) (h:Rk s σ m) (h0:σ.fin=0) (hI':(stepS s inp σ).fin=0→InvS s (depS s) (stepS s inp σ)) (e:(s.ins σ.top.f σ.top.at_).op=4)
 (hx:0≤(s.ins σ.top.f σ.top.at_).a∧0≤(s.ins σ.top.f σ.top.at_).b∧(s.ins σ.top.f σ.top.at_).a+(s.ins σ.top.f σ.top.at_).b≤σ.mem.length) (h1:1≤σ.top.L.length):((stepS s inp σ).fin=0→GoesK s inp σ m)∧((stepS s inp σ).fin≠0→EndsK s inp σ m):=by
 obtain ⟨hl,ha,hnx,hb0,hbd,hbm,hbw,hw0⟩:=cmK hP hI h
 have hs:stepS s inp σ=stepI s inp (s.ins σ.top.f σ.top.at_) σ.next:=stepS_eq h0
 unfold GoesK EndsK
 rw[hs]at hI' ⊢
 have hml:=hI.mem
 generalize s.ins σ.top.f σ.top.at_=x at *
 have hnt:σ.next.top.L=σ.top.L:=rfl
 simp only[stepI,e,Int.reduceEq,if_true,if_false,hnt]at hI' ⊢
 simp only[insE,e,Int.reduceEq,if_true,if_false]at ha hnx
 rw[show fxE s [ldE (exE s σ.top.f) σ.top.L.length 1 1,pY 25 1 0 x.b,pY 16 1 1 x.a,stE (exE s σ.top.f) σ.top.L.length 1 1]=[⟨16,1,0,baseE s σ.top.f+σ.top.L.length-1⟩,⟨25,1,0,x.b⟩,⟨16,1,1,x.a⟩,⟨17,1,0,baseE s σ.top.f+σ.top.L.length-1⟩] by simp[fxE,fixY,ldE,stE,pY,exE]]at ha
 simp only[List.length_cons,List.length_nil]at hnx
 have hi0:=(headD_of hw.top In32.zero).1
 obtain ⟨m1,x1,p1,g1,v1,q1,ha⟩:=go_ld (inp:=inp) (Gm.refl m) h.z ha h.pc (by omega) (by omega) hl
 rw[h.k.top h1]at v1
 rw[show (1:Int).toNat=1 from rfl]at v1
 by_cases hlt:σ.top.L.headD 0<x.b
 ·rw[if_pos hlt]at hI' ⊢
  refine ⟨fun _=>?_,fun hf=>absurd h0 hf⟩
  obtain ⟨m2,x2,p2,g2,r2,ha⟩:=go_chk (inp:=inp) g1 ha p1 (by rw[show (1:Int).toNat=1 from rfl,v1];exact hlt)
  have v2:m2.rg (1:Int).toNat=σ.top.L.headD 0:=by rw[r2];exact v1
  have hm3:=mI_ld inp m2 1 1 x.a (by rw[v2];omega) (by rw[v2,g2.me];omega)
  rw[v2,g2.me]at hm3
  obtain ⟨m3,x3,p3,g3,v3,q3,ha⟩:=go_set (inp:=inp) g2 ha p2 (by omega) hm3
  obtain ⟨m',k1,k2⟩:=push_end hP hI h (hI' h0) rfl rfl rfl h.k.tail rfl rfl g3.rd (g3.d.trans h.d) (x1.trans (x2.trans x3)) ha p3 (by rw[List.length_tail];omega) (by rw[v3,show σ.top.L.headD 0+x.a=x.a+σ.top.L.headD 0 by omega];exact h.w _ (by omega)) (by show _=adr s σ.top.f (σ.top.at_+1);omega)
  exact ⟨4,m',by omega,k1,k2⟩
 ·rw[if_neg hlt]at hI' ⊢
  refine ⟨fun hf=>absurd hf (show (3:Int)≠0 by decide),fun _=>?_⟩
  have hm2:=mI_chk inp m1 1 x.b
  rw[if_neg (by rw[show (1:Int).toNat=1 from rfl,v1];exact hlt)]at hm2
  exact ⟨1,m1,by omega,x1.end_ (Mn.one ha.cons.1 p1 hm2 (by decide)),g1.o.trans h.o⟩
theorem op_astore (hP:SimP s) (hI:InvS s (depS s) σ) (hw:WfS σ) (h:Rk s σ m) (h0:σ.fin=0) (e:(s.ins σ.top.f σ.top.at_).op=5)
 (hx:0≤(s.ins σ.top.f σ.top.at_).a∧0≤(s.ins σ.top.f σ.top.at_).b∧(s.ins σ.top.f σ.top.at_).a+(s.ins σ.top.f σ.top.at_).b≤σ.mem.length) (h1:2≤σ.top.L.length):((stepS s inp σ).fin=0→GoesK s inp σ m)∧((stepS s inp σ).fin≠0→EndsK s inp σ m):=by
 obtain ⟨hl,ha,hnx,hb0,hbd,hbm,hbw,hw0⟩:=cmK hP hI h
 have hs:stepS s inp σ=stepI s inp (s.ins σ.top.f σ.top.at_) σ.next:=stepS_eq h0
 unfold GoesK EndsK
 rw[hs]
 have hml:=hI.mem
 generalize s.ins σ.top.f σ.top.at_=x at *
 have hnt:σ.next.top.L=σ.top.L:=rfl
 have hnm:σ.next.mem=σ.mem:=rfl
 simp only[stepI,e,Int.reduceEq,if_true,if_false,hnt,hnm]
 simp only[insE,e,Int.reduceEq,if_true,if_false]at ha hnx
 rw[show fxE s [ldE (exE s σ.top.f) σ.top.L.length 1 2,pY 25 1 0 x.b,ldE (exE s σ.top.f) σ.top.L.length 2 1,pY 17 2 1 x.a]=[⟨16,1,0,baseE s σ.top.f+σ.top.L.length-2⟩,⟨25,1,0,x.b⟩,⟨16,2,0,baseE s σ.top.f+σ.top.L.length-1⟩,⟨17,2,1,x.a⟩] by simp[fxE,fixY,ldE,pY,exE]]at ha
 simp only[List.length_cons,List.length_nil]at hnx
 have hi0:=(headD_of (tail_of hw.top) In32.zero).1
 obtain ⟨m1,x1,p1,g1,v1,q1,ha⟩:=go_ld (inp:=inp) (Gm.refl m) h.z ha h.pc (by omega) (by omega) hl
 rw[h.k.snd h1]at v1
 rw[show (1:Int).toNat=1 from rfl]at v1
 by_cases hlt:σ.top.L.tail.headD 0<x.b
 ·rw[if_pos hlt]
  refine ⟨fun _=>?_,fun hf=>absurd h0 hf⟩
  obtain ⟨m2,x2,p2,g2,r2,ha⟩:=go_chk (inp:=inp) g1 ha p1 (by rw[show (1:Int).toNat=1 from rfl,v1];exact hlt)
  obtain ⟨m3,x3,p3,g3,v3,q3,ha⟩:=go_ld (inp:=inp) g2 h.z ha p2 (by omega) (by omega) hl
  rw[h.k.top (by omega)]at v3
  have v4:m3.rg (1:Int).toNat=σ.top.L.tail.headD 0:=by rw[q3 _ (by decide),r2];exact v1
  have hm4:=mI_st inp m3 2 1 x.a (by rw[v4];omega) (by rw[v4,g3.me];omega)
  rw[v4,g3.me,v3]at hm4
  refine ⟨4,_,by omega,x1.trans (x2.trans (x3.trans (Mx.one ha.cons.1 p3 hm4))),h.store (a:=x.a+σ.top.L.tail.headD 0) hP hml (by omega) rfl rfl h.k.tail.tail rfl (g3.o.trans h.o) (g3.d.trans h.d) ?_ (g3.z.trans h.z) (g3.u.trans h.u) (by simp only;rw[Int.add_comm])⟩
  show m3.pc+1=((adr s σ.top.f (σ.top.at_+1):Nat):Int);omega
 ·rw[if_neg hlt]
  refine ⟨fun hf=>absurd hf (show (3:Int)≠0 by decide),fun _=>?_⟩
  have hm2:=mI_chk inp m1 1 x.b
  rw[if_neg (by rw[show (1:Int).toNat=1 from rfl,v1];exact hlt)]at hm2
  exact ⟨1,m1,by omega,x1.end_ (Mn.one ha.cons.1 p1 hm2 (by decide)),g1.o.trans h.o⟩
theorem mI_op (inp:ByteArray) (m:Mc) (op a b c:Int) (h:4≤op∧op≤15):mI inp m ⟨op,a,b,c⟩=if (applyW op (m.rg b.toNat) (m.rg c.toNat)).2=0 then (stM m a (applyW op (m.rg b.toNat) (m.rg c.toNat)).1,0) else (m,2):=by
 unfold mI
 simp only[if_neg (show ¬ op=18 by omega),if_neg (show ¬ op=19 by omega),if_neg (show ¬ op=20 by omega),if_neg (show ¬ op=21 by omega),if_neg (show ¬ op=22 by omega),if_neg (show ¬ op=1 by omega),if_neg (show ¬ op=2 by omega),if_neg (show ¬ op=3 by omega),if_neg (show ¬ op=16 by omega),if_neg (show ¬ op=17 by omega),if_neg (show ¬ op=23 by omega),if_neg (show ¬ op=24 by omega),if_neg (show ¬ op=25 by omega),if_neg (show ¬ op=26 by omega)]
theorem op_op (hP:SimP s) (hI:InvS s (depS s) σ) (h:Rk s σ m) (h0:σ.fin=0) (hI':(stepS s inp σ).fin=0→InvS s (depS s) (stepS s inp σ)) (e:(s.ins σ.top.f σ.top.at_).op=6) (hx:4≤(s.ins σ.top.f σ.top.at_).a∧(s.ins σ.top.f σ.top.at_).a≤15) (h1:2≤σ.top.L.length) :
 ((stepS s inp σ).fin=0→GoesK s inp σ m)∧((stepS s inp σ).fin≠0→EndsK s inp σ m):=by
 obtain ⟨hl,ha,hnx,hb0,hbd,hbm,hbw,hw0⟩:=cmK hP hI h
 have hs:stepS s inp σ=stepI s inp (s.ins σ.top.f σ.top.at_) σ.next:=stepS_eq h0
 unfold GoesK EndsK
 rw[hs]at hI' ⊢
 generalize s.ins σ.top.f σ.top.at_=x at *
 have hnt:σ.next.top.L=σ.top.L:=rfl
 simp only[stepI,e,Int.reduceEq,if_true,if_false,hnt]at hI' ⊢
 simp only[insE,e,Int.reduceEq,if_true,if_false]at ha hnx
 rw[show fxE s [ldE (exE s σ.top.f) σ.top.L.length 1 2,ldE (exE s σ.top.f) σ.top.L.length 2 1,pY x.a 1 1 2,stE (exE s σ.top.f) σ.top.L.length 1 2]=[⟨16,1,0,baseE s σ.top.f+σ.top.L.length-2⟩,⟨16,2,0,baseE s σ.top.f+σ.top.L.length-1⟩,⟨x.a,1,1,2⟩,⟨17,1,0,baseE s σ.top.f+σ.top.L.length-2⟩] by simp[fxE,fixY,ldE,stE,pY,exE]]at ha
 simp only[List.length_cons,List.length_nil]at hnx
 obtain ⟨m1,x1,p1,g1,v1,q1,ha⟩:=go_ld (inp:=inp) (Gm.refl m) h.z ha h.pc (by omega) (by omega) hl
 obtain ⟨m2,x2,p2,g2,v2,q2,ha⟩:=go_ld (inp:=inp) g1 h.z ha p1 (by omega) (by omega) hl
 rw[h.k.snd h1]at v1
 rw[h.k.top (by omega)]at v2
 have v1':m2.rg (1:Int).toNat=σ.top.L.tail.headD 0:=by rw[q2 _ (by decide)];exact v1
 have hm3:=mI_op inp m2 x.a 1 1 2 hx
 rw[v1',v2]at hm3
 by_cases hz:(applyW x.a (σ.top.L.tail.headD 0) (σ.top.L.headD 0)).2=0
 ·rw[if_pos hz]at hI' hm3 ⊢
  refine ⟨fun _=>?_,fun hf=>absurd h0 hf⟩
  obtain ⟨m3,x3,p3,g3,v3,q3,ha⟩:=go_set (inp:=inp) g2 ha p2 (by omega) hm3
  obtain ⟨m',k1,k2⟩:=push_end hP hI h (hI' h0) rfl rfl rfl h.k.tail.tail rfl rfl g3.rd (g3.d.trans h.d) (x1.trans (x2.trans x3)) ha p3 (by simp only[List.length_tail];omega) v3 (by show _=adr s σ.top.f (σ.top.at_+1);omega)
  exact ⟨4,m',by omega,k1,k2⟩
 ·rw[if_neg hz]at hI' hm3 ⊢
  refine ⟨fun hf=>absurd hf (show (2:Int)≠0 by decide),fun _=>?_⟩
  exact ⟨2,m2,by omega,(x1.trans x2).end_ (Mn.one ha.cons.1 p2 hm3 (by decide)),g2.o.trans h.o⟩
theorem op_not (hP:SimP s) (hI:InvS s (depS s) σ) (h:Rk s σ m) (h0:σ.fin=0) (hI':InvS s (depS s) (stepS s inp σ)) (e:(s.ins σ.top.f σ.top.at_).op=7) (h1:1≤σ.top.L.length):GoesK s inp σ m:=by
 obtain ⟨hl,ha,hnx,hb0,hbd,hbm,hbw,hw0⟩:=cmK hP hI h
 have hs:stepS s inp σ=stepI s inp (s.ins σ.top.f σ.top.at_) σ.next:=stepS_eq h0
 unfold GoesK
 rw[hs]at hI' ⊢
 generalize s.ins σ.top.f σ.top.at_=x at *
 have hnt:σ.next.top.L=σ.top.L:=rfl
 simp only[stepI,e,Int.reduceEq,if_true,if_false,hnt]at hI' ⊢
 simp only[insE,e,Int.reduceEq,if_true,if_false]at ha hnx
 rw[show fxE s [ldE (exE s σ.top.f) σ.top.L.length 1 1,pY 15 1 1 0,stE (exE s σ.top.f) σ.top.L.length 1 1]=[⟨16,1,0,baseE s σ.top.f+σ.top.L.length-1⟩,⟨15,1,1,0⟩,⟨17,1,0,baseE s σ.top.f+σ.top.L.length-1⟩] by simp[fxE,fixY,ldE,stE,pY,exE]]at ha
 simp only[List.length_cons,List.length_nil]at hnx
 obtain ⟨m1,x1,p1,g1,v1,q1,ha⟩:=go_ld (inp:=inp) (Gm.refl m) h.z ha h.pc (by omega) (by omega) hl
 rw[h.k.top h1]at v1
 have hz:m1.rg (0:Int).toNat=0:=g1.z.trans h.z
 have hm2:=mI_op inp m1 15 1 1 0 (by omega)
 rw[v1,hz]at hm2
 rw[if_pos (by rfl)]at hm2
 obtain ⟨m2,x2,p2,g2,v2,q2,ha⟩:=go_set (inp:=inp) g1 ha p1 (by omega) hm2
 obtain ⟨m',k1,k2⟩:=push_end hP hI h hI' rfl rfl rfl h.k.tail rfl rfl g2.rd (g2.d.trans h.d) (x1.trans x2) ha p2 (by rw[List.length_tail];omega) (by rw[v2];rfl) (by show _=adr s σ.top.f (σ.top.at_+1);omega)
 exact ⟨3,m',by omega,k1,k2⟩
theorem op_jump (hP:SimP s) (hI:InvS s (depS s) σ) (h:Rk s σ m) (h0:σ.fin=0) (e:(s.ins σ.top.f σ.top.at_).op=8) (hx:0≤(s.ins σ.top.f σ.top.at_).a∧(s.ins σ.top.f σ.top.at_).a<((s.fn σ.top.f).code.length:Int)):GoesK s inp σ m:=by
 obtain ⟨hl,ha,hnx,hb0,hbd,hbm,hbw,hw0⟩:=cmK hP hI h
 have hs:stepS s inp σ=stepI s inp (s.ins σ.top.f σ.top.at_) σ.next:=stepS_eq h0
 unfold GoesK
 rw[hs]
 generalize s.ins σ.top.f σ.top.at_=x at *
 simp only[stepI,e,Int.reduceEq,if_true,if_false]
 simp only[insE,e,Int.reduceEq,if_true,if_false]at ha
 rw[show fxE s [jY 18 0 (exE s σ.top.f).fn x.a]=[⟨18,0,0,tgt (endE s).en (endE s).rows ((σ.top.f:Int),x.a)⟩] from rfl,tgt_in hP.r.n0 hI.top.f hx]at ha
 have hm1:mI inp m ⟨18,0,0,((adr s σ.top.f x.a.toNat:Nat):Int)⟩=({ m with pc:=((adr s σ.top.f x.a.toNat:Nat):Int) },0):=by simp[mI]
 exact ⟨1,_,by omega,Mx.one ha h.pc hm1,h.pop rfl rfl h.k rfl h.o h.d rfl h.z h.u rfl⟩
theorem op_zero (hP:SimP s) (hI:InvS s (depS s) σ) (h:Rk s σ m) (h0:σ.fin=0) (e:(s.ins σ.top.f σ.top.at_).op=9) (hx:0≤(s.ins σ.top.f σ.top.at_).a∧(s.ins σ.top.f σ.top.at_).a<((s.fn σ.top.f).code.length:Int)) (h1:1≤σ.top.L.length):GoesK s inp σ m:=by
 obtain ⟨hl,ha,hnx,hb0,hbd,hbm,hbw,hw0⟩:=cmK hP hI h
 have hs:stepS s inp σ=stepI s inp (s.ins σ.top.f σ.top.at_) σ.next:=stepS_eq h0
 unfold GoesK
 rw[hs]
 generalize s.ins σ.top.f σ.top.at_=x at *
 have hnt:σ.next.top.L=σ.top.L:=rfl
 simp only[stepI,e,Int.reduceEq,if_true,if_false,hnt]
 simp only[insE,e,Int.reduceEq,if_true,if_false]at ha hnx
 rw[show fxE s [ldE (exE s σ.top.f) σ.top.L.length 1 1,jY 19 1 (exE s σ.top.f).fn x.a]=[⟨16,1,0,baseE s σ.top.f+σ.top.L.length-1⟩,⟨19,1,0,tgt (endE s).en (endE s).rows ((σ.top.f:Int),x.a)⟩] from rfl,tgt_in hP.r.n0 hI.top.f hx]at ha
 simp only[List.length_cons,List.length_nil]at hnx
 obtain ⟨m1,x1,p1,g1,v1,q1,ha⟩:=go_ld (inp:=inp) (Gm.refl m) h.z ha h.pc (by omega) (by omega) hl
 rw[h.k.top h1]at v1
 have hm2:mI inp m1 ⟨19,1,0,((adr s σ.top.f x.a.toNat:Nat):Int)⟩=({ m1 with pc:=if m1.rg (1:Int).toNat=0 then ((adr s σ.top.f x.a.toNat:Nat):Int) else m1.pc+1 },0):=by simp[mI]
 rw[v1]at hm2
 by_cases hz:σ.top.L.headD 0=0
 ·rw[if_pos hz]at hm2 ⊢
  exact ⟨2,_,by omega,x1.trans (Mx.one ha p1 hm2),h.pop rfl rfl h.k.tail rfl (g1.o.trans h.o) (g1.d.trans h.d) rfl (g1.z.trans h.z) (g1.u.trans h.u) g1.me⟩
 ·rw[if_neg hz]at hm2 ⊢
  exact ⟨2,_,by omega,x1.trans (Mx.one ha p1 hm2),h.pop rfl rfl h.k.tail rfl (g1.o.trans h.o) (g1.d.trans h.d) (by show m1.pc+1=((adr s σ.top.f (σ.top.at_+1):Nat):Int);omega) (g1.z.trans h.z) (g1.u.trans h.u) g1.me⟩
theorem op_get (hP:SimP s) (hI:InvS s (depS s) σ) (h:Rk s σ m) (h0:σ.fin=0) (hI':InvS s (depS s) (stepS s inp σ)) (e:(s.ins σ.top.f σ.top.at_).op=12):GoesK s inp σ m:=by
 obtain ⟨hl,ha,hnx,hb0,hbd,hbm,hbw,hw0⟩:=cmK hP hI h
 have hs:stepS s inp σ=stepI s inp (s.ins σ.top.f σ.top.at_) σ.next:=stepS_eq h0
 unfold GoesK
 rw[hs]at hI' ⊢
 generalize s.ins σ.top.f σ.top.at_=x at *
 have hnt:σ.next.top.L=σ.top.L:=rfl
 have hnr:σ.next.rd=σ.rd:=rfl
 simp only[stepI,e,Int.reduceEq,if_true,if_false,hnt,hnr]at hI' ⊢
 simp only[insE,e,Int.reduceEq,if_true,if_false]at ha hnx
 rw[show fxE s [pY 23 1 0 0,stE (exE s σ.top.f) σ.top.L.length 1 0]=[⟨23,1,0,0⟩,⟨17,1,0,baseE s σ.top.f+σ.top.L.length-0⟩] by simp[fxE,fixY,stE,pY,exE]]at ha
 simp only[List.length_cons,List.length_nil]at hnx
 have g1:∀ v,Gm m (stM m 1 v):=fun v=>(Gm.refl m).stM (by omega)
 by_cases hr:σ.rd<inp.size
 ·rw[if_pos hr]at hI' ⊢
  have hm1:mI inp m ⟨23,1,0,0⟩=({ stM m 1 (byteAt inp m.rd) with rd:=m.rd+1 },0):=by simp only[mI,Int.reduceEq,if_true,if_false];rw[if_pos (by rw[h.d];exact hr)]
  obtain ⟨m',k1,k2⟩:=push_end hP hI h hI' rfl rfl rfl h.k rfl rfl (m1:={ stM m 1 (byteAt inp m.rd) with rd:=m.rd+1 }) (g1 _).rd (by simp only;rw[h.d]) (Mx.one ha.cons.1 h.pc hm1) ha.cons.2 (by show m.pc+1=_;rw[h.pc];omega) (by omega) (by simp only[stM,upM];rw[h.d];rfl) (by show _=adr s σ.top.f (σ.top.at_+1);omega)
  exact ⟨2,m',by omega,k1,k2⟩
 ·rw[if_neg hr]at hI' ⊢
  have hm1:mI inp m ⟨23,1,0,0⟩=(stM m 1 256,0):=by simp only[mI,Int.reduceEq,if_true,if_false];rw[if_neg (by rw[h.d];exact hr)]
  obtain ⟨m',k1,k2⟩:=push_end hP hI h hI' rfl rfl rfl h.k rfl rfl (g1 256).rd h.d (Mx.one ha.cons.1 h.pc hm1) ha.cons.2 (by show m.pc+1=_;rw[h.pc];omega) (by omega) (by simp only[stM,upM];rfl) (by show _=adr s σ.top.f (σ.top.at_+1);omega)
  exact ⟨2,m',by omega,k1,k2⟩
theorem op_put (hP:SimP s) (hI:InvS s (depS s) σ) (h:Rk s σ m) (h0:σ.fin=0) (ho:σ.out.length<65536) (e:(s.ins σ.top.f σ.top.at_).op=13) (h1:1≤σ.top.L.length):GoesK s inp σ m:=by
 obtain ⟨hl,ha,hnx,hb0,hbd,hbm,hbw,hw0⟩:=cmK hP hI h
 have hs:stepS s inp σ=stepI s inp (s.ins σ.top.f σ.top.at_) σ.next:=stepS_eq h0
 unfold GoesK
 rw[hs]
 generalize s.ins σ.top.f σ.top.at_=x at *
 simp only[stepI,e,Int.reduceEq,if_false]
 simp only[insE,e,Int.reduceEq,if_true,if_false]at ha hnx
 rw[show fxE s [ldE (exE s σ.top.f) σ.top.L.length 1 1,pY 24 1 0 0]=[⟨16,1,0,baseE s σ.top.f+σ.top.L.length-1⟩,⟨24,1,0,0⟩] from rfl]at ha
 simp only[List.length_cons,List.length_nil]at hnx
 obtain ⟨m1,x1,p1,g1,v1,q1,ha⟩:=go_ld (inp:=inp) (Gm.refl m) h.z ha h.pc (by omega) (by omega) hl
 rw[h.k.top h1]at v1
 have hm2:mI inp m1 ⟨24,1,0,0⟩=({ m1 with out:=m1.out++[byteM (m1.rg (1:Int).toNat)],pc:=m1.pc+1 },0):=by
  simp only[mI,Int.reduceEq,if_true,if_false];rw[if_neg (by rw[g1.o,h.o];omega)]
 rw[v1]at hm2
 refine ⟨2,_,by omega,x1.trans (Mx.one ha p1 hm2),h.pop rfl rfl h.k.tail rfl ?_ (g1.d.trans h.d) (by show m1.pc+1=((adr s σ.top.f (σ.top.at_+1):Nat):Int);omega) (g1.z.trans h.z) (g1.u.trans h.u) g1.me⟩
 show m1.out++_=σ.out++_
 rw[g1.o,h.o];rfl
end
section
variable {s:SP} {σ:SM} {m m1:Mc} {inp:ByteArray}
theorem Rk.ret (h:Rk s σ m) {c:Fm} {rest:List Fm} (hb:σ.below=c::rest) {m':Mc} (hp:m'.pc=adr s c.f c.at_) (z:m'.rg 0=0) (u:m'.rg 15=1) (hm:m'.me=m.me) (ho:m'.out=m.out) (hd:m'.rd=m.rd):Rk s { σ with top:=c,below:=rest } m':=by
 have b:=h.b
 rw[hb]at b
 obtain ⟨b1,b2,b3,b6,b7⟩:=b
 exact ⟨z,u,hp,by rw[hm];exact h.n,fun a ha=>by rw[hm];exact h.w a ha,ho.trans h.o,hd.trans h.d,by rw[hm];exact b6,by rw[hm];exact b7⟩
theorem mI_ret (inp:ByteArray) (m:Mc) (a:Int):mI inp m ⟨22,a,0,0⟩=({ m with pc:=m.rg a.toNat },0):=by simp[mI]
theorem mI_halt (inp:ByteArray) (m:Mc):mI inp m ⟨26,0,0,0⟩=(m,1):=by simp[mI]
theorem op_ret (hP:SimP s) (hI:InvS s (depS s) σ) (h:Rk s σ m) (h0:σ.fin=0) (hI':(stepS s inp σ).fin=0→InvS s (depS s) (stepS s inp σ)) (e:(s.ins σ.top.f σ.top.at_).op=11) (h1:σ.top.L.length=cntB (s.fn σ.top.f).word) :
 ((stepS s inp σ).fin=0→GoesK s inp σ m)∧((stepS s inp σ).fin≠0→EndsK s inp σ m):=by
 obtain ⟨hl,ha,hnx,hb0,hbd,hbm,hbw,hw0⟩:=cmK hP hI h
 have hs:stepS s inp σ=stepI s inp (s.ins σ.top.f σ.top.at_) σ.next:=stepS_eq h0
 unfold GoesK EndsK
 rw[hs]at hI' ⊢
 generalize s.ins σ.top.f σ.top.at_=x at *
 simp only[stepI,e,Int.reduceEq,if_true,if_false]at hI' ⊢
 simp only[insE,e,Int.reduceEq,if_true,if_false]at ha hnx
 have hB:=h.b
 have hbase:=base_ge (s:=s) σ.top.f
 have hwd:=words_le (s:=s) σ.top.f
 cases hb:σ.below with
 | nil =>
  have hnb:σ.next.below=[]:=hb
  rw[hb]at hB
  have hlast:σ.top.f+1=s.funcs.length:=hB
  have hr:SM.ret s σ.next = { σ.next with fin:=1 }:=by simp only[SM.ret,hnb]
  rw[hr]
  refine ⟨fun hf=>by simp at hf,fun _=>?_⟩
  have:leaveE (exE s σ.top.f) σ.top.L.length=[pY 26 0 0 0]:=by
   unfold leaveE;rw[if_pos (show (exE s σ.top.f).last by unfold Ex.last exE;simp only;omega)]
  rw[this,fx_p]at ha
  exact ⟨0,m,by omega,Mn.one ha h.pc (mI_halt inp m) Int.one_ne_zero,h.o⟩
 | cons c rest =>
  have hnb:σ.next.below=c::rest:=hb
  have hnf:σ.next.top.f=σ.top.f:=rfl
  have hnL:σ.next.top.L=σ.top.L:=rfl
  rw[hb]at hB
  obtain ⟨b1,b2,⟨a,b3,b4,b5⟩,b6,b7⟩:=hB
  have hr:SM.ret s σ.next = { σ.next with top:={ c with L:=(if (s.fn σ.top.f).word then [σ.top.L.headD 0] else [])++c.L },below:=rest }:=by simp only[SM.ret,hnb,hnf,hnL]
  rw[hr]at hI' ⊢
  refine ⟨fun _=>?_,fun hf=>absurd h0 hf⟩
  have hI2:=hI' h0
  have hnl:¬ (exE s σ.top.f).last:=by unfold Ex.last exE;simp only;omega
  have hdm:datE s σ.top.f<m.me.length:=by
   have:=base_back (s:=s) (show σ.top.f+1<s.funcs.length by omega);have:=dpE_nn (depS s σ.top.f);have:=datE_next (s:=s) σ.top.f;omega
  cases hw:(s.fn σ.top.f).word with
  | false =>
   rw[hw]at hI2 b4
   have:leaveE (exE s σ.top.f) σ.top.L.length=[pY 16 14 0 (datE s σ.top.f),pY 22 14 0 0]:=by
    unfold leaveE;rw[if_neg hnl,show (exE s σ.top.f).g.word=false from hw];rfl
   rw[this,show fxE s [pY 16 14 0 (datE s σ.top.f),pY 22 14 0 0]=[⟨16,14,0,datE s σ.top.f⟩,⟨22,14,0,0⟩] from rfl]at ha
   obtain ⟨m1,x1,p1,g1,v1,q1,ha⟩:=go_ld (inp:=inp) (Gm.refl m) h.z ha h.pc (by omega) (by omega) hl
   have hm2:=mI_ret inp m1 14
   rw[v1,b3]at hm2
   refine ⟨2,_,by omega,x1.trans (Mx.one ha p1 hm2),?_⟩
   have:=h.ret hb (m':={ m1 with pc:=(a:Int) }) (by show (a:Int)=_;unfold cntB at b4;simp at b4;omega) (g1.z.trans h.z) (g1.u.trans h.u) g1.me g1.o g1.d
   exact ⟨this.z,this.u,this.pc,this.n,this.w,this.o,this.d,this.k,this.b⟩
  | true =>
   rw[hw]at hI2 b4
   have hL1:σ.top.L.length=1:=by rw[h1,hw];rfl
   have:leaveE (exE s σ.top.f) σ.top.L.length=[ldE (exE s σ.top.f) σ.top.L.length 1 1,pY 16 14 0 (datE s σ.top.f),pY 22 14 0 0]:=by
    unfold leaveE;rw[if_neg hnl,if_pos (show (exE s σ.top.f).g.word=true from hw)];rfl
   rw[this,show fxE s [ldE (exE s σ.top.f) σ.top.L.length 1 1,pY 16 14 0 (datE s σ.top.f),pY 22 14 0 0]=[⟨16,1,0,baseE s σ.top.f+σ.top.L.length-1⟩,⟨16,14,0,datE s σ.top.f⟩,⟨22,14,0,0⟩] from rfl]at ha
   obtain ⟨m1,x1,p1,g1,v1,q1,ha⟩:=go_ld (inp:=inp) (Gm.refl m) h.z ha h.pc (by omega) (by omega) hl
   rw[h.k.top (by omega)]at v1
   obtain ⟨m2,x2,p2,g2,v2,q2,ha⟩:=go_ld (inp:=inp) g1 h.z ha p1 (by omega) (by omega) hl
   have hm3:=mI_ret inp m2 14
   rw[v2,b3]at hm3
   have hat:=b5 hw
   have k2:=h.ret hb (m':={ m with pc:=(adr s c.f c.at_:Int) }) rfl h.z h.u rfl rfl rfl
   have hbd2:=inv_bd hI2
   simp only[if_true,List.length_append,List.length_cons,List.length_nil]at hbd2
   have hn:=h.n
   have hd:=hP.dat
   have hb1:=base_ge (s:=s) c.f
   have hb2:=words_le (s:=s) c.f
   have hb3:=datE_le (s:=s) (show c.f+1≤s.funcs.length by omega)
   have v1':m2.rg (1:Int).toNat=σ.top.L.headD 0:=by rw[q2 _ (by decide)];exact v1
   have hz:m2.rg (0:Int).toNat=0:=g2.z.trans h.z
   have hm4:mI inp { m2 with pc:=(a:Int) } ⟨17,1,0,baseE s c.f+c.L.length⟩=({ m2 with pc:=(a:Int)+1,me:=m.me.set (baseE s c.f+c.L.length).toNat (σ.top.L.headD 0) },0):=by
    have:=mI_st inp { m2 with pc:=(a:Int) } 1 0 (baseE s c.f+c.L.length) (by show 0≤m2.rg (0:Int).toNat+_∧m2.rg (0:Int).toNat+_<_;rw[hz];omega) (by show m2.rg (0:Int).toNat+_<(m2.me.length:Int);rw[hz,g2.me];omega)
    simp only[hz,v1',Int.zero_add]at this
    rw[this,g2.me]
   refine ⟨4,_,by omega,x1.trans (x2.trans ((Mx.one ha.cons.1 p2 hm3).trans (Mx.one hat rfl hm4))),?_⟩
   have hc4:cntB (s.fn σ.top.f).word=1:=by rw[hw];rfl
   have:=k2.push (σ':={ σ.next with top:={ c with L:=σ.top.L.headD 0::c.L },below:=rest }) hP b2 rfl rfl rfl b6 rfl (g2.o.trans h.o) (g2.d.trans h.d) (m':={ m2 with pc:=(a:Int)+1,me:=m.me.set (baseE s c.f+c.L.length).toNat (σ.top.L.headD 0) }) (by show (a:Int)+1=((adr s c.f c.at_:Nat):Int);rw[hw]at hc4;omega) (g2.z.trans h.z) (g2.u.trans h.u) rfl (by show baseE s c.f+c.L.length<datE s (c.f+1);omega)
   exact this
structure Ow (m m1:Mc) (lo hi:Nat) (w:Nat→Int):Prop where
 z:m1.rg 0=m.rg 0
 u:m1.rg 15=m.rg 15
 len:m1.me.length=m.me.length
 me:∀ a,m1.me.getD a default=if lo≤a∧a<hi then w a else m.me.getD a default
 o:m1.out=m.out
 d:m1.rd=m.rd
theorem Ow.refl (m:Mc) (lo:Nat) (w:Nat→Int):Ow m m lo lo w:=⟨rfl,rfl,rfl,fun a=>by rw[if_neg (by omega)],rfl,rfl⟩
theorem Ow.gm {m m1 m2:Mc} {lo hi:Nat} {w:Nat→Int} (h:Ow m m1 lo hi w) (g:Gm m1 m2):Ow m m2 lo hi w:=⟨g.z.trans h.z,g.u.trans h.u,by rw[g.me];exact h.len,fun a=>by rw[g.me];exact h.me a,g.o.trans h.o,g.d.trans h.d⟩
theorem Ow.put {m m1 m2:Mc} {lo hi:Nat} {w:Nat→Int} {v:Int} (h:Ow m m1 lo hi w) (hl:lo≤hi) (hh:hi<m.me.length) (z:m2.rg 0=m1.rg 0) (u:m2.rg 15=m1.rg 15) (me:m2.me=m1.me.set hi v) (o:m2.out=m1.out) (d:m2.rd=m1.rd) (hv:v=w hi):Ow m m2 lo (hi+1) w:=by
 have:=h.len
 refine ⟨z.trans h.z,u.trans h.u,by rw[me,List.length_set];exact h.len,fun a=>?_,o.trans h.o,d.trans h.d⟩
 rw[me]
 by_cases e:hi=a
 ·subst e;rw[getD_set_self (by omega),if_pos (by omega),hv]
 ·rw[getD_set_ne e,h.me a]
  by_cases g:lo≤a∧a<hi
  ·rw[if_pos g,if_pos (by omega)]
  ·rw[if_neg g,if_neg (by omega)]
theorem args_go {code:List Ci} {j p fi:Nat} {b:Int} {L:List Int} {w:Nat→Int} (z:m.rg 0=0) (hk:StkAt m.me b L) (hb:(fi+p:Nat)≤b) (hm:b+L.length≤m.me.length) (hl:m.me.length≤32768) (hpl:p≤L.length) (hw:∀ k,k<p→w (fi+k)=L.getD (p-1-k) default) (hp:m.pc=j) :
 ∀ n,n≤p→At code j ((List.range n).flatMap fun k:Nat=>[⟨16,1,0,b+L.length-((p:Int)-k)⟩,⟨17,1,0,(fi:Int)+k⟩])→∃ m1,Mx code inp (2*n) m m1∧m1.pc=((j+2*n:Nat):Int)∧Ow m m1 fi (fi+n) w
 | 0,_,_=>⟨m,rfl,hp,Ow.refl m fi w⟩
 | n+1,hn,ha=>by
  rw[List.range_succ,List.flatMap_append]at ha
  obtain ⟨ha1,ha2⟩:=ha.app
  obtain ⟨m1,x1,p1,o1⟩:=args_go z hk hb hm hl hpl hw hp n (by omega) ha1
  have hlen:∀ q:Nat,((List.range q).flatMap fun k:Nat=>[(⟨16,1,0,b+L.length-((p:Int)-k)⟩:Ci),⟨17,1,0,(fi:Int)+k⟩]).length=2*q:=fun q=>by
   induction q with
   | zero=>rfl
   | succ q ih=>rw[List.range_succ,List.flatMap_append,List.length_append,ih];simp;omega
  rw[hlen]at ha2
  simp only[List.flatMap_cons,List.flatMap_nil,List.append_nil]at ha2
  have hme:=o1.len
  obtain ⟨m2,x2,p2,g2,v2,q2,ha2⟩:=go_ld (inp:=inp) (Gm.refl m1) (o1.z.trans z) ha2 p1 (by omega) (by omega) (by omega)
  have hv:m1.me.getD (b+L.length-((p:Int)-n)).toNat default=L.getD (p-1-n) default:=by
   rw[o1.me,if_neg (by omega)]
   have:=hk.get (j:=p-1-n) (by omega)
   rw[← this];congr 1;omega
  rw[hv]at v2
  obtain ⟨m3,x3,p3,e3,r3,o3,d3,_⟩:=go_st (inp:=inp) g2 (o1.z.trans z) ha2 p2 (by omega) (by omega)
  rw[v2]at e3
  refine ⟨m3,?_,?_,show Ow m m3 fi (fi+n+1) w from o1.put (v:=L.getD (p-1-n) default) (by omega) (by omega) (by rw[r3];exact g2.z) (by rw[r3];exact g2.u) (by rw[e3];congr 1) o3 d3 (hw n (by omega)).symm⟩
  ·rw[show 2*(n+1)=2*n+(1+1) by omega];exact x1.trans (x2.trans x3)
  ·rw[p3];congr 1
theorem zeros_go {code:List Ci} {j lo:Nat} (z:m.rg 0=0) (hl:m.me.length≤32768) (hp:m.pc=j) :
 ∀ n,lo+n≤m.me.length→At code j ((List.range n).map fun k:Nat=>⟨17,0,0,(lo:Int)+k⟩)→∃ m1,Mx code inp n m m1∧m1.pc=((j+n:Nat):Int)∧Ow m m1 lo (lo+n) (fun _=>0)
 | 0,_,_=>⟨m,rfl,hp,Ow.refl m lo _⟩
 | n+1,hn,ha=>by
  rw[List.range_succ,List.map_append]at ha
  obtain ⟨ha1,ha2⟩:=ha.app
  obtain ⟨m1,x1,p1,o1⟩:=zeros_go z hl hp n (by omega) ha1
  rw[List.length_map,List.length_range]at ha2
  have hme:=o1.len
  obtain ⟨m3,x3,p3,e3,r3,o3,d3,_⟩:=go_st (inp:=inp) (Gm.refl m1) (o1.z.trans z) ha2 p1 (by omega) (by omega)
  rw[show m1.rg (0:Int).toNat=0 from o1.z.trans z]at e3
  exact ⟨m3,x1.trans x3,by rw[p3];congr 1,show Ow m m3 lo (lo+n+1) (fun _=>0) from o1.put (v:=0) (by omega) (by omega) (by rw[r3]) (by rw[r3]) (by rw[e3];congr 1) o3 d3 rfl⟩
theorem mI_bnz (inp:ByteArray) (m:Mc) (a c:Int):mI inp m ⟨20,a,0,c⟩=({ m with pc:=if m.rg a.toNat=0 then m.pc+1 else c },0):=by simp[mI]
theorem loop_go {code:List Ci} {q hi:Nat} (hq:At code q [⟨17,0,1,0⟩,⟨4,1,1,15⟩,⟨14,3,1,2⟩,⟨20,3,0,((q:Nat):Int)⟩]) :
 ∀ (n:Nat) (m:Mc) (lo:Nat),lo+(n+1)=hi→hi≤m.me.length→m.me.length≤32768→m.pc=q→m.rg 0=0→m.rg 15=1→m.rg 1=lo→m.rg 2=hi→∃ m1,Mx code inp (4*(n+1)) m m1∧m1.pc=((q+4:Nat):Int)∧Ow m m1 lo hi (fun _=>0):=by
 intro n
 induction n with
 | zero=>?_
 | succ n ih=>?_
 all_goals intro m lo hlo hhi hl hp z u r1 r2
 all_goals
  have hz:m.rg (0:Int).toNat=0:=z
  have hr1:m.rg (1:Int).toNat=lo:=r1
  have i1:=mI_st inp m 0 1 0 (by rw[hr1];omega) (by rw[hr1];omega)
  rw[hr1,hz,Int.add_zero,Int.toNat_natCast]at i1
  have x1:=Mx.one hq.cons.1 hp i1
  generalize hm1:({ m with me:=m.me.set lo 0,pc:=m.pc+1 }:Mc)=m1 at x1
  have e1:m1.rg=m.rg:=by rw[← hm1]
  have p1:m1.pc=((q+1:Nat):Int):=by rw[← hm1];simp only;omega
  have o1:Ow m m1 lo (lo+1) (fun _=>0):=(Ow.refl m lo (fun _=>0)).put (v:=0) (Nat.le_refl _) (by omega) (by rw[e1]) (by rw[e1]) (by rw[← hm1]) (by rw[← hm1]) (by rw[← hm1]) rfl
  have i2:=mI_op inp m1 4 1 1 15 (by omega)
  rw[show m1.rg (1:Int).toNat=lo by rw[e1];exact r1,show m1.rg (15:Int).toNat=1 by rw[e1];exact u,if_pos (by rfl),show (applyW 4 (lo:Int) 1).1=((lo+1:Nat):Int) from w32_in ⟨by omega,by omega⟩]at i2
  obtain ⟨m2,x2,p2,g2,v2,q2,a2⟩:=go_set (inp:=inp) (Gm.refl m1) hq.cons.2 p1 (by omega) i2
  have i3:=mI_op inp m2 14 3 1 2 (by omega)
  rw[show m2.rg (1:Int).toNat=((lo+1:Nat):Int) from v2,show m2.rg (2:Int).toNat=hi by rw[q2 _ (by decide),e1];exact r2,if_pos (by rfl),show (applyW 14 ((lo+1:Nat):Int) (hi:Int)).1=if ((lo+1:Nat):Int)<hi then 1 else 0 from rfl]at i3
  obtain ⟨m3,x3,p3,g3,v3,q3,a3⟩:=go_set (inp:=inp) g2 a2 p2 (by omega) i3
  have i4:=mI_bnz inp m3 3 ((q:Nat):Int)
  rw[v3]at i4
 ·rw[show (if ((lo+1:Nat):Int)<hi then (1:Int) else 0)=0 from if_neg (by omega),if_pos rfl]at i4
  refine ⟨_,?_,?_,Ow.gm (hi:=hi) ?_ (m2:={ m3 with pc:=m3.pc+1 }) ⟨g3.z,g3.u,g3.me,g3.o,g3.d⟩⟩
  ·exact x1.trans (x2.trans (x3.trans (Mx.one a3 p3 i4)))
  ·show m3.pc+1=_;omega
  ·rw[← hlo];exact o1
 ·rw[show (if ((lo+1:Nat):Int)<hi then (1:Int) else 0)=1 from if_pos (by omega),if_neg (by decide)]at i4
  have o3:Ow m { m3 with pc:=(q:Int) } lo (lo+1) (fun _=>0):=o1.gm ⟨g3.z,g3.u,g3.me,g3.o,g3.d⟩
  obtain ⟨m5,x5,p5,o5⟩:=ih { m3 with pc:=(q:Int) } (lo+1) (by omega) (by rw[o3.len];exact hhi) (by rw[o3.len];exact hl) rfl (o3.z.trans z) (o3.u.trans u) (by show m3.rg 1=_;rw[q3 1 (by decide)];exact v2) (by show m3.rg 2=_;rw[q3 2 (by decide),q2 2 (by decide),e1];exact r2)
  refine ⟨m5,?_,p5,⟨o5.z.trans o3.z,o5.u.trans o3.u,o5.len.trans o3.len,fun a=>?_,o5.o.trans o3.o,o5.d.trans o3.d⟩⟩
  ·rw[show 4*(n+1+1)=1+(1+(1+(1+4*(n+1)))) by omega]
   exact x1.trans (x2.trans (x3.trans ((Mx.one a3 p3 i4).trans x5)))
  ·rw[o5.me,o3.me]
   by_cases g1:lo+1≤a∧a<hi
   ·rw[if_pos g1,if_pos (by omega)]
   ·rw[if_neg g1]
    by_cases g2:lo≤a∧a<lo+1
    ·rw[if_pos g2,if_pos (by omega)]
    ·rw[if_neg g2,if_neg (by omega)]
theorem clear_go {code:List Ci} {j lo hi:Nat} (z:m.rg 0=0) (u:m.rg 15=1) (hl:m.me.length≤32768) (hp:m.pc=j) (hlo:lo≤hi) (hhi:hi≤m.me.length) (ha:At code j (fxE s (clearE j (lo:Int) (hi:Int)))) :
 ∃ n m1,n≤6+4*(hi-lo)∧Mx code inp n m m1∧m1.pc=((j+(clearE j (lo:Int) (hi:Int)).length:Nat):Int)∧Ow m m1 lo hi (fun _=>0):=by
 unfold clearE at ha ⊢
 by_cases h6:(hi:Int)-lo≤6
 ·rw[if_pos h6]at ha ⊢
  rw[show fxE s (zerosE (lo:Int) ((hi:Int)-lo).toNat)=(List.range (hi-lo)).map fun k:Nat=>(⟨17,0,0,(lo:Int)+k⟩:Ci) by
   rw[show ((hi:Int)-lo).toNat=hi-lo by omega];simp[fxE,fixY,zerosE,pY]]at ha
  obtain ⟨m1,x1,p1,o1⟩:=zeros_go (inp:=inp) z hl hp (hi-lo) (by omega) ha
  refine ⟨hi-lo,m1,by omega,x1,?_,?_⟩
  ·rw[p1];simp[zerosE]
  ·rw[show lo+(hi-lo)=hi by omega]at o1;exact o1
 ·rw[if_neg h6]at ha ⊢
  rw[show fxE s [pY 1 1 0 (lo:Int),pY 1 2 0 (hi:Int),pY 17 0 1 0,pY 4 1 1 15,pY 14 3 1 2,pY 20 3 0 ((j+2:Nat):Int)]=[⟨1,1,0,(lo:Int)⟩,⟨1,2,0,(hi:Int)⟩,⟨17,0,1,0⟩,⟨4,1,1,15⟩,⟨14,3,1,2⟩,⟨20,3,0,((j+2:Nat):Int)⟩] from rfl]at ha
  obtain ⟨m1,x1,p1,g1,v1,q1,ha⟩:=go_set (inp:=inp) (Gm.refl m) ha hp (by omega) (mI_li inp m 1 0 _)
  obtain ⟨m2,x2,p2,g2,v2,q2,ha⟩:=go_set (inp:=inp) g1 ha p1 (by omega) (mI_li inp m1 2 0 _)
  obtain ⟨m3,x3,p3,o3⟩:=loop_go (inp:=inp) (hi:=hi) ha (hi-lo-1) m2 lo (by omega) (by rw[g2.me];exact hhi) (by rw[g2.me];exact hl) p2 (g2.z.trans z) (g2.u.trans u) (by rw[q2 1 (by decide)];exact v1) v2
  refine ⟨1+(1+4*(hi-lo-1+1)),m3,by omega,x1.trans (x2.trans x3),p3,⟨o3.z.trans g2.z,o3.u.trans g2.u,by rw[o3.len,g2.me],fun a=>by rw[o3.me,g2.me],o3.o.trans g2.o,o3.d.trans g2.d⟩⟩
end
theorem putR_getD {m l:List Int} {k a:Nat} (h:k+l.length≤m.length):(putR m k l).getD a default=if k≤a∧a<k+l.length then l.getD (a-k) default else m.getD a default:=by
 unfold putR
 simp only[List.getD]
 have e1:(m.take k).length=k:=by simp;omega
 by_cases h1:a<k
 ·rw[if_neg (by omega),List.append_assoc,List.getElem?_append_left (by omega),List.getElem?_take_of_lt h1]
 ·by_cases h2:a<k+l.length
  ·rw[if_pos (by omega),List.getElem?_append_left (by rw[List.length_append];omega),List.getElem?_append_right (by omega),e1]
  ·rw[if_neg (by omega),List.getElem?_append_right (by rw[List.length_append];omega),List.getElem?_drop,List.length_append,e1]
   congr 2;omega
theorem ownW_getD {g:SF} {L:List Int} {i p sl:Nat} (hp:g.params=(p:Int)) (hs:g.slots=(sl:Int)) (h:p≤L.length) (hi:i<sl):(ownW g L).getD i default=if i<p then L.getD (p-1-i) default else 0:=by
 unfold ownW
 rw[hp,hs]
 simp only[Int.toNat_natCast,List.getD]
 have e1:(L.take p).length=p:=by simp;omega
 by_cases h1:i<p
 ·rw[if_pos h1,List.getElem?_append_left (by rw[List.length_reverse];omega),List.getElem?_reverse (by omega),e1,List.getElem?_take_of_lt (by omega)]
 ·rw[if_neg h1,List.getElem?_append_right (by rw[List.length_reverse];omega),List.length_reverse,e1,List.getElem?_replicate]
  split<;>rfl
section
variable {s:SP} {σ:SM} {m m1:Mc} {inp:ByteArray}
theorem mI_call (inp:ByteArray) (m:Mc) (a c:Int):mI inp m ⟨21,a,0,c⟩=({ m with rg:=upM m.rg a.toNat (m.pc+1),pc:=c },0):=by simp[mI]
theorem op_call (hP:SimP s) (hI:InvS s (depS s) σ) (h:Rk s σ m) (h0:σ.fin=0) (e:(s.ins σ.top.f σ.top.at_).op=10) (hx:0≤(s.ins σ.top.f σ.top.at_).a∧(s.ins σ.top.f σ.top.at_).a<(σ.top.f:Int)) (hc:CallOK (s.fn (s.ins σ.top.f σ.top.at_).a.toNat) σ.mem.length σ.top.L.length):GoesK s inp σ m:=by
 obtain ⟨hl,ha,hnx,hb0,hbd,hbm,hbw,hw0⟩:=cmK hP hI h
 have hs:stepS s inp σ=stepI s inp (s.ins σ.top.f σ.top.at_) σ.next:=stepS_eq h0
 unfold GoesK
 rw[hs]
 have hml:=hI.mem
 have hff:=hI.top.f
 generalize s.ins σ.top.f σ.top.at_=x at *
 simp only[stepI,e,Int.reduceEq,if_true,if_false]
 simp only[insE,e,Int.reduceEq,if_true,if_false]at ha hnx
 obtain ⟨c1,c2,c3,c4,c5⟩:=hc
 obtain ⟨g,hg⟩:∃ g:Nat,x.a=(g:Int):=⟨_,(Int.toNat_of_nonneg hx.1).symm⟩
 rw[hg]at hx
 unfold callE at ha hnx
 rw[show (exE s σ.top.f).s=s from rfl]at ha hnx
 unfold SM.call
 simp only[hg,Int.toNat_natCast]at ha hnx c1 c2 c3 c4 c5 ⊢
 obtain ⟨p,hp⟩:∃ p:Nat,(s.fn g).params=(p:Int):=⟨_,(Int.toNat_of_nonneg c1).symm⟩
 obtain ⟨sl,hsl⟩:∃ p:Nat,(s.fn g).slots=(p:Int):=⟨_,(Int.toNat_of_nonneg (Int.le_trans c1 c2)).symm⟩
 obtain ⟨fi,hfi⟩:∃ p:Nat,(s.fn g).first=(p:Int):=⟨_,(Int.toNat_of_nonneg c3).symm⟩
 have hpn:(s.fn g).params.toNat=p:=by omega
 rw[hpn]at ha hnx ⊢
 rw[hp]at c1 c2 c5
 rw[hsl]at c2 c4
 rw[hfi]at c3 c4
 have hgf:g<σ.top.f:=by omega
 have hgl:g<s.funcs.length:=by omega
 have hn:=h.n
 have hd:=hP.dat
 have hn0:=hP.r.n0
 have hbg:=base_back (s:=s) (f:=g) (by omega)
 have hdg:=datE_next (s:=s) g
 have hdp:=dpE_nn (depS s g)
 have hmn:=datE_mono (s:=s) (show g+1≤σ.top.f by omega)
 have hbf:=base_ge (s:=s) σ.top.f
 have hwg:=words_le (s:=s) g
 have eA:fxE s (argsE (exE s σ.top.f) σ.top.L.length (s.fn g) p)=(List.range p).flatMap fun k:Nat=>[⟨16,1,0,baseE s σ.top.f+σ.top.L.length-((p:Int)-k)⟩,⟨17,1,0,(fi:Int)+k⟩]:=by
  unfold argsE
  rw[fxE,fixY,List.map_flatMap]
  congr 1
  funext k
  simp only[argE,ldE,pY,hp,hfi,List.map_cons,List.map_nil]
  rfl
 rw[fxE_app,fxE_app,eA]at ha
 obtain ⟨ha,hret⟩:=ha.app
 obtain ⟨ha,hcall⟩:=ha.app
 rw[show fxE s [jY 21 14 (g:Int) (-1)]=[⟨21,14,0,((entE s g:Nat):Int)⟩] by
  rw[← ent_en hn0 hgl];simp[fxE,fixY,jY,tgt]]at hcall hret
 have hal:((List.range p).flatMap fun k:Nat=>[(⟨16,1,0,baseE s σ.top.f+σ.top.L.length-((p:Int)-k)⟩:Ci),⟨17,1,0,(fi:Int)+k⟩]).length=2*p:=by rw[← eA,fxE_len,argsE_len]
 rw[List.length_append,hal]at hret
 rw[hal]at hcall
 simp only[List.length_cons,List.length_nil]at hret
 simp only[List.length_append,argsE_len,List.length_cons,List.length_nil]at hnx
 obtain ⟨m1,x1,p1,o1⟩:=args_go (inp:=inp) (code:=fixE s) (w:=fun a=>σ.top.L.getD (p-1-(a-fi)) default) h.z h.k (fi:=fi) (by omega) (by omega) hl (by omega) (fun k hk=>by show σ.top.L.getD (p-1-(fi+k-fi)) default=_;congr 1;omega) h.pc p (Nat.le_refl _) ha
 have i2:=mI_call inp m1 14 ((entE s g:Nat):Int)
 have x2:=Mx.one hcall p1 i2
 generalize hm2:({ m1 with rg:=upM m1.rg (14:Int).toNat (m1.pc+1),pc:=((entE s g:Nat):Int) }:Mc)=m2 at x2
 have z2:m2.rg 0=0:=by rw[← hm2];exact o1.z.trans h.z
 have u2:m2.rg 15=1:=by rw[← hm2];exact o1.u.trans h.u
 have v2:m2.rg (14:Int).toNat=((adr s σ.top.f σ.top.at_+2*p+1:Nat):Int):=by rw[← hm2];simp only[upM,if_true];rw[p1];omega
 have e2:m2.me=m1.me:=by rw[← hm2]
 have q2:m2.out=m1.out∧m2.rd=m1.rd:=by rw[← hm2];exact ⟨rfl,rfl⟩
 have p2:m2.pc=((entE s g:Nat):Int):=by rw[← hm2]
 clear hm2 i2
 have l1:=o1.len
 have hh:=at_head (s:=s) hn0 hgl
 have hnl:¬ (exE s g).last:=by unfold Ex.last exE;simp only;omega
 have az:=adr_zero (s:=s) g
 unfold headE at hh az
 rw[if_neg hnl]at hh az
 rw[show (exE s g).g.first+(exE s g).g.params=((fi+p:Nat):Int) by show (s.fn g).first+(s.fn g).params=_;rw[hp,hfi];omega,show (exE s g).g.first+(exE s g).g.slots=((fi+sl:Nat):Int) by show (s.fn g).first+(s.fn g).slots=_;rw[hsl,hfi];omega,show (exE s g).back=datE s g from rfl]at hh az
 rw[fxE_app,fx_p]at hh
 obtain ⟨m3,x3,p3,e3,r3,o3,d3,hh⟩:=go_st (inp:=inp) (Gm.refl m2) z2 hh p2 (by rw[e2];omega) (by rw[e2];omega)
 rw[v2,e2]at e3
 have l3:m3.me.length=m.me.length:=by rw[e3,List.length_set,l1]
 obtain ⟨n4,m4,hn4,x4,p4,o4⟩:=clear_go (s:=s) (inp:=inp) (m:=m3) (by rw[r3];exact z2) (by rw[r3];exact u2) (by omega) p3 (by omega) (by omega) hh
 have hmem:∀ a,m4.me.getD a default=if fi+p≤a∧a<fi+sl then 0 else if a=(datE s g).toNat then ((adr s σ.top.f σ.top.at_+2*p+1:Nat):Int) else if fi≤a∧a<fi+p then σ.top.L.getD (p-1-(a-fi)) default else m.me.getD a default:=fun a=>by
  rw[o4.me]
  by_cases g1:fi+p≤a∧a<fi+sl
  ·rw[if_pos g1,if_pos g1]
  ·rw[if_neg g1,if_neg g1,e3]
   by_cases g2:a=(datE s g).toNat
   ·rw[if_pos g2,← g2,getD_set_self (by omega)]
   ·rw[if_neg g2,getD_set_ne (fun e=>g2 e.symm),o1.me]
 have hret2:(s.fn g).word=true→At (fixE s) (adr s σ.top.f σ.top.at_+2*p+1) [⟨17,1,0,baseE s σ.top.f+(σ.top.L.drop p).length⟩]:=fun hw=>by
  rw[if_pos hw]at hret
  have:fxE s [stE (exE s σ.top.f) σ.top.L.length 1 (s.fn g).params]=[⟨17,1,0,baseE s σ.top.f+(σ.top.L.drop p).length⟩]:=by
   rw[List.length_drop,show ((σ.top.L.length-p:Nat):Int)=σ.top.L.length-(s.fn g).params by omega,← Int.add_sub_assoc];rfl
  rw[this]at hret
  exact hret
 have hcnt:adr s σ.top.f (σ.top.at_+1)=adr s σ.top.f σ.top.at_+2*p+1+cntB (s.fn g).word:=by
  rw[hnx]
  cases (s.fn g).word<;>simp[cntB]<;>omega
 have hl4:=o4.len
 refine ⟨2*p+(1+(1+n4)),m4,by omega,x1.trans (x2.trans (x3.trans x4)),⟨o4.z.trans (by rw[r3];exact z2),o4.u.trans (by rw[r3];exact u2),?_,by rw[hl4,l3];exact h.n,fun a haw=>?_,?_,?_,trivial,hgf,hff,⟨adr s σ.top.f σ.top.at_+2*p+1,?_,hcnt.symm,hret2⟩,?_,?_⟩⟩
 ·rw[p4]
  show _=((adr s g 0:Nat):Int)
  rw[az,List.length_append,List.length_singleton];congr 1;omega
 ·rw[hmem]
  have hol:(ownW (s.fn g) σ.top.L).length=sl:=by
   rw[ownW_length (m:=σ.mem.length) (d:=σ.top.L.length) ⟨by omega,by omega,by omega,by omega,by omega⟩ rfl,hsl];rfl
  show _=(putR σ.mem (s.fn g).first.toNat (ownW (s.fn g) σ.top.L)).getD a default
  rw[hfi,Int.toNat_natCast,putR_getD (by omega),hol]
  by_cases g1:fi+p≤a∧a<fi+sl
  ·rw[if_pos g1,if_pos (by omega),ownW_getD hp hsl (by omega) (by omega),if_neg (by omega)]
  ·rw[if_neg g1,if_neg (by omega)]
   by_cases g2:fi≤a∧a<fi+p
   ·rw[if_pos g2,if_pos (by omega),ownW_getD hp hsl (by omega) (by omega),if_pos (by omega)]
   ·rw[if_neg g2,if_neg (by omega)];exact h.w a haw
 ·rw[o4.o,o3,q2.1,o1.o];exact h.o
 ·rw[o4.d,d3,q2.2,o1.d];exact h.d
 ·show m4.me.getD (datE s g).toNat default=_
  rw[hmem,if_neg (by omega),if_pos rfl]
 ·refine (h.k.drop p).agree fun a g1 g2=>?_
  rw[hmem,if_neg (by omega),if_neg (by omega),if_neg (by omega)]
 ·refine h.b.agree fun a ha=>?_
  have hmn2:=datE_mono (s:=s) (show σ.top.f≤σ.top.f+1 by omega)
  rw[hmem,if_neg (by omega),if_neg (by omega),if_neg (by omega)]
end
set_option maxRecDepth 10000
open Go.V
abbrev words (l:List Int):AV:=.imm 1 (l.map U32)
def regs (f:Nat→Int):List AV:=(List.range 16).map fun k=>U32 (f k)
def stc (pc:Int) (f:Nat→Int) (m:AV) (rd:Int) (out:ByteArray) (st fin:Int):List AV:=I pc::(regs f++[m,I rd,strv out,I st,I fin])
def rnc (code:AV) (inp:ByteArray) (pc:Int) (f:Nat→Int) (m:AV) (rd:Int) (out:ByteArray) (st fin:Int) (own:Bool) (more:AV):List AV :=
 code::strv inp::I pc::(regs f++[m,I rd,strv out,I st,I fin,B own,more])
def updR (f:Nat→Int) (j:Nat) (v:Int):Nat→Int:=fun k=>if k=j then v else f k
theorem regs_length (f:Nat→Int):(regs f).length=16:=rfl
theorem regs_all (f:Nat→Int):(regs f).all AV.one=true:=rfl
theorem regs_get {f:Nat→Int} {j:Nat} (h:j<16):(regs f).getD j .dead=U32 (f j):=by
 simp[regs,List.getD,h]
theorem regs_set {f:Nat→Int} {j:Nat} {v:Int} (h:j<16):(regs f).set j (U32 v)=regs (updR f j v):=by
 refine List.ext_getElem (by simp[regs]) fun i h1 h2=>?_
 rw[List.getElem_set]
 simp only[regs,List.getElem_map,List.getElem_range,updR]
 by_cases e:j=i
 ·subst e;simp
 ·rw[if_neg e,if_neg (fun h=>e h.symm)]
section
variable {pc:Int} {f:Nat→Int} {m:AV} {rd:Int} {out:ByteArray} {st fin:Int} {C:AV→Prop}
theorem stc_length:(stc pc f m rd out st fin).length=22:=rfl
theorem stc_all:(stc pc f m rd out st fin).all AV.one=m.one:=by
 simp[stc,regs_all];simp[AV.one,Value.oneCell']
theorem s_all:cellT (stc pc f m rd out st fin) 0 true 22 C .mk=C (.agg (stc pc f m rd out st fin)):=by
 simp only[cellT,cellW,partOK,partA]
 rw[stc_length];simp
 rw[List.take_of_length_le (by rw[stc_length];exact Nat.le_refl _)]
theorem s_pc:cellT (stc pc f m rd out st fin) 0 false 1 C .mk=C (I pc):=by
 simp only[cellT,cellW,partOK,partA,stc_length];simp[stc,AV.one,Value.oneCell']
theorem s_regs:cellT (stc pc f m rd out st fin) 1 true 16 C .mk=C (.agg (regs f)):=by
 simp only[cellT,cellW,partOK,partA,stc_length]
 simp only[stc,if_true,List.drop_succ_cons,List.drop_zero]
 rw[List.take_append_of_le_length (by rw[regs_length];exact Nat.le_refl _),List.take_of_length_le (by rw[regs_length];exact Nat.le_refl _)]
 simp
theorem s_mem:cellT (stc pc f m rd out st fin) 17 false 1 C .mk=(m.one=true∧C m):=by
 have e:(stc pc f m rd out st fin).getD 17 .dead=m:=rfl
 simp only[cellT,cellW,partOK,partA,stc_length,e];simp
theorem s_rd:cellT (stc pc f m rd out st fin) 18 false 1 C .mk=C (I rd):=by
 have e:(stc pc f m rd out st fin).getD 18 .dead=I rd:=rfl
 simp only[cellT,cellW,partOK,partA,stc_length,e];simp[AV.one,Value.oneCell']
theorem s_out:cellT (stc pc f m rd out st fin) 19 false 1 C .mk=C (strv out):=by
 have e:(stc pc f m rd out st fin).getD 19 .dead=strv out:=rfl
 simp only[cellT,cellW,partOK,partA,stc_length,e];simp[AV.one,Value.oneCell']
theorem s_st:cellT (stc pc f m rd out st fin) 20 false 1 C .mk=C (I st):=by
 have e:(stc pc f m rd out st fin).getD 20 .dead=I st:=rfl
 simp only[cellT,cellW,partOK,partA,stc_length,e];simp[AV.one,Value.oneCell']
theorem s_fin:cellT (stc pc f m rd out st fin) 21 false 1 C .mk=C (I fin):=by
 have e:(stc pc f m rd out st fin).getD 21 .dead=I fin:=rfl
 simp only[cellT,cellW,partOK,partA,stc_length,e];simp[AV.one,Value.oneCell']
theorem ss_mem {x:AV}:(stc pc f m rd out st fin).set 17 x=stc pc f x rd out st fin:=rfl
theorem ss_fin {x:Int}:(stc pc f m rd out st fin).set 21 (I x)=stc pc f m rd out st x:=rfl
theorem s_zero:([.val (.int .i64 0),.val (.int .u32 0),.val (.int .u32 0),.val (.int .u32 0),.val (.int .u32 0),.val (.int .u32 0),.val (.int .u32 0),.val (.int .u32 0),.val (.int .u32 0),.val (.int .u32 0),.val (.int .u32 0),.val (.int .u32 0),.val (.int .u32 0),.val (.int .u32 0),.val (.int .u32 0),.val (.int .u32 0),.val (.int .u32 0),.val (.slice none 0 0),.val (.int .i64 0),.val (.string ⟨#[]⟩),.val (.int .i64 0),.val (.int .i64 0)]:List AV)
 = stc 0 (fun _=>0) nilv 0 ⟨#[]⟩ 0 0:=rfl
theorem s_put {pc':Int} {f':Nat→Int} {m':AV} {rd':Int} {out':ByteArray} {st' fin':Int}:(stc pc f m rd out st fin).take 0++stc pc' f' m' rd' out' st' fin'++(stc pc f m rd out st fin).drop (0+22)=stc pc' f' m' rd' out' st' fin':=by
 rw[List.drop_eq_nil_of_le (by rw[stc_length];exact Nat.le_refl _)];simp
theorem s_put' {pc':Int} {f':Nat→Int} {m':AV} {rd':Int} {out':ByteArray} {st' fin':Int}:stc pc' f' m' rd' out' st' fin'++(stc pc f m rd out st fin).drop 22=stc pc' f' m' rd' out' st' fin':=by
 rw[List.drop_eq_nil_of_le (by rw[stc_length];exact Nat.le_refl _)];simp
variable {code:AV} {inp:ByteArray} {own:Bool} {more:AV}
theorem rnc_length:(rnc code inp pc f m rd out st fin own more).length=26:=rfl
theorem r_code:cellT (rnc code inp pc f m rd out st fin own more) 0 false 1 C .mk=(code.one=true∧C code):=by
 have e:(rnc code inp pc f m rd out st fin own more).getD 0 .dead=code:=rfl
 simp only[cellT,cellW,partOK,partA,rnc_length,e];simp
theorem r_inp:cellT (rnc code inp pc f m rd out st fin own more) 1 false 1 C .mk=C (strv inp):=by
 have e:(rnc code inp pc f m rd out st fin own more).getD 1 .dead=strv inp:=rfl
 simp only[cellT,cellW,partOK,partA,rnc_length,e];simp[AV.one,Value.oneCell']
theorem r_st_:cellT (rnc code inp pc f m rd out st fin own more) 2 true 22 C .mk=C (.agg (stc pc f m rd out st fin)):=by
 have e:((rnc code inp pc f m rd out st fin own more).drop 2).take 22=stc pc f m rd out st fin:=rfl
 simp only[cellT,cellW,partOK,partA,rnc_length,if_true,e];simp
theorem r_pc:cellT (rnc code inp pc f m rd out st fin own more) 2 false 1 C .mk=C (I pc):=by
 have e:(rnc code inp pc f m rd out st fin own more).getD 2 .dead=I pc:=rfl
 simp only[cellT,cellW,partOK,partA,rnc_length,e];simp[AV.one,Value.oneCell']
theorem r_reg {j:Nat} (h:j<16):cellT (rnc code inp pc f m rd out st fin own more) (3+j) false 1 C .mk=C (U32 (f j)):=by
 have e:(rnc code inp pc f m rd out st fin own more).getD (3+j) .dead=U32 (f j):=by
  rw[← regs_get (f:=f) h,rnc,Nat.add_comm,List.getD_cons_succ,List.getD_cons_succ,List.getD_cons_succ]
  simp only[List.getD,List.getElem?_append_left (show j<(regs f).length by rw[regs_length];exact h)]
 simp only[cellT,cellW,partOK,partA,rnc_length,e]
 simp[AV.one,Value.oneCell'];omega
theorem r_mem:cellT (rnc code inp pc f m rd out st fin own more) 19 false 1 C .mk=(m.one=true∧C m):=by
 have e:(rnc code inp pc f m rd out st fin own more).getD 19 .dead=m:=rfl
 simp only[cellT,cellW,partOK,partA,rnc_length,e];simp
theorem r_rd:cellT (rnc code inp pc f m rd out st fin own more) 20 false 1 C .mk=C (I rd):=by
 have e:(rnc code inp pc f m rd out st fin own more).getD 20 .dead=I rd:=rfl
 simp only[cellT,cellW,partOK,partA,rnc_length,e];simp[AV.one,Value.oneCell']
theorem r_out:cellT (rnc code inp pc f m rd out st fin own more) 21 false 1 C .mk=C (strv out):=by
 have e:(rnc code inp pc f m rd out st fin own more).getD 21 .dead=strv out:=rfl
 simp only[cellT,cellW,partOK,partA,rnc_length,e];simp[AV.one,Value.oneCell']
theorem r_st:cellT (rnc code inp pc f m rd out st fin own more) 22 false 1 C .mk=C (I st):=by
 have e:(rnc code inp pc f m rd out st fin own more).getD 22 .dead=I st:=rfl
 simp only[cellT,cellW,partOK,partA,rnc_length,e];simp[AV.one,Value.oneCell']
theorem r_fin:cellT (rnc code inp pc f m rd out st fin own more) 23 false 1 C .mk=C (I fin):=by
 have e:(rnc code inp pc f m rd out st fin own more).getD 23 .dead=I fin:=rfl
 simp only[cellT,cellW,partOK,partA,rnc_length,e];simp[AV.one,Value.oneCell']
theorem r_own:cellT (rnc code inp pc f m rd out st fin own more) 24 false 1 C .mk=C (B own):=by
 have e:(rnc code inp pc f m rd out st fin own more).getD 24 .dead=B own:=rfl
 simp only[cellT,cellW,partOK,partA,rnc_length,e];simp[AV.one,Value.oneCell']
theorem r_more:cellT (rnc code inp pc f m rd out st fin own more) 25 false 1 C .mk=(more.one=true∧C more):=by
 have e:(rnc code inp pc f m rd out st fin own more).getD 25 .dead=more:=rfl
 simp only[cellT,cellW,partOK,partA,rnc_length,e];simp
theorem rs_pc {x:Int}:(rnc code inp pc f m rd out st fin own more).set 2 (I x)=rnc code inp x f m rd out st fin own more:=rfl
theorem rs_reg {j:Nat} {v:Int} (h:j<16):(rnc code inp pc f m rd out st fin own more).set (3+j) (U32 v)=rnc code inp pc (updR f j v) m rd out st fin own more:=by
 rw[rnc,Nat.add_comm,List.set_cons_succ,List.set_cons_succ,List.set_cons_succ,List.set_append_left _ _ (by rw[regs_length];exact h),regs_set h];rfl
theorem rs_mem {x:AV}:(rnc code inp pc f m rd out st fin own more).set 19 x=rnc code inp pc f x rd out st fin own more:=rfl
theorem rs_rd {x:Int}:(rnc code inp pc f m rd out st fin own more).set 20 (I x)=rnc code inp pc f m x out st fin own more:=rfl
theorem rs_out {x:ByteArray}:(rnc code inp pc f m rd out st fin own more).set 21 (strv x)=rnc code inp pc f m rd x st fin own more:=rfl
theorem rs_st {x:Int}:(rnc code inp pc f m rd out st fin own more).set 22 (I x)=rnc code inp pc f m rd out x fin own more:=rfl
theorem rs_fin {x:Int}:(rnc code inp pc f m rd out st fin own more).set 23 (I x)=rnc code inp pc f m rd out st x own more:=rfl
theorem rs_own {x:Bool}:(rnc code inp pc f m rd out st fin own more).set 24 (B x)=rnc code inp pc f m rd out st fin x more:=rfl
theorem rs_more {x:AV}:(rnc code inp pc f m rd out st fin own more).set 25 x=rnc code inp pc f m rd out st fin own x:=rfl
end
structure S where
 pc:Int
 reg:Nat→Int
 mem:List Int
 rd:Int
 out:ByteArray
 st:Int
 fin:Int
abbrev stA (s:S):AV:=.agg (stc s.pc s.reg (words s.mem) s.rd s.out s.st s.fin)
theorem stA_frz' {n:Nat} {H:List VObj} {nx:Nat} {pc:Int} {f:Nat→Int} {m:AV} {mem:List Int} {rd:Int} {out:ByteArray} {st fin:Int} (h:Frz n H nx m (words mem)):Frz n H nx (.agg (stc pc f m rd out st fin)) (stA ⟨pc,f,mem,rd,out,st,fin⟩):=by
 refine Frz.agg ?_
 refine ⟨_,_,rfl,Frz.pure rfl,?_⟩
 have app:∀ {xs ys xs' ys':List AV},FrzL n H nx xs xs'→FrzL n H nx ys ys'→FrzL n H nx (xs++ys) (xs'++ys'):=fun {xs ys xs' ys'} h1 h2=>by
  induction xs generalizing xs' with
  | nil=>simp only[FrzL]at h1;subst h1;exact h2
  | cons x xs ih =>
   obtain ⟨y,ys2,rfl,h3,h4⟩:=h1
   exact ⟨y,_,rfl,h3,ih h4⟩
 refine app (FrzL.pure rfl) ⟨_,_,rfl,h,FrzL.pure rfl⟩
set_option maxRecDepth 10000
open Go.V
section
variable {α:Type}
theorem og0 (L:List α) (o:α) (T:List α):(L++o::T)[L.length]? = some o:=by simp
theorem os0 (L:List α) (o x:α) (T:List α):(L++o::T).set L.length x=L++x::T:=by
 rw[List.set_append_right _ _ (Nat.le_refl _)];simp
theorem ogk (L:List α) (o:α) (T:List α) (k:Nat):(L++o::T)[L.length+(k+1)]? = T[k]?:=by
 rw[List.getElem?_append_right (by omega)];simp
theorem osk (L:List α) (o x:α) (T:List α) (k:Nat):(L++o::T).set (L.length+(k+1)) x=L++o::T.set k x:=by
 rw[List.set_append_right _ _ (by omega)];simp
theorem ogn (T:List α) (x:α) (R:List α):(T++x::R)[T.length]? = some x:=by simp
theorem osn (T:List α) (x y:α) (R:List α):(T++x::R).set T.length y=T++y::R:=by
 rw[List.set_append_right _ _ (Nat.le_refl _)];simp
theorem oadd (L:List α) (o:α) (T:List α) (x:α):(L++o::T)++[x]=L++o::(T++[x]):=by simp
theorem olen (L:List α) (o:α) (T:List α):(L++o::T).length=L.length+(T.length+1):=by simp
theorem onx (T:List α) (x:α):(T++[x]).length=T.length+1:=by simp
end
def nxtM (s:S):Int:=IntKind.i64.wrap (s.pc+1)
def setR (s:S) (a v:Int):S:={ s with reg:=updR s.reg a.toNat v,pc:=nxtM s }
def atW (s:S) (b c:Int):Int:=w32 (s.reg b.toNat+c)
def byteOf (r:Int):UInt8:=UInt8.ofNat (IntKind.u8.wrap r).toNat
def insM (code:List Int) (inp:ByteArray) (s:S) (op a b c:Int):Int × S :=
 if op=18 then (0,{ s with pc:=c })
 else if op=19 then (0,{ s with pc:=if s.reg a.toNat=0 then c else nxtM s })
 else if op=20 then (0,{ s with pc:=if s.reg a.toNat=0 then nxtM s else c })
 else if op=21 then (0,{ s with reg:=updR s.reg a.toNat (w32 (nxtM s)),pc:=c })
 else if op=22 then (0,{ s with pc:=s.reg a.toNat })
 else if op=1 then (0,setR s a c)
 else if op=2 then (0,setR s a (s.reg a.toNat % 65536+c*65536))
 else if op=3 then (0,setR s a (s.reg b.toNat))
 else if op=16 then (if atW s b c<s.mem.length then (0,setR s a (s.mem.getD (atW s b c).toNat default)) else (8,s))
 else if op=17 then (if atW s b c<s.mem.length then (0,{ s with mem:=s.mem.set (atW s b c).toNat (s.reg a.toNat),pc:=nxtM s }) else (8,s))
 else if op=27 then (if atW s b c<code.length then (0,setR s a (code.getD (atW s b c).toNat default)) else (8,s))
 else if op=23 then (0,if s.rd<0∨(inp.size:Int)≤s.rd then setR s a 256 else setR { s with rd:=IntKind.i64.wrap (s.rd+1) } a (byteAt inp s.rd.toNat))
 else if op=24 then (if 65536≤s.out.size then (4,s) else (0,{ s with out:=s.out.push (byteOf (s.reg a.toNat)),pc:=nxtM s }))
 else if op=25 then (if s.reg a.toNat<c then (0,{ s with pc:=nxtM s }) else (3,s))
 else if op=26 then (1,s)
 else if (applyW op (s.reg b.toNat) (s.reg c.toNat)).2=0 then (0,setR s a (applyW op (s.reg b.toNat) (s.reg c.toNat)).1) else (2,s)
section
variable (code:List Int) (inp:ByteArray) (pc:Int) (f:Nat→Int) (m:AV) (rd:Int) (out:ByteArray) (st fin:Int) (own:Bool) (more:AV) (L T:List VObj) (s nx:Nat)
abbrev rob (s:Nat) (cs:List AV):VObj:=⟨s,131,1,cs⟩
theorem jump_vM (op a b c:Int) (ho:op=18∨op=19∨op=20∨op=21∨op=22) (ha:0≤a∧a≤15) (hf:∀ k,In32 (f k)) (C:AV→List VObj→Nat→Prop)
 (hC:∀ r T' nx',C r (L++rob s (rnc (words code) inp (insM code inp ⟨pc,f,[],rd,out,st,fin⟩ op a b c).2.pc (insM code inp ⟨pc,f,[],rd,out,st,fin⟩ op a b c).2.reg m rd out st fin own more)::(T++T')) nx') :
 VCall Tryz.prog 93 [.ptr L.length s 0,insA op a b c] (L++rob s (rnc (words code) inp pc f m rd out st fin own more)::T) nx C:=by
 refine VCall.of_body hmix f_machine_Runner_jump (by simp) ?_
 obtain ⟨ha1,ha2⟩:=ha
 have hj:a.toNat<16:=by omega
 have hw:IntKind.i64.wrap (f a.toNat)=f a.toNat:=by
  have:=hf a.toNat
  exact i64_in (by have:=this.1;omega) (by have:=this.2;omega)
 rcases ho with rfl | rfl | rfl | rfl | rfl
 ·simp only[go_sem,c_machine_Runner_jump,olen,oadd,og0,os0,ogk,rnc_length,r_pc,rs_pc,Int.reduceBEq]
  repeat (refine And.intro (by omega) ?_)
  exact hC _ [_] _
 ·by_cases h:f a.toNat=0
  ·simp only[go_sem,c_machine_Runner_jump,olen,oadd,og0,os0,ogk,rnc_length,r_pc,r_reg hj,rs_pc,Int.reduceBEq,eq_true h]
   repeat (refine And.intro (by omega) ?_)
   have:=hC (AV.tup []) [⟨nx,55,1,[I 19,I a,I b,I c]⟩] (nx+1)
   rw[show (insM code inp ⟨pc,f,[],rd,out,st,fin⟩ 19 a b c).2=⟨c,f,[],rd,out,st,fin⟩ by show (S.mk (if f a.toNat=0 then c else _) f [] rd out st fin)=_;rw[if_pos h]]at this
   exact this
  ·simp only[go_sem,c_machine_Runner_jump,olen,oadd,og0,os0,ogk,rnc_length,r_pc,r_reg hj,rs_pc,Int.reduceBEq,eq_false h]
   repeat (refine And.intro (by omega) ?_)
   have:=hC (AV.tup []) [⟨nx,55,1,[I 19,I a,I b,I c]⟩] (nx+1)
   rw[show (insM code inp ⟨pc,f,[],rd,out,st,fin⟩ 19 a b c).2=⟨IntKind.i64.wrap (pc+1),f,[],rd,out,st,fin⟩ by show (S.mk (if f a.toNat=0 then c else _) f [] rd out st fin)=_;rw[if_neg h];rfl]at this
   exact this
 ·by_cases h:f a.toNat=0
  ·simp only[go_sem,c_machine_Runner_jump,olen,oadd,og0,os0,ogk,rnc_length,r_pc,r_reg hj,rs_pc,Int.reduceBEq,eq_true h,not_true_eq_false]
   repeat (refine And.intro (by omega) ?_)
   have:=hC (AV.tup []) [⟨nx,55,1,[I 20,I a,I b,I c]⟩] (nx+1)
   rw[show (insM code inp ⟨pc,f,[],rd,out,st,fin⟩ 20 a b c).2=⟨IntKind.i64.wrap (pc+1),f,[],rd,out,st,fin⟩ by show (S.mk (if f a.toNat=0 then _ else c) f [] rd out st fin)=_;rw[if_pos h];rfl]at this
   exact this
  ·simp only[go_sem,c_machine_Runner_jump,olen,oadd,og0,os0,ogk,rnc_length,r_pc,r_reg hj,rs_pc,Int.reduceBEq,eq_false h,not_false_eq_true]
   repeat (refine And.intro (by omega) ?_)
   have:=hC (AV.tup []) [⟨nx,55,1,[I 20,I a,I b,I c]⟩] (nx+1)
   rw[show (insM code inp ⟨pc,f,[],rd,out,st,fin⟩ 20 a b c).2=⟨c,f,[],rd,out,st,fin⟩ by show (S.mk (if f a.toNat=0 then _ else c) f [] rd out st fin)=_;rw[if_neg h]]at this
   exact this
 ·simp only[go_sem,c_machine_Runner_jump,olen,oadd,og0,os0,ogk,rnc_length,r_pc,rs_pc,rs_reg hj,Int.reduceBEq]
  repeat (refine And.intro (by omega) ?_)
  exact hC _ [_] _
 ·simp only[go_sem,c_machine_Runner_jump,olen,oadd,og0,os0,ogk,rnc_length,r_pc,r_reg hj,rs_pc,Int.reduceBEq,hw]
  repeat (refine And.intro (by omega) ?_)
  have e1:(insM code inp ⟨pc,f,[],rd,out,st,fin⟩ 22 a b c).2=⟨f a.toNat,f,[],rd,out,st,fin⟩:=rfl
  rw[e1]at hC
  exact hC _ [_] _
theorem get_v (a:Int) (ha:0≤a∧a≤15) (hi:inp.size≤1000000000) (C:AV→List VObj→Nat→Prop)
 (hC:∀ r,C r (L++rob s (rnc (words code) inp pc (updR f a.toNat (if rd<0∨(inp.size:Int)≤rd then 256 else byteAt inp rd.toNat)) m (if rd<0∨(inp.size:Int)≤rd then rd else IntKind.i64.wrap (rd+1)) out st fin own more)::T) nx) :
 VCall Tryz.prog 95 [.ptr L.length s 0,I a] (L++rob s (rnc (words code) inp pc f m rd out st fin own more)::T) nx C:=by
 refine VCall.of_body hmix f_machine_Runner_get (by simp) ?_
 obtain ⟨ha1,ha2⟩:=ha
 have hj:a.toNat<16:=by omega
 by_cases h1:rd<0
 ·simp only[if_pos (show rd<0∨(inp.size:Int)≤rd from .inl h1)]at hC
  simp only[go_sem,c_machine_Runner_get,og0,os0,rnc_length,rs_reg hj,r_rd,eq_true h1]
  repeat (refine And.intro (by omega) ?_)
  exact hC _
 by_cases h2:(inp.size:Int)≤rd
 ·simp only[if_pos (show rd<0∨(inp.size:Int)≤rd from .inr h2)]at hC
  simp only[go_sem,c_machine_Runner_get,og0,os0,rnc_length,rs_reg hj,r_inp,r_rd,eq_false h1,eq_true h2]
  repeat (refine And.intro (by omega) ?_)
  exact hC _
 ·simp only[if_neg (show ¬ (rd<0∨(inp.size:Int)≤rd) from fun q=>q.elim h1 h2)]at hC
  have hb:IntKind.u32.wrap (byteAt inp rd.toNat)=byteAt inp rd.toNat:=by
   refine w32_in ⟨?_,?_⟩<;>unfold byteAt
   ·omega
   ·have:=(inp.data.toList.getD rd.toNat 0).toNat_lt;omega
  simp only[go_sem,c_machine_Runner_get,og0,os0,rnc_length,rs_reg hj,r_inp,r_rd,rs_rd,eq_false h1,eq_false h2,hb]
  repeat (refine And.intro (by omega) ?_)
  exact hC _
end
set_option maxRecDepth 10000
open Go.V
def MemAt (L T:List VObj) (m:AV) (own:Bool) (mem:List Int):Prop :=
 (own=false∧m=words mem)∨(own=true∧∃ k sm,m = .ref (L.length+(k+1)) sm 0 mem.length∧T[k]? = some ⟨sm,56,1,mem.map U32⟩)
def MoreAt (L T:List VObj) (m:AV) (bs:List UInt8):Prop :=
 (m=nilv∧bs=[])∨∃ k sm,m = .ref (L.length+(k+1)) sm 0 bs.length∧T[k]? = some ⟨sm,5,1,bs.map U8⟩
theorem MemAt.add {L T:List VObj} {m:AV} {own:Bool} {mem:List Int} (h:MemAt L T m own mem) (R:List VObj):MemAt L (T++R) m own mem:=by
 rcases h with h | ⟨h1,k,sm,h2,h3⟩
 ·exact .inl h
 ·exact .inr ⟨h1,k,sm,h2,by rw[List.getElem?_append_left (List.getElem?_eq_some_iff.1 h3).1];exact h3⟩
theorem MoreAt.add {L T:List VObj} {m:AV} {bs:List UInt8} (h:MoreAt L T m bs) (R:List VObj):MoreAt L (T++R) m bs:=by
 rcases h with h | ⟨k,sm,h2,h3⟩
 ·exact .inl h
 ·exact .inr ⟨k,sm,h2,by rw[List.getElem?_append_left (List.getElem?_eq_some_iff.1 h3).1];exact h3⟩
def Keep (T T':List VObj):Prop:=∀ (k:Nat) (ob:VObj),T[k]? = some ob→(ob.sz=0∨(ob.ty≠56∧ob.ty≠5))→T'[k]? = some ob
theorem Keep.refl (T:List VObj):Keep T T:=fun _ _ h _=>h
theorem Keep.add {T:List VObj} (R:List VObj):Keep T (T++R):=fun k ob h _=>by rw[List.getElem?_append_left (List.getElem?_eq_some_iff.1 h).1];exact h
theorem Keep.trans {T T' T'':List VObj} (h:Keep T T') (k:Keep T' T''):Keep T T'':=fun i ob h1 h2=>k i ob (h i ob h1 h2) h2
theorem Keep.put {T:List VObj} {k:Nat} {ob ob':VObj} (h:T[k]? = some ob) (hz:ob.sz≠0) (ht:ob.ty=56∨ob.ty=5) (R:List VObj):Keep T ((T++R).set k ob'):=fun i o h1 h2=>by
 have hne:k≠i:=fun e=>by
  subst e;rw[h]at h1;cases h1
  rcases h2 with h2 | ⟨h2,h3⟩
  ·exact hz h2
  rcases ht with e | e
  ·exact h2 e
  ·exact h3 e
 rw[List.getElem?_set,if_neg hne,List.getElem?_append_left (List.getElem?_eq_some_iff.1 h1).1];exact h1
theorem MemAt.one {L T:List VObj} {m:AV} {own:Bool} {mem:List Int} (h:MemAt L T m own mem):m.one=true:=by
 rcases h with ⟨_,h⟩ | ⟨_,k,sm,h,_⟩<;>rw[h]<;>rfl
theorem MoreAt.one {L T:List VObj} {m:AV} {bs:List UInt8} (h:MoreAt L T m bs):m.one=true:=by
 rcases h with ⟨h,_⟩ | ⟨k,sm,h,_⟩<;>rw[h]<;>rfl
theorem MoreAt.put {L T:List VObj} {m:AV} {bs:List UInt8} (h:MoreAt L T m bs) {k sm:Nat} {cs cs':List AV} (hk:T[k]? = some ⟨sm,56,1,cs⟩) (R:List VObj):MoreAt L ((T++R).set k ⟨sm,56,1,cs'⟩) m bs:=by
 rcases h with h | ⟨j,s2,h2,h3⟩
 ·exact .inl h
 ·refine .inr ⟨j,s2,h2,?_⟩
  have hne:k≠j:=fun e=>by
   subst e;rw[hk]at h3
   simp only[Option.some.injEq,VObj.mk.injEq]at h3
   exact absurd h3.2.1 (by decide)
  rw[List.getElem?_set,if_neg hne,List.getElem?_append_left (List.getElem?_eq_some_iff.1 h3).1];exact h3
theorem clone_v (l:List Int) (hl:l≠[]) (hn:l.length≤1000000) (H:List VObj) (nx:Nat) (C:AV→List VObj→Nat→Prop)
 (hC:∀ sm nx',C (.ref H.length sm 0 l.length) (H++[⟨sm,56,1,l.map U32⟩]) nx'):VCall Tryz.prog 100 [words l] H nx C:=by
 refine VCall.of_body hmix f_slices_Clone__uint32uint32 (by simp) ?_
 have hall:allCells (l.map U32)=l.map U32:=allCells_map1 (fun _=>rfl) l
 have hmx:(2000000:Nat)≤maxLen:=by decide
 simp only[go_sem,c_slices_Clone__uint32uint32,ogn,osn,hall]
 refine ⟨by simpa using hl,?_⟩
 repeat (refine And.intro (by first | omega | (intro y hy;obtain ⟨x,_,rfl⟩:=List.mem_map.1 hy;rfl)) ?_)
 exact hC _ _
section
variable (code:List Int) (inp:ByteArray) (pc:Int) (f:Nat→Int) (m:AV) (mem:List Int) (rd:Int) (out outT:ByteArray) (st fin:Int) (own:Bool) (more:AV) (L T:List VObj) (s nx:Nat)
theorem move_v (op a b c:Int) (ho:op=16∨op=17∨op=27) (ha:0≤a∧a≤15) (hb:0≤b∧b≤15) (hc:0≤c∧c≤65535) (hm:MemAt L T m own mem) (hl:mem.length≤1000000) (C:AV→List VObj→Nat→Prop)
 (hC:∀ T' m' own' nx',MemAt L T' m' own' (insM code inp ⟨pc,f,mem,rd,outT,st,fin⟩ op a b c).2.mem→(∀ mo bs,MoreAt L T mo bs→MoreAt L T' mo bs)→Keep T T' →
   C (B (decide ((insM code inp ⟨pc,f,mem,rd,outT,st,fin⟩ op a b c).1=0))) (L++rob s (rnc (words code) inp pc (insM code inp ⟨pc,f,mem,rd,outT,st,fin⟩ op a b c).2.reg m' rd out st fin own' more)::T') nx') :
 VCall Tryz.prog 94 [.ptr L.length s 0,insA op a b c] (L++rob s (rnc (words code) inp pc f m rd out st fin own more)::T) nx C:=by
 refine VCall.of_body hmix f_machine_Runner_move (by simp) ?_
 obtain ⟨ha1,ha2⟩:=ha
 obtain ⟨hb1,hb2⟩:=hb
 obtain ⟨hc1,hc2⟩:=hc
 have hj:a.toNat<16:=by omega
 have hk:b.toNat<16:=by omega
 have e1:IntKind.u32.wrap c=c:=w32_in ⟨by omega,by omega⟩
 obtain ⟨at_,hat⟩:∃ x,IntKind.u32.wrap (f b.toNat+c)=x:=⟨_,rfl⟩
 have hatW:atW ⟨pc,f,mem,rd,outT,st,fin⟩ b c=at_:=hat
 have h32:In32 at_:=hat▸w32_ok _
 have e2:IntKind.i64.wrap at_=at_:=i64_in (by have:=h32.1;omega) (by have:=h32.2;omega)
 have h0:=h32.1
 have hone:=hm.one
 have hs3:26=(rnc (words code) inp pc f m rd out st fin own more).length:=rfl
 have hT':∀ {k:Nat} {ob:VObj},T[k]? = some ob→∀ R,(T++R)[k]? = some ob:=fun h R=>by rw[List.getElem?_append_left (List.getElem?_eq_some_iff.1 h).1];exact h
 rcases ho with rfl | rfl | rfl
 ·
  have hins:insM code inp ⟨pc,f,mem,rd,outT,st,fin⟩ 16 a b c=if at_<mem.length then (0,setR ⟨pc,f,mem,rd,outT,st,fin⟩ a (mem.getD at_.toNat default)) else (8,⟨pc,f,mem,rd,outT,st,fin⟩):=by
   show (if atW ⟨pc,f,mem,rd,outT,st,fin⟩ b c<mem.length then _ else _)=_
   rw[hatW]
  rw[hins]at hC
  by_cases h1:at_<mem.length
  ·rw[if_pos h1]at hC
   have h1':=eq_false (show ¬ (mem.length:Int)≤at_ by omega)
   rcases hm with ⟨rfl,rfl⟩ | ⟨rfl,k,sm,rfl,hT⟩
   ·simp only[go_sem,c_machine_Runner_move,olen,oadd,og0,os0,ogk,rnc_length,r_reg hk,r_mem,rs_reg hj,Int.reduceBEq,e1,hat,e2,h1']
    repeat (refine And.intro (by omega) ?_)
    exact hC _ _ _ _ (.inl ⟨rfl,rfl⟩) (fun _ _ h=>h.add _) (Keep.add _)
   ·have hT2:=hT' hT
    simp only[go_sem,c_machine_Runner_move,olen,oadd,og0,os0,ogk,rnc_length,r_reg hk,r_mem,cellT_U32,rs_reg hj,Int.reduceBEq,e1,hat,e2,hT2,h1']
    repeat (refine And.intro (by first | omega | simp) ?_)
    exact hC _ _ _ _ (.inr ⟨rfl,k,sm,rfl,hT2 _⟩) (fun _ _ h=>h.add _) (Keep.add _)
  ·rw[if_neg h1]at hC
   have h1':=eq_true (show (mem.length:Int)≤at_ by omega)
   rcases hm with ⟨rfl,rfl⟩ | ⟨rfl,k,sm,rfl,hT⟩
   ·simp only[go_sem,c_machine_Runner_move,olen,oadd,og0,ogk,r_reg hk,r_mem,Int.reduceBEq,e1,hat,e2,h1']
    repeat (refine And.intro (by omega) ?_)
    exact hC _ _ _ _ (.inl ⟨rfl,rfl⟩) (fun _ _ h=>h.add _) (Keep.add _)
   ·have hT2:=hT' hT
    simp only[go_sem,c_machine_Runner_move,olen,oadd,og0,ogk,r_reg hk,r_mem,Int.reduceBEq,e1,hat,e2,hT2,h1']
    repeat (refine And.intro (by first | omega | simp) ?_)
    exact hC _ _ _ _ (.inr ⟨rfl,k,sm,rfl,hT2 _⟩) (fun _ _ h=>h.add _) (Keep.add _)
 ·
  have hins:insM code inp ⟨pc,f,mem,rd,outT,st,fin⟩ 17 a b c=if at_<mem.length then (0,⟨nxtM ⟨pc,f,mem,rd,outT,st,fin⟩,f,mem.set at_.toNat (f a.toNat),rd,outT,st,fin⟩) else (8,⟨pc,f,mem,rd,outT,st,fin⟩):=by
   show (if atW ⟨pc,f,mem,rd,outT,st,fin⟩ b c<mem.length then _ else _)=_
   rw[hatW]
  rw[hins]at hC
  by_cases h1:at_<mem.length
  ·rw[if_pos h1]at hC
   have h1':=eq_false (show ¬ (mem.length:Int)≤at_ by omega)
   rcases hm with ⟨rfl,rfl⟩ | ⟨rfl,k,sm,rfl,hT⟩
   ·simp only[go_sem,c_machine_Runner_move,olen,oadd,og0,ogk,r_own,r_reg hk,r_mem,Int.reduceBEq,e1,hat,e2,h1']
    repeat (refine And.intro (by omega) ?_)
    refine clone_v mem (fun e=>by subst e;simp at h1;omega) hl _ _ _ fun sm nx'=>?_
    simp only[go_sem,olen,oadd,og0,os0,ogk,osk,rnc_length,r_reg hj,r_mem,rs_mem,rs_own,e1,hat,e2]
    repeat (refine And.intro (by first | omega | simp) ?_)
    have hcs:(mem.map U32).set at_.toNat (U32 (f a.toNat))=(mem.set at_.toNat (f a.toNat)).map U32:=set_map U32 _ _ _
    rw[hcs]
    refine hC _ _ true _ (.inr ⟨rfl,T.length+1,sm,?_,?_⟩) (fun _ _ h=>h.add _) (Keep.add _)
    ·simp
    ·rw[List.getElem?_append_right (by omega)];simp
   ·have hT2:=hT' hT
    simp only[go_sem,c_machine_Runner_move,olen,oadd,og0,ogk,osk,r_own,r_reg hj,r_reg hk,r_mem,Int.reduceBEq,e1,hat,e2,hT2,h1']
    repeat (refine And.intro (by first | omega | simp) ?_)
    have hcs:(mem.map U32).set at_.toNat (U32 (f a.toNat))=(mem.set at_.toNat (f a.toNat)).map U32:=set_map U32 _ _ _
    rw[hcs]
    have hkl:=(List.getElem?_eq_some_iff.1 hT).1
    refine hC _ _ true _ (.inr ⟨rfl,k,sm,?_,?_⟩) (fun _ _ h=>h.put hT _) (Keep.put hT (by show (1:Nat)≠0;omega) (.inl rfl) _)
    ·simp
    ·rw[List.getElem?_set,if_pos rfl,if_pos (by simp;omega)]
  ·rw[if_neg h1]at hC
   have h1':=eq_true (show (mem.length:Int)≤at_ by omega)
   rcases hm with ⟨rfl,rfl⟩ | ⟨rfl,k,sm,rfl,hT⟩
   ·simp only[go_sem,c_machine_Runner_move,olen,oadd,og0,ogk,r_reg hk,r_mem,Int.reduceBEq,e1,hat,e2,h1']
    repeat (refine And.intro (by omega) ?_)
    exact hC _ _ _ _ (.inl ⟨rfl,rfl⟩) (fun _ _ h=>h.add _) (Keep.add _)
   ·have hT2:=hT' hT
    simp only[go_sem,c_machine_Runner_move,olen,oadd,og0,ogk,r_reg hk,r_mem,Int.reduceBEq,e1,hat,e2,hT2,h1']
    repeat (refine And.intro (by first | omega | simp) ?_)
    exact hC _ _ _ _ (.inr ⟨rfl,k,sm,rfl,hT2 _⟩) (fun _ _ h=>h.add _) (Keep.add _)
 ·
  have hins:insM code inp ⟨pc,f,mem,rd,outT,st,fin⟩ 27 a b c=if at_<code.length then (0,setR ⟨pc,f,mem,rd,outT,st,fin⟩ a (code.getD at_.toNat default)) else (8,⟨pc,f,mem,rd,outT,st,fin⟩):=by
   show (if atW ⟨pc,f,mem,rd,outT,st,fin⟩ b c<code.length then _ else _)=_
   rw[hatW]
  rw[hins]at hC
  have hmm:∀ R,MemAt L (T++R) m own mem:=fun R=>hm.add R
  by_cases h1:at_<code.length
  ·rw[if_pos h1]at hC
   have h1':=eq_false (show ¬ (code.length:Int)≤at_ by omega)
   simp only[go_sem,c_machine_Runner_move,olen,oadd,og0,os0,ogk,rnc_length,r_code,r_reg hk,rs_reg hj,Int.reduceBEq,e1,hat,e2,h1']
   repeat (refine And.intro (by omega) ?_)
   exact hC _ _ _ _ (hmm _) (fun _ _ h=>h.add _) (Keep.add _)
  ·rw[if_neg h1]at hC
   have h1':=eq_true (show (code.length:Int)≤at_ by omega)
   simp only[go_sem,c_machine_Runner_move,olen,oadd,og0,ogk,r_code,r_reg hk,Int.reduceBEq,e1,hat,e2,h1']
   repeat (refine And.intro (by omega) ?_)
   exact hC _ _ _ _ (hmm _) (fun _ _ h=>h.add _) (Keep.add _)
end
set_option maxRecDepth 10000
open Go.V
theorem MemAt.put {L T:List VObj} {m:AV} {own:Bool} {mem:List Int} (h:MemAt L T m own mem) {k sm s':Nat} {cs cs':List AV} (hk:T[k]? = some ⟨sm,5,1,cs⟩) (R:List VObj):MemAt L ((T++R).set k ⟨s',5,1,cs'⟩) m own mem:=by
 rcases h with h | ⟨h1,j,s2,h2,h3⟩
 ·exact .inl h
 ·refine .inr ⟨h1,j,s2,h2,?_⟩
  have hne:k≠j:=fun e=>by
   subst e;rw[hk]at h3
   simp only[Option.some.injEq,VObj.mk.injEq]at h3
   exact absurd h3.2.1 (by decide)
  rw[List.getElem?_set,if_neg hne,List.getElem?_append_left (List.getElem?_eq_some_iff.1 h3).1];exact h3
theorem MoreAt.size {L T:List VObj} {m:AV} {bs:List UInt8} (h:MoreAt L T m bs):(m=nilv∧bs=[])∨∃ k sm,m = .ref (L.length+(k+1)) sm 0 bs.length∧T[k]? = some ⟨sm,5,1,bs.map U8⟩:=h
theorem lui_eq {r c:Int} (hr:In32 r) (hc1:0≤c) (hc2:c≤65535):IntKind.u32.wrap (((BitVec.ofInt IntKind.u32.bits (IntKind.u32.wrap (((BitVec.ofInt IntKind.u32.bits r &&& BitVec.ofInt IntKind.u32.bits 65535).toNat:Nat):Int)) ||| BitVec.ofInt IntKind.u32.bits (IntKind.u32.wrap (c*2 ^ (min 16 IntKind.u32.bits)))).toNat:Nat):Int)=r % 65536+c*65536:=by
 have h1:IntKind.u32.wrap (((BitVec.ofInt IntKind.u32.bits r &&& BitVec.ofInt IntKind.u32.bits 65535).toNat:Nat):Int)=r % 65536:=andW_mask hr 16 (by omega)
 have h2:IntKind.u32.wrap (c*2 ^ (min 16 IntKind.u32.bits))=c*65536:=by
  show IntKind.u32.wrap (c*65536)=_
  exact w32_in ⟨by omega,by omega⟩
 rw[h1,h2]
 have h3:=orW_eq (a:=r % 65536) (b:=c*65536) ⟨by omega,by omega⟩ ⟨by omega,by omega⟩
 unfold orW at h3
 rw[w32]at h3
 rw[h3]
 have h4:=Nat.two_pow_add_eq_or_of_lt (i:=16) (b:=(r % 65536).toNat) (by omega) c.toNat
 rw[Nat.or_comm,show (c*65536).toNat=2 ^ 16*c.toNat by omega,← h4]
 omega
theorem byteOf_eq (r:Int):((byteOf r).toNat:Int)=IntKind.u8.wrap r:=by
 unfold byteOf
 rw[IntKind.wrap_u8]
 simp only[UInt8.toNat_ofNat']
 omega
theorem insM_jump {code:List Int} {inp:ByteArray} {pc:Int} {f:Nat→Int} {mem:List Int} {rd:Int} {out outT:ByteArray} {st fin op a b c:Int} (ho:op=18∨op=19∨op=20∨op=21∨op=22) :
 insM code inp ⟨pc,f,mem,rd,outT,st,fin⟩ op a b c=(0,⟨(insM code inp ⟨pc,f,[],rd,out,st,fin⟩ op a b c).2.pc,(insM code inp ⟨pc,f,[],rd,out,st,fin⟩ op a b c).2.reg,mem,rd,outT,st,fin⟩):=by
 rcases ho with rfl | rfl | rfl | rfl | rfl<;>rfl
theorem insM_move {code:List Int} {inp:ByteArray} {s:S} {op a b c:Int} (ho:op=16∨op=17∨op=27) :
 ((insM code inp s op a b c).1=0∧(insM code inp s op a b c).2.pc=nxtM s∧(insM code inp s op a b c).2.rd=s.rd∧(insM code inp s op a b c).2.out=s.out)∨insM code inp s op a b c=(8,s):=by
 rcases ho with rfl | rfl | rfl
 ·have e:insM code inp s 16 a b c=if atW s b c<s.mem.length then (0,setR s a (s.mem.getD (atW s b c).toNat default)) else (8,s):=rfl
  rw[e];by_cases h:atW s b c<s.mem.length
  ·rw[if_pos h];exact .inl ⟨rfl,rfl,rfl,rfl⟩
  ·rw[if_neg h];exact .inr rfl
 ·have e:insM code inp s 17 a b c=if atW s b c<s.mem.length then (0,{ s with mem:=s.mem.set (atW s b c).toNat (s.reg a.toNat),pc:=nxtM s }) else (8,s):=rfl
  rw[e];by_cases h:atW s b c<s.mem.length
  ·rw[if_pos h];exact .inl ⟨rfl,rfl,rfl,rfl⟩
  ·rw[if_neg h];exact .inr rfl
 ·have e:insM code inp s 27 a b c=if atW s b c<code.length then (0,setR s a (code.getD (atW s b c).toNat default)) else (8,s):=rfl
  rw[e];by_cases h:atW s b c<code.length
  ·rw[if_pos h];exact .inl ⟨rfl,rfl,rfl,rfl⟩
  ·rw[if_neg h];exact .inr rfl
section
variable (code:List Int) (inp:ByteArray) (pc:Int) (f:Nat→Int) (m:AV) (mem:List Int) (rd:Int) (out outT:ByteArray) (st fin:Int) (own:Bool) (more:AV) (bs:List UInt8) (L T:List VObj) (s nx:Nat)
theorem do_vM (op a b c:Int) (ho:okI op a b c=true) (hf:∀ k,In32 (f k)) (hi:inp.size≤1000000000) (hm:MemAt L T m own mem) (hl:mem.length≤1000000) (hmo:MoreAt L T more bs) (hout:outT.data.toList=out.data.toList++bs) (hol:outT.size≤1000000) (C:AV→List VObj→Nat→Prop)
 (hC:∀ T' m' own' more' bs' nx',MemAt L T' m' own' (insM code inp ⟨pc,f,mem,rd,outT,st,fin⟩ op a b c).2.mem→MoreAt L T' more' bs'→(insM code inp ⟨pc,f,mem,rd,outT,st,fin⟩ op a b c).2.out.data.toList=out.data.toList++bs'→Keep T T' →
   C (I (insM code inp ⟨pc,f,mem,rd,outT,st,fin⟩ op a b c).1) (L++rob s (rnc (words code) inp (insM code inp ⟨pc,f,mem,rd,outT,st,fin⟩ op a b c).2.pc (insM code inp ⟨pc,f,mem,rd,outT,st,fin⟩ op a b c).2.reg m' (insM code inp ⟨pc,f,mem,rd,outT,st,fin⟩ op a b c).2.rd out st fin own' more')::T') nx') :
 VCall Tryz.prog 87 [.ptr L.length s 0,insA op a b c] (L++rob s (rnc (words code) inp pc f m rd out st fin own more)::T) nx C:=by
 refine VCall.of_body hmix f_machine_Runner_do (by simp) ?_
 obtain ⟨hv1,hv2,ha1,ha2,hb1,hb2,hc1,hc2,hcr⟩:=okI_in ho
 have hj:a.toNat<16:=by omega
 have hk:b.toNat<16:=by omega
 have e1:IntKind.u32.wrap c=c:=w32_in ⟨by omega,by omega⟩
 have hop:(op=18∨op=19∨op=20∨op=21∨op=22)∨op=1∨op=2∨op=3∨(op=16∨op=17∨op=27)∨op=23∨op=24∨op=25∨op=26∨(4≤op∧op≤15):=by omega
 rcases hop with hop | rfl | rfl | rfl | hop | rfl | rfl | rfl | rfl | hop
 ·
  have hins:=insM_jump (code:=code) (inp:=inp) (pc:=pc) (f:=f) (mem:=mem) (rd:=rd) (out:=out) (outT:=outT) (st:=st) (fin:=fin) (a:=a) (b:=b) (c:=c) hop
  rw[hins]at hC
  have hst:((op == 18) || (op == 19) || (op == 20) || (op == 21) || (op == 22))=true:=by simp;omega
  rcases hop with rfl | rfl | rfl | rfl | rfl
  all_goals
   simp only[go_sem,c_machine_Runner_do,olen,oadd,og0,ogk,Int.reduceBEq]
   refine jump_vM code inp pc f m rd out st fin own more L _ s _ _ a b c (by simp) ⟨ha1,ha2⟩ hf _ fun r T' nx'=>?_
   simp only[go_sem,olen]
   refine hC _ _ _ _ _ _ ?_ ?_ hout ?_
   ·rw[List.append_assoc];exact hm.add _
   ·rw[List.append_assoc];exact hmo.add _
   ·rw[List.append_assoc];exact Keep.add _
 ·
  simp only[go_sem,c_machine_Runner_do,olen,oadd,og0,os0,ogk,rnc_length,r_pc,rs_pc,rs_reg hj,Int.reduceBEq,e1]
  repeat (refine And.intro (by omega) ?_)
  exact hC _ _ _ _ _ _ (hm.add _) (hmo.add _) hout (Keep.add _)
 ·
  have hlui:=lui_eq (hf a.toNat) hc1 hc2
  simp only[↓VW_ops,↓VW_seq,↓VW_block,↓VW_ret,↓VW_cond,↓litE_tmp,↓seq_normal,↓blk_normal,↓get_cons,↓put_some',↓put_none',argEnv,↓retQ,↓retW,↓VR.wp,binOK,binR,stoOK,putA,partA,partOK,AV.cells,AV.one,AV.laid,Value.oneCell',Nat.reduceEqDiff,Nat.reduceAdd,↓reduceIte,↓dreduceIte,true_and,and_true,List.length_cons,List.length_nil,reduceCtorEq,List.all_cons,List.all_nil,Bool.and_self,↓cellT_cons,List.getD_cons_zero,List.getD_cons_succ,Bool.false_eq_true,or_true,Nat.zero_add,Nat.add_zero,Nat.mul_one,↓wp_mv,↓wp_ld,↓wp_sto,↓wp_aidx,↓wp_fad,↓wp_bin,↓wp_conv,↓wp_box,↓wp_nck,↓VOps_nil,↓VOps_go,↓evF_tmp,↓evF_const,cv_int,cv,Nat.reduceLeDiff,Nat.le_refl,Int.reduceToNat,Int.reduceLE,c_machine_Runner_do,olen,oadd,og0,os0,ogk,rnc_length,r_pc,r_reg hj,rs_pc,rs_reg hj,Int.reduceBEq,e1,hlui]
  repeat (refine And.intro (by omega) ?_)
  exact hC _ _ _ _ _ _ (hm.add _) (hmo.add _) hout (Keep.add _)
 ·
  simp only[go_sem,c_machine_Runner_do,olen,oadd,og0,os0,ogk,rnc_length,r_pc,r_reg hk,rs_pc,rs_reg hj,Int.reduceBEq]
  repeat (refine And.intro (by omega) ?_)
  exact hC _ _ _ _ _ _ (hm.add _) (hmo.add _) hout (Keep.add _)
 ·
  have hst:=insM_move (code:=code) (inp:=inp) (s:=⟨pc,f,mem,rd,outT,st,fin⟩) (a:=a) (b:=b) (c:=c) hop
  have key:∀ (C2:AV→List VObj→Nat→Prop),(∀ T' m' own' nx',MemAt L T' m' own' (insM code inp ⟨pc,f,mem,rd,outT,st,fin⟩ op a b c).2.mem→MoreAt L T' more bs→Keep T T' →
   C2 (B (decide ((insM code inp ⟨pc,f,mem,rd,outT,st,fin⟩ op a b c).1=0))) (L++rob s (rnc (words code) inp pc (insM code inp ⟨pc,f,mem,rd,outT,st,fin⟩ op a b c).2.reg m' rd out st fin own' more)::T') nx') →
   VCall Tryz.prog 94 [.ptr L.length s 0,insA op a b c] (L++rob s (rnc (words code) inp pc f m rd out st fin own more)::(T++[⟨nx,55,1,[I op,I a,I b,I c]⟩])) (nx+1) C2:=fun C2 h =>
   move_v code inp pc f m mem rd out outT st fin own more L _ s _ op a b c hop ⟨ha1,ha2⟩ ⟨hb1,hb2⟩ ⟨hc1,hc2⟩ (hm.add _) hl C2 fun T' m' own' nx' h1 h2 h3=>h T' m' own' nx' h1 (h2 _ _ (hmo.add _)) ((Keep.add _).trans h3)
  generalize insM code inp ⟨pc,f,mem,rd,outT,st,fin⟩ op a b c=p at *
  have hlit:op=16∨op=17∨op=27:=hop
  rcases hop with rfl | rfl | rfl
  all_goals
   simp only[go_sem,c_machine_Runner_do,olen,oadd,og0,ogk,Int.reduceBEq]
   refine key _ fun T' m' own' nx' h1 h2 h3=>?_
   rcases hst with ⟨q1,q2,q3,q4⟩ | q
   ·rw[q1]at hC ⊢
    simp only[go_sem,olen,og0,os0,rnc_length,r_pc,rs_pc]
    repeat (refine And.intro (by omega) ?_)
    have:=hC T' m' own' more bs nx' h1 h2 (by rw[q4];exact hout) h3
    rw[q2,q3]at this
    exact this
   ·subst q
    simp only[go_sem,olen,Int.reduceEq]
    repeat (refine And.intro (by omega) ?_)
    exact hC T' m' own' more bs nx' h1 h2 hout h3
 ·
  have hins:insM code inp ⟨pc,f,mem,rd,outT,st,fin⟩ 23 a b c=(0,if rd<0∨(inp.size:Int)≤rd then setR ⟨pc,f,mem,rd,outT,st,fin⟩ a 256 else setR ⟨pc,f,mem,IntKind.i64.wrap (rd+1),outT,st,fin⟩ a (byteAt inp rd.toNat)):=rfl
  rw[hins]at hC
  simp only[go_sem,c_machine_Runner_do,olen,oadd,og0,ogk,Int.reduceBEq]
  repeat (refine And.intro (by omega) ?_)
  refine get_v code inp pc f m rd out st fin own more L _ s _ a ⟨ha1,ha2⟩ hi _ fun r=>?_
  simp only[go_sem,olen,og0,os0,rnc_length,r_pc,rs_pc]
  repeat (refine And.intro (by omega) ?_)
  by_cases h:rd<0∨(inp.size:Int)≤rd
  ·simp only[if_pos h]at hC ⊢
   exact hC _ _ _ _ _ _ (hm.add _) (hmo.add _) hout (Keep.add _)
  ·simp only[if_neg h]at hC ⊢
   exact hC _ _ _ _ _ _ (hm.add _) (hmo.add _) hout (Keep.add _)
 ·
  have hins:insM code inp ⟨pc,f,mem,rd,outT,st,fin⟩ 24 a b c=if 65536≤outT.size then (4,⟨pc,f,mem,rd,outT,st,fin⟩) else (0,⟨nxtM ⟨pc,f,mem,rd,outT,st,fin⟩,f,mem,rd,outT.push (byteOf (f a.toNat)),st,fin⟩):=rfl
  rw[hins]at hC
  have hsz:outT.size=out.size+bs.length:=by
   have:=congrArg List.length hout
   simp only[List.length_append,Array.length_toList]at this
   exact this
  have hpush:(outT.push (byteOf (f a.toNat))).data.toList=out.data.toList++(bs++[byteOf (f a.toNat)]):=by
   rw[← List.append_assoc,← hout];simp[ByteArray.push]
  have hU8:(AV.val (.int .u8 (IntKind.u8.wrap (f a.toNat))))=U8 (byteOf (f a.toNat)):=by
   rw[← byteOf_eq]
  have hw:IntKind.i64.wrap ((out.size:Int)+(bs.length:Int))=(outT.size:Int):=by rw[i64_in (by omega) (by omega)];omega
  have hmx:(2000000:Nat)≤maxLen:=by decide
  rcases hmo with ⟨rfl,rfl⟩ | ⟨k,sm,rfl,hT⟩
  ·simp only[List.length_nil]at hw hsz
   have hw0:IntKind.i64.wrap ((out.size:Int)+0)=(outT.size:Int):=hw
   by_cases h:65536≤outT.size
   ·rw[if_pos h]at hC
    simp only[go_sem,c_machine_Runner_do,olen,oadd,og0,ogk,r_out,r_more,Int.reduceBEq,hw0,eq_true (show (65536:Int)≤(outT.size:Int) by omega)]
    repeat (refine And.intro (by omega) ?_)
    exact hC _ _ _ _ _ _ (hm.add _) (.inl ⟨rfl,rfl⟩) hout (Keep.add _)
   ·rw[if_neg h]at hC
    simp only[go_sem,c_machine_Runner_do,olen,oadd,og0,os0,ogk,rnc_length,r_pc,r_out,r_more,r_reg hj,rs_pc,rs_more,Int.reduceBEq,hw0,eq_false (show ¬ (65536:Int)≤(outT.size:Int) by omega)]
    repeat (refine And.intro (by omega) ?_)
    rw[hU8]
    refine hC _ _ _ _ _ _ (hm.add _) (.inr ⟨T.length+2,nx+1+1,rfl,?_⟩) hpush (Keep.add _)
    rw[List.getElem?_append_right (by omega)];simp
  ·have hT2:∀ R,(T++R)[k]? = some ⟨sm,5,1,bs.map U8⟩:=fun R=>by rw[List.getElem?_append_left (List.getElem?_eq_some_iff.1 hT).1];exact hT
   by_cases h:65536≤outT.size
   ·rw[if_pos h]at hC
    simp only[go_sem,c_machine_Runner_do,olen,oadd,og0,ogk,r_out,r_more,Int.reduceBEq,hT2,hw,eq_true (show (65536:Int)≤(outT.size:Int) by omega)]
    repeat (refine And.intro (by omega) ?_)
    exact hC _ _ _ _ _ _ (hm.add _) (.inr ⟨k,sm,rfl,hT2 _⟩) hout (Keep.add _)
   ·rw[if_neg h]at hC
    simp only[go_sem,c_machine_Runner_do,olen,oadd,og0,os0,ogk,osk,rnc_length,r_pc,r_out,r_more,r_reg hj,rs_pc,rs_more,Int.reduceBEq,hT2,hw,eq_false (show ¬ (65536:Int)≤(outT.size:Int) by omega)]
    repeat (refine And.intro (by omega) ?_)
    rw[hU8]
    have hkl:=(List.getElem?_eq_some_iff.1 hT).1
    refine hC _ _ _ _ _ _ (hm.put hT _) (.inr ⟨k,nx+1+1,by simp,?_⟩) hpush (Keep.put hT (by show (1:Nat)≠0;omega) (.inr rfl) _)
    rw[List.getElem?_set,if_pos rfl,if_pos (by simp;omega),List.take_of_length_le (by simp)]
    simp
 ·
  have hins:insM code inp ⟨pc,f,mem,rd,outT,st,fin⟩ 25 a b c=if f a.toNat<c then (0,⟨nxtM ⟨pc,f,mem,rd,outT,st,fin⟩,f,mem,rd,outT,st,fin⟩) else (3,⟨pc,f,mem,rd,outT,st,fin⟩):=rfl
  rw[hins]at hC
  by_cases h:c≤f a.toNat
  ·rw[if_neg (by omega)]at hC
   simp only[go_sem,c_machine_Runner_do,olen,oadd,og0,ogk,r_reg hj,Int.reduceBEq,e1,eq_true h]
   repeat (refine And.intro (by omega) ?_)
   exact hC _ _ _ _ _ _ (hm.add _) (hmo.add _) hout (Keep.add _)
  ·rw[if_pos (by omega)]at hC
   simp only[go_sem,c_machine_Runner_do,olen,oadd,og0,os0,ogk,rnc_length,r_pc,r_reg hj,rs_pc,Int.reduceBEq,e1,eq_false h]
   repeat (refine And.intro (by omega) ?_)
   exact hC _ _ _ _ _ _ (hm.add _) (hmo.add _) hout (Keep.add _)
 ·
  simp only[go_sem,c_machine_Runner_do,olen,oadd,og0,ogk,Int.reduceBEq]
  repeat (refine And.intro (by omega) ?_)
  exact hC _ _ _ _ _ _ (hm.add _) (hmo.add _) hout (Keep.add _)
 ·
  have hcl:c.toNat<16:=by
   have:cK op=2:=by unfold cK;rw[if_pos hop]
   have:=hcr this;omega
  have n:∀ k:Int,k<4∨15<k→(op=k)=False:=fun k h=>eq_false (by omega)
  have hins:insM code inp ⟨pc,f,mem,rd,outT,st,fin⟩ op a b c=if (applyW op (f b.toNat) (f c.toNat)).2=0 then (0,setR ⟨pc,f,mem,rd,outT,st,fin⟩ a (applyW op (f b.toNat) (f c.toNat)).1) else (2,⟨pc,f,mem,rd,outT,st,fin⟩):=by
   unfold insM
   simp only[n 18 (by omega),n 19 (by omega),n 20 (by omega),n 21 (by omega),n 22 (by omega),n 1 (by omega),n 2 (by omega),n 3 (by omega),n 16 (by omega),n 17 (by omega),n 27 (by omega),n 23 (by omega),n 24 (by omega),n 25 (by omega),n 26 (by omega),if_false]
  rw[hins]at hC
  simp only[go_sem,c_machine_Runner_do,olen,oadd,og0,ogk,r_reg hk,r_reg hcl,n 18 (by omega),n 19 (by omega),n 20 (by omega),n 21 (by omega),n 22 (by omega),n 1 (by omega),n 2 (by omega),n 3 (by omega),n 16 (by omega),n 17 (by omega),n 27 (by omega),n 23 (by omega),n 24 (by omega),n 25 (by omega),n 26 (by omega)]
  repeat (refine And.intro (by omega) ?_)
  refine ECall.of (apply_c op (f b.toNat) (f c.toNat) (hf _).1) (SleL.pure rfl) ⟨_,fun _=>Iff.rfl⟩ fun x hx=>?_
  subst hx
  by_cases h:(applyW op (f b.toNat) (f c.toNat)).2=0
  ·rw[if_pos h]at hC
   simp only[go_sem,olen,og0,os0,ogk,rnc_length,r_pc,rs_pc,rs_reg hj,h]
   repeat (refine And.intro (by omega) ?_)
   exact hC _ _ _ _ _ _ (hm.add _) (hmo.add _) hout (Keep.add _)
  ·rw[if_neg h]at hC
   simp only[go_sem,olen,eq_false h]
   repeat (refine And.intro (by first | omega | simp[h]) ?_)
   exact hC _ _ _ _ _ _ (hm.add _) (hmo.add _) hout (Keep.add _)
end
set_option maxRecDepth 10000
open Go.V
def wordF (code:List Int) (inp:ByteArray) (s:S) (w:Int):S :=
 if okW w then (if (insM code inp s (opW w) (raW w) (rbW w) (kW w)).1=0 then (insM code inp s (opW w) (raW w) (rbW w) (kW w)).2
  else { (insM code inp s (opW w) (raW w) (rbW w) (kW w)).2 with fin:=(insM code inp s (opW w) (raW w) (rbW w) (kW w)).1 })
 else { s with fin:=6 }
def doneF (code:List Int) (s:S):Bool:=decide (s.fin=0) && (decide (0≤s.pc) && decide (s.pc<code.length))
def stepF (code:List Int) (inp:ByteArray) (s:S):S :=
 if s.fin=0 then (if s.pc<0∨(code.length:Int)≤s.pc then { s with fin:=7 } else wordF code inp { s with st:=IntKind.i64.wrap (s.st+1) } (code.getD s.pc.toNat default)) else s
theorem ite_ind {α:Type} {P:α→Prop} {c:Prop} [Decidable c] {x y:α} (h1:c→P x) (h2:¬ c→P y):P (if c then x else y):=by
 by_cases h:c
 ·rw[if_pos h];exact h1 h
 ·rw[if_neg h];exact h2 h
def keepsS (s:S) (p:Int × S):Prop:=p.2.fin=s.fin∧p.2.st=s.st
theorem insM_keeps (code:List Int) (inp:ByteArray) (s:S) (op a b c:Int):keepsS s (insM code inp s op a b c):=by
 unfold insM
 iterate 8 (refine ite_ind (P:=keepsS s) (fun _=>⟨rfl,rfl⟩) fun _=>?_)
 iterate 3 (refine ite_ind (P:=keepsS s) (fun _=>ite_ind (P:=keepsS s) (fun _=>⟨rfl,rfl⟩) fun _=>⟨rfl,rfl⟩) fun _=>?_)
 refine ite_ind (P:=keepsS s) (fun _=>?_) fun _=>?_
 ·exact ite_ind (P:=fun x:S=>x.fin=s.fin∧x.st=s.st) (fun _=>⟨rfl,rfl⟩) fun _=>⟨rfl,rfl⟩
 iterate 2 (refine ite_ind (P:=keepsS s) (fun _=>ite_ind (P:=keepsS s) (fun _=>⟨rfl,rfl⟩) fun _=>⟨rfl,rfl⟩) fun _=>?_)
 refine ite_ind (P:=keepsS s) (fun _=>⟨rfl,rfl⟩) fun _=>?_
 exact ite_ind (P:=keepsS s) (fun _=>⟨rfl,rfl⟩) fun _=>⟨rfl,rfl⟩
theorem applyM_in (op a b:Int) (ha:In32 a) (hb:In32 b):In32 (applyW op a b).1:=by
 have z:In32 0:=⟨by omega,by omega⟩
 have one:In32 1:=⟨by omega,by omega⟩
 unfold applyW
 refine ite_ind (P:=fun p:Int × Int=>In32 p.1) (fun _=>w32_ok _) fun _=>?_
 refine ite_ind (P:=fun p:Int × Int=>In32 p.1) (fun _=>w32_ok _) fun _=>?_
 refine ite_ind (P:=fun p:Int × Int=>In32 p.1) (fun _=>w32_ok _) fun _=>?_
 refine ite_ind (P:=fun p:Int × Int=>In32 p.1) (fun _=>ite_ind (P:=fun p:Int × Int=>In32 p.1) (fun _=>z) fun _=>w32_ok _) fun _=>?_
 refine ite_ind (P:=fun p:Int × Int=>In32 p.1) (fun _=>ite_ind (P:=fun p:Int × Int=>In32 p.1) (fun _=>z) fun h=>?_) fun _=>?_
 ·show In32 (a.tmod b)
  rw[Int.tmod_eq_emod_of_nonneg ha.1]
  have h1:0≤a % b:=Int.emod_nonneg _ h
  have h2:a % b<b:=Int.emod_lt_of_pos _ (by have:=hb.1;omega)
  exact ⟨h1,by have:=hb.2;omega⟩
 refine ite_ind (P:=fun p:Int × Int=>In32 p.1) (fun _=>w32_ok _) fun _=>?_
 refine ite_ind (P:=fun p:Int × Int=>In32 p.1) (fun _=>w32_ok _) fun _=>?_
 refine ite_ind (P:=fun p:Int × Int=>In32 p.1) (fun _=>w32_ok _) fun _=>?_
 refine ite_ind (P:=fun p:Int × Int=>In32 p.1) (fun _=>ite_ind (P:=In32) (fun _=>z) fun _=>w32_ok _) fun _=>?_
 refine ite_ind (P:=fun p:Int × Int=>In32 p.1) (fun _=>ite_ind (P:=In32) (fun _=>z) fun h=>?_) fun _=>?_
 ·have:=shrW_eq ha b.toNat (by have:=hb.1;omega)
  rw[show ((b.toNat:Nat):Int)=b by have:=hb.1;omega]at this
  rw[this]
  have h2:=Nat.div_le_self a.toNat (2 ^ b.toNat)
  have h3:=ha.2
  have h4:=ha.1
  generalize a.toNat / 2 ^ b.toNat=q at *
  exact ⟨by omega,by omega⟩
 refine ite_ind (P:=fun p:Int × Int=>In32 p.1) (fun _=>ite_ind (P:=In32) (fun _=>one) fun _=>z) fun _=>?_
 refine ite_ind (P:=fun p:Int × Int=>In32 p.1) (fun _=>ite_ind (P:=In32) (fun _=>one) fun _=>z) fun _=>z
structure Wf (s:S):Prop where
 reg:∀ k,In32 (s.reg k)
 mem:∀ x ∈ s.mem,In32 x
def wfS (s:S) (p:Int × S):Prop:=Wf p.2∧p.2.mem.length=s.mem.length∧s.out.size≤p.2.out.size∧p.2.out.size≤s.out.size+1
theorem updR_in {f:Nat→Int} (h:∀ k,In32 (f k)) {j:Nat} {v:Int} (hv:In32 v):∀ k,In32 (updR f j v k):=fun k=>by
 unfold updR;split
 ·exact hv
 ·exact h k
theorem insM_wf (code:List Int) (inp:ByteArray) (s:S) (op a b c:Int) (hcode:∀ x ∈ code,In32 x) (hs:Wf s) (hc:0≤c∧c≤65535):wfS s (insM code inp s op a b c):=by
 have same:wfS s (0,s):=⟨hs,rfl,Nat.le_refl _,Nat.le_succ _⟩
 have pcs:∀ e x,wfS s (e,{ s with pc:=x }):=fun e x=>⟨⟨hs.reg,hs.mem⟩,rfl,Nat.le_refl _,Nat.le_succ _⟩
 have ends:∀ e,wfS s (e,s):=fun e=>⟨hs,rfl,Nat.le_refl _,Nat.le_succ _⟩
 have regs_:∀ x v,In32 v→wfS s (0,setR s x v):=fun x v hv=>⟨⟨updR_in hs.reg hv,hs.mem⟩,rfl,Nat.le_refl _,Nat.le_succ _⟩
 have hR:=hs.reg a.toNat
 unfold insM
 refine ite_ind (P:=wfS s) (fun _=>pcs _ _) fun _=>?_
 refine ite_ind (P:=wfS s) (fun _=>pcs _ _) fun _=>?_
 refine ite_ind (P:=wfS s) (fun _=>pcs _ _) fun _=>?_
 refine ite_ind (P:=wfS s) (fun _=>⟨⟨updR_in hs.reg (w32_ok _),hs.mem⟩,rfl,Nat.le_refl _,Nat.le_succ _⟩) fun _=>?_
 refine ite_ind (P:=wfS s) (fun _=>pcs _ _) fun _=>?_
 refine ite_ind (P:=wfS s) (fun _=>regs_ _ _ ⟨by omega,by omega⟩) fun _=>?_
 refine ite_ind (P:=wfS s) (fun _=>regs_ _ _ ⟨by omega,by omega⟩) fun _=>?_
 refine ite_ind (P:=wfS s) (fun _=>regs_ _ _ (hs.reg _)) fun _=>?_
 have hat:In32 (atW s b c):=w32_ok _
 refine ite_ind (P:=wfS s) (fun _=>ite_ind (P:=wfS s) (fun h=>regs_ _ _ (hs.mem _ (mem_getD (by have:=hat.1;omega)))) fun _=>ends _) fun _=>?_
 refine ite_ind (P:=wfS s) (fun _=>ite_ind (P:=wfS s) (fun h=>⟨⟨hs.reg,fun x hx=>?_⟩,by simp,Nat.le_refl _,Nat.le_succ _⟩) fun _=>ends _) fun _=>?_
 ·rcases List.mem_or_eq_of_mem_set hx with h | h
  ·exact hs.mem x h
  ·rw[h];exact hR
 refine ite_ind (P:=wfS s) (fun _=>ite_ind (P:=wfS s) (fun h=>regs_ _ _ (hcode _ (mem_getD (by have:=hat.1;omega)))) fun _=>ends _) fun _=>?_
 refine ite_ind (P:=wfS s) (fun _=>?_) fun _=>?_
 ·refine ite_ind (P:=fun x:S=>wfS s (0,x)) (fun _=>regs_ _ _ ⟨by omega,by omega⟩) fun _=>⟨⟨updR_in hs.reg ⟨?_,?_⟩,hs.mem⟩,rfl,Nat.le_refl _,Nat.le_succ _⟩<;>unfold byteAt
  ·omega
  ·have:=(inp.data.toList.getD s.rd.toNat 0).toNat_lt;omega
 refine ite_ind (P:=wfS s) (fun _=>ite_ind (P:=wfS s) (fun _=>ends _) fun _=>⟨⟨hs.reg,hs.mem⟩,rfl,by simp[ByteArray.size_push],by simp[ByteArray.size_push]⟩) fun _=>?_
 refine ite_ind (P:=wfS s) (fun _=>ite_ind (P:=wfS s) (fun _=>pcs _ _) fun _=>ends _) fun _=>?_
 refine ite_ind (P:=wfS s) (fun _=>ends _) fun _=>?_
 exact ite_ind (P:=wfS s) (fun _=>regs_ _ _ (applyM_in _ _ _ (hs.reg _) (hs.reg _))) fun _=>ends _
theorem stepF_wf (code:List Int) (inp:ByteArray) (s:S) (hcode:∀ x ∈ code,In32 x) (hs:Wf s):wfS s (0,stepF code inp s):=by
 have ends:∀ x:S,x.reg=s.reg→x.mem=s.mem→x.out=s.out→wfS s (0,x):=fun x h1 h2 h3=>⟨⟨by show ∀ k,In32 (x.reg k);rw[h1];exact hs.reg,by show ∀ y ∈ x.mem,In32 y;rw[h2];exact hs.mem⟩,by show x.mem.length=_;rw[h2],by show s.out.size≤x.out.size;rw[h3];exact Nat.le_refl _,by show x.out.size≤_;rw[h3];exact Nat.le_succ _⟩
 refine ite_ind (P:=fun x:S=>wfS s (0,x)) (fun _=>?_) fun _=>ends _ rfl rfl rfl
 refine ite_ind (P:=fun x:S=>wfS s (0,x)) (fun _=>ends _ rfl rfl rfl) fun _=>?_
 unfold wordF
 generalize code.getD s.pc.toNat default=w
 have hk:0≤kW w∧kW w≤65535:=by unfold kW;omega
 have h:=insM_wf code inp { s with st:=IntKind.i64.wrap (s.st+1) } (opW w) (raW w) (rbW w) (kW w) hcode ⟨hs.reg,hs.mem⟩ hk
 refine ite_ind (P:=fun x:S=>wfS s (0,x)) (fun _=>?_) fun _=>ends _ rfl rfl rfl
 generalize insM code inp { s with st:=IntKind.i64.wrap (s.st+1) } (opW w) (raW w) (rbW w) (kW w)=p at *
 refine ite_ind (P:=fun x:S=>wfS s (0,x)) (fun _=>h) fun _=>?_
 exact ⟨⟨h.1.reg,h.1.mem⟩,h.2⟩
section
variable (code:List Int) (inp:ByteArray) (pc:Int) (f:Nat→Int) (m:AV) (mem:List Int) (rd:Int) (out outT:ByteArray) (st fin:Int) (own:Bool) (more:AV) (bs:List UInt8) (L T:List VObj) (s nx:Nat)
theorem rstep_v (hcode:∀ x ∈ code,In32 x) (hcl:code.length≤1000000) (hf:∀ k,In32 (f k)) (hi:inp.size≤1000000000) (hm:MemAt L T m own mem) (hl:mem.length≤1000000) (hmo:MoreAt L T more bs) (hout:outT.data.toList=out.data.toList++bs) (hol:outT.size≤1000000) (C:AV→List VObj→Nat→Prop)
 (hC:∀ T' m' own' more' bs' nx',MemAt L T' m' own' (stepF code inp ⟨pc,f,mem,rd,outT,st,fin⟩).mem→MoreAt L T' more' bs'→(stepF code inp ⟨pc,f,mem,rd,outT,st,fin⟩).out.data.toList=out.data.toList++bs'→Keep T T' →
   C (B (doneF code ⟨pc,f,mem,rd,outT,st,fin⟩)) (L++rob s (rnc (words code) inp (stepF code inp ⟨pc,f,mem,rd,outT,st,fin⟩).pc (stepF code inp ⟨pc,f,mem,rd,outT,st,fin⟩).reg m' (stepF code inp ⟨pc,f,mem,rd,outT,st,fin⟩).rd out (stepF code inp ⟨pc,f,mem,rd,outT,st,fin⟩).st (stepF code inp ⟨pc,f,mem,rd,outT,st,fin⟩).fin own' more')::T') nx') :
 VCall Tryz.prog 82 [.ptr L.length s 0] (L++rob s (rnc (words code) inp pc f m rd out st fin own more)::T) nx C:=by
 refine VCall.of_body hmix f_machine_Runner_Step (by simp) ?_
 by_cases h1:fin=0
 case neg =>
  have e1:stepF code inp ⟨pc,f,mem,rd,outT,st,fin⟩=⟨pc,f,mem,rd,outT,st,fin⟩:=if_neg h1
  have e2:doneF code ⟨pc,f,mem,rd,outT,st,fin⟩=false:=by simp[doneF,h1]
  have h1':(fin != 0)=true:=by simp[h1]
  rw[e1,e2]at hC
  simp only[go_sem,c_machine_Runner_Step,og0,r_fin,h1']
  exact hC _ _ _ _ _ _ hm hmo hout (Keep.refl _)
 subst h1
 have hone:=hm.one
 by_cases h2:pc<0
 ·have e1:stepF code inp ⟨pc,f,mem,rd,outT,st,0⟩=⟨pc,f,mem,rd,outT,st,7⟩:=by unfold stepF;rw[if_pos rfl,if_pos (.inl h2)]
  have e2:doneF code ⟨pc,f,mem,rd,outT,st,0⟩=false:=by simp[doneF];omega
  rw[e1,e2]at hC
  simp only[go_sem,c_machine_Runner_Step,og0,os0,rnc_length,r_pc,r_fin,rs_fin,Int.reduceBNe,eq_true h2]
  repeat (refine And.intro (by omega) ?_)
  exact hC _ _ _ _ _ _ hm hmo hout (Keep.refl _)
 by_cases h3:(code.length:Int)≤pc
 ·have e1:stepF code inp ⟨pc,f,mem,rd,outT,st,0⟩=⟨pc,f,mem,rd,outT,st,7⟩:=by unfold stepF;rw[if_pos rfl,if_pos (.inr h3)]
  have e2:doneF code ⟨pc,f,mem,rd,outT,st,0⟩=false:=by simp[doneF];omega
  rw[e1,e2]at hC
  simp only[go_sem,c_machine_Runner_Step,og0,os0,rnc_length,r_pc,r_code,r_fin,rs_fin,Int.reduceBNe,eq_false h2,eq_true h3]
  repeat (refine And.intro (by omega) ?_)
  exact hC _ _ _ _ _ _ hm hmo hout (Keep.refl _)
 have e2:doneF code ⟨pc,f,mem,rd,outT,st,0⟩=true:=by simp[doneF];omega
 obtain ⟨w,hw⟩:∃ w,code.getD pc.toNat default=w:=⟨_,rfl⟩
 have e1:stepF code inp ⟨pc,f,mem,rd,outT,st,0⟩=wordF code inp ⟨pc,f,mem,rd,outT,IntKind.i64.wrap (st+1),0⟩ w:=by unfold stepF;rw[if_pos rfl,if_neg (fun q=>q.elim h2 h3),hw]
 have hw32:In32 w:=by
  rw[← hw];exact hcode _ (mem_getD (by omega))
 rw[e1,e2]at hC
 simp only[go_sem,c_machine_Runner_Step,olen,og0,os0,rnc_length,r_pc,r_code,r_st,r_fin,rs_st,Int.reduceBNe,eq_false h2,eq_false h3,hw]
 repeat (refine And.intro (by omega) ?_)
 refine ECall.of (decode_c w hw32) (SleL.pure rfl) ⟨_,fun _=>Iff.rfl⟩ fun x hx=>?_
 subst hx
 unfold decA
 cases hok:okW w
 ·have e3:wordF code inp ⟨pc,f,mem,rd,outT,IntKind.i64.wrap (st+1),0⟩ w=⟨pc,f,mem,rd,outT,IntKind.i64.wrap (st+1),6⟩:=by unfold wordF;rw[hok];rfl
  rw[e3]at hC
  simp only[go_sem,olen,oadd,og0,os0,ogk,osk,rnc_length,rs_fin,Int.reduceBNe]
  exact hC _ _ _ _ _ _ (hm.add _) (hmo.add _) hout (Keep.add _)
 ·have e3:wordF code inp ⟨pc,f,mem,rd,outT,IntKind.i64.wrap (st+1),0⟩ w=(if (insM code inp ⟨pc,f,mem,rd,outT,IntKind.i64.wrap (st+1),0⟩ (opW w) (raW w) (rbW w) (kW w)).1=0 then (insM code inp ⟨pc,f,mem,rd,outT,IntKind.i64.wrap (st+1),0⟩ (opW w) (raW w) (rbW w) (kW w)).2
   else { (insM code inp ⟨pc,f,mem,rd,outT,IntKind.i64.wrap (st+1),0⟩ (opW w) (raW w) (rbW w) (kW w)).2 with fin:=(insM code inp ⟨pc,f,mem,rd,outT,IntKind.i64.wrap (st+1),0⟩ (opW w) (raW w) (rbW w) (kW w)).1 }):=by unfold wordF;rw[hok];rfl
  rw[e3]at hC
  have hk:=insM_keeps code inp ⟨pc,f,mem,rd,outT,IntKind.i64.wrap (st+1),0⟩ (opW w) (raW w) (rbW w) (kW w)
  simp only[go_sem,olen,oadd,og0,os0,ogk,osk,Int.reduceBNe]
  refine do_vM code inp pc f m mem rd out outT (IntKind.i64.wrap (st+1)) 0 own more bs L _ s _ (opW w) (raW w) (rbW w) (kW w) hok hf hi (hm.add _) hl (hmo.add _) hout hol _ fun T' m' own' more' bs' nx' g1 g2 g3 g4=>?_
  generalize insM code inp ⟨pc,f,mem,rd,outT,IntKind.i64.wrap (st+1),0⟩ (opW w) (raW w) (rbW w) (kW w)=p at *
  have hk:p.2.fin=0∧p.2.st=IntKind.i64.wrap (st+1):=hk
  by_cases h:p.1=0
  ·rw[if_pos h]at hC
   simp only[go_sem,olen,h,bne_self_eq_false]
   have:=hC T' m' own' more' bs' nx' g1 g2 g3 ((Keep.add _).trans g4)
   rw[hk.1,hk.2]at this
   exact this
  ·rw[if_neg h]at hC
   have h':(p.1 != 0)=true:=by simp[h]
   simp only[go_sem,olen,og0,os0,rnc_length,rs_fin,h']
   repeat (refine And.intro (by omega) ?_)
   have:=hC T' m' own' more' bs' nx' g1 g2 g3 ((Keep.add _).trans g4)
   simp only[hk.2]at this
   exact this
end
set_option maxRecDepth 10000
open Go.V
abbrev imgA (code:List Int) (data:Int):AV:=.agg [words code,I data]
theorem bytes_ext {a b:ByteArray} (h:a.data.toList=b.data.toList):a=b:=by
 cases a;cases b;simp only[ByteArray.mk.injEq];exact Array.toList_inj.1 h
theorem MemAt.frz {n:Nat} {H:List VObj} {nx:Nat} {L T:List VObj} {m:AV} {own:Bool} {mem:List Int} (h:MemAt L T m own mem) (hn:n≤L.length) (hT:∀ k ob,T[k]? = some ob→H[L.length+(k+1)]? = some ob):Frz n H nx m (words mem):=by
 rcases h with ⟨_,rfl⟩ | ⟨_,k,sm,rfl,hk⟩
 ·exact Frz.pure rfl
 ·exact frz_map (f:=U32) (g:=U32) (by omega) (hT k _ hk) rfl (fun _=>rfl) fun _ _=>Frz.pure rfl
section
variable (code:List Int) (inp:ByteArray) (pc:Int) (f:Nat→Int) (m:AV) (rd:Int) (out outT:ByteArray) (st fin:Int) (own:Bool) (more:AV) (bs:List UInt8) (L T:List VObj) (s nx:Nat)
theorem rstate_v (hm:m.one=true) (hmo:MoreAt L T more bs) (hout:outT.data.toList=out.data.toList++bs) (hol:outT.size≤1000001) (C:AV→List VObj→Nat→Prop)
 (hC:∀ R more' nx',MoreAt L (T++R) more' []→C (.agg (stc pc f m rd outT st fin)) (L++rob s (rnc (words code) inp pc f m rd outT st fin false more')::(T++R)) nx') :
 VCall Tryz.prog 44 [.ptr L.length s 0] (L++rob s (rnc (words code) inp pc f m rd out st fin own more)::T) nx C:=by
 refine VCall.of_body hmix f_machine_Runner_State (by simp) ?_
 have hmx:(2000000:Nat)≤maxLen:=by decide
 rcases hmo with ⟨rfl,rfl⟩ | ⟨k,sm,rfl,hT⟩
 ·have:outT=out:=bytes_ext (by rw[hout];simp)
  subst this
  simp only[go_sem,c_machine_Runner_State,olen,oadd,og0,os0,ogk,osk,rnc_length,stc_length,stc_all,s_all,r_st_,r_more,rs_own]
  exact ⟨hm,hC _ _ _ (.inl ⟨rfl,rfl⟩)⟩
 ·have hT2:∀ R,(T++R)[k]? = some ⟨sm,5,1,bs.map U8⟩:=fun R=>by rw[List.getElem?_append_left (List.getElem?_eq_some_iff.1 hT).1];exact hT
  have htk:(bs.map U8).take bs.length=bs.map U8:=List.take_of_length_le (by simp)
  have hcat:out++⟨bs.toArray⟩=outT:=bytes_ext (by rw[hout];simp)
  have hsz:outT.size=out.size+bs.length:=by
   have:=congrArg List.length hout
   simp only[List.length_append,Array.length_toList]at this
   exact this
  have hsz2:(⟨bs.toArray⟩:ByteArray).size=bs.length:=by simp[ByteArray.size]
  have hsz3:bs.toArray.size=bs.length:=by simp
  by_cases h:bs=[]
  ·subst h
   have:outT=out:=bytes_ext (by rw[hout];simp)
   subst this
   have hz0:((0:Nat):Int)=0:=rfl
   simp only[go_sem,hz0,c_machine_Runner_State,olen,oadd,og0,os0,ogk,osk,rnc_length,stc_length,stc_all,s_all,r_st_,r_more,rs_own,hT2]
   exact ⟨hm,hC _ _ _ (.inr ⟨k,sm,rfl,hT2 _⟩)⟩
  ·have hpos:(0:Int)<(bs.length:Int):=by have:=List.length_pos_iff.2 h;omega
   simp only[go_sem,c_machine_Runner_State,olen,oadd,og0,os0,ogk,osk,rnc_length,stc_length,stc_all,s_all,r_st_,r_out,r_more,rs_own,rs_out,rs_more,hT2,htk,eq_true hpos,hcat]
   exact ⟨by omega,hm,hC _ _ _ (.inl ⟨rfl,rfl⟩)⟩
end
def stepL (code:List Int) (data pc:Int) (f:Nat→Int) (mem:List Int) (rd:Int) (out:ByteArray) (st fin:Int):List VObj :=
 [⟨0,29,1,[words code,I data]⟩,⟨1,83,1,stc pc f (words mem) rd out st fin⟩,⟨2,83,1,stc 0 (fun _=>0) nilv 0 ⟨#[]⟩ 0 0⟩,⟨3,29,1,[words code,I data]⟩,⟨4,83,1,stc pc f (words mem) rd out st fin⟩]
set_option maxRecDepth 10000
open Go.V
def startF (data:Int):S:=⟨0,fun _=>0,if 0<data∧data≤32768 then List.replicate data.toNat 0 else [],0,⟨#[]⟩,0,0⟩
theorem FrzNL.app {H:List VObj} {nx:Nat}:∀ {xs ys xs' ys':List AV},FrzNL H nx xs xs'→FrzNL H nx ys ys'→FrzNL H nx (xs++ys) (xs'++ys')
 | [],_,_,_,h1,h2=>by simp only[FrzNL]at h1;subst h1;exact h2
 | x::xs,ys,xs',ys',h1,h2=>by
  obtain ⟨y,ys2,rfl,h3,h4⟩:=h1
  exact ⟨y,_,rfl,h3,FrzNL.app h4 h2⟩
theorem stA_frzN {H:List VObj} {nx:Nat} {pc:Int} {f:Nat→Int} {m:AV} {mem:List Int} {rd:Int} {out:ByteArray} {st fin:Int} (h:FrzN H nx m (words mem)):FrzN H nx (.agg (stc pc f m rd out st fin)) (stA ⟨pc,f,mem,rd,out,st,fin⟩) :=
 FrzN.agg ⟨_,_,rfl,FrzN.val,FrzNL.app (FrzNL.vals (fun k=>Value.int .u32 (f k)) (List.range 16)) ⟨_,_,rfl,h,_,_,rfl,FrzN.val,_,_,rfl,FrzN.val,_,_,rfl,FrzN.val,_,_,rfl,FrzN.val,rfl⟩⟩
theorem startN_c (code:List Int) (data:Int):ContractN Tryz.prog 26 [imgA code data] (fun r=>r=stA (startF data)):=by
 refine ContractN.of_call (VCall.of_body hmix f_machine_Start (by simp) ?_)
 have z:¬ (0<data∧data≤32768)→startF data=⟨0,fun _=>0,[],0,⟨#[]⟩,0,0⟩:=fun h=>by unfold startF;rw[if_neg h]
 by_cases h1:0<data
 ·by_cases h2:data≤32768
  ·have e:startF data=⟨0,fun _=>0,List.replicate data.toNat 0,0,⟨#[]⟩,0,0⟩:=by unfold startF;rw[if_pos ⟨h1,h2⟩]
   simp only[go_sem,c_machine_Start,eq_true h1,eq_true h2,s_zero,ss_mem,s_put',stc_length,stc_all,s_all]
   repeat (refine And.intro (by omega) ?_)
   rw[e,flat_rep]
   refine ⟨_,stA_frzN ?_,rfl⟩
   have hr:List.replicate data.toNat (AV.val (.int .u32 0))=(List.replicate data.toNat (0:Int)).map fun n=>AV.val (.int .u32 n):=by simp
   rw[hr]
   exact frzN_map (f:=fun n:Int=>Value.int .u32 n) rfl (by simp) (fun _=>rfl)
  ·rw[z (fun h=>h2 h.2)]
   simp only[go_sem,c_machine_Start,eq_true h1,eq_false h2,s_zero,s_put',stc_length,stc_all,s_all]
   exact ⟨_,stA_frzN (FrzN.nil 1),rfl⟩
 ·rw[z (fun h=>h1 h.1)]
  simp only[go_sem,c_machine_Start,eq_false h1,s_zero,s_put',stc_length,stc_all,s_all]
  exact ⟨_,stA_frzN (FrzN.nil 1),rfl⟩
theorem start_c (code:List Int) (data:Int):Contract Tryz.prog 26 [imgA code data] (fun r=>r=stA (startF data)):=(startN_c code data).old
theorem refstart_c (code:List Int) (data:Int):Contract Tryz.prog 28 [imgA code data] (fun r=>r=stA (startF data)):=by
 refine ContractN.old (ContractN.of_call (VCall.of_body hmix f_scref09_Start (by simp) ?_))
 have z:¬ (0<data∧data≤32768)→startF data=⟨0,fun _=>0,[],0,⟨#[]⟩,0,0⟩:=fun h=>by unfold startF;rw[if_neg h]
 by_cases h1:0<data
 ·by_cases h2:data≤32768
  ·have e:startF data=⟨0,fun _=>0,List.replicate data.toNat 0,0,⟨#[]⟩,0,0⟩:=by unfold startF;rw[if_pos ⟨h1,h2⟩]
   simp only[go_sem,c_scref09_Start,eq_true h1,eq_true h2,s_zero,ss_mem,s_put',stc_length,stc_all,s_all]
   repeat (refine And.intro (by omega) ?_)
   rw[e,flat_rep]
   refine ⟨_,stA_frzN ?_,rfl⟩
   have hr:List.replicate data.toNat (AV.val (.int .u32 0))=(List.replicate data.toNat (0:Int)).map fun n=>AV.val (.int .u32 n):=by simp
   rw[hr]
   exact frzN_map (f:=fun n:Int=>Value.int .u32 n) rfl (by simp) (fun _=>rfl)
  ·rw[z (fun h=>h2 h.2)]
   simp only[go_sem,c_scref09_Start,eq_true h1,eq_false h2,s_zero,s_put',stc_length,stc_all,s_all]
   exact ⟨_,stA_frzN (FrzN.nil 1),rfl⟩
 ·rw[z (fun h=>h1 h.1)]
  simp only[go_sem,c_scref09_Start,eq_false h1,s_zero,s_put',stc_length,stc_all,s_all]
  exact ⟨_,stA_frzN (FrzN.nil 1),rfl⟩
theorem Sle.agg {xs ys:List AV} (h:SleL xs ys):Sle (.agg xs) (.agg ys):=fun M hR v r=>by
 simp only[RV]at r
 obtain ⟨vs,h1,h2⟩:=r
 simp only[RV0]
 exact ⟨vs,h1,h.rl hR h2⟩
theorem wf_start (data:Int):Wf (startF data):=by
 refine ⟨fun k=>⟨by show (0:Int)≤0;omega,by show (0:Int)<_;omega⟩,fun x hx=>?_⟩
 unfold startF at hx
 simp only at hx
 split at hx
 ·rw[List.mem_replicate]at hx;rw[hx.2];exact ⟨by omega,by omega⟩
 ·cases hx
theorem start_len (data:Int):(startF data).mem.length≤32768:=by
 unfold startF
 simp only
 split
 ·simp;omega
 ·simp
set_option maxRecDepth 10000
open Go.V
def runN (code:List Int) (inp:ByteArray) (s:S):Nat→S
 | 0=>s
 | k+1=>stepF code inp (runN code inp s k)
theorem stepF_stays {code:List Int} {inp:ByteArray} {s:S} (h:s.fin≠0):stepF code inp s=s:=if_neg h
theorem runN_stays {code:List Int} {inp:ByteArray} {s:S} {k:Nat} (h:(runN code inp s k).fin≠0):∀ d,runN code inp s (k+d)=runN code inp s k
 | 0=>rfl
 | d+1=>by
  show stepF code inp (runN code inp s (k+d))=_
  rw[runN_stays h d,stepF_stays h]
theorem runN_add (code:List Int) (inp:ByteArray) (s:S) (a:Nat):∀ b,runN code inp s (a+b)=runN code inp (runN code inp s a) b
 | 0=>rfl
 | b+1=>by show stepF code inp (runN code inp s (a+b))=_;rw[runN_add code inp s a b];rfl
theorem runN_wf {code:List Int} {inp:ByteArray} {s:S} (hcode:∀ x ∈ code,In32 x) (h:Wf s):∀ k,Wf (runN code inp s k)∧(runN code inp s k).mem.length=s.mem.length∧(runN code inp s k).out.size≤s.out.size+k
 | 0=>⟨h,rfl,Nat.le_refl _⟩
 | k+1=>by
  obtain ⟨h1,h2,h3⟩:=runN_wf hcode h k
  obtain ⟨g1,g2,g3,g4⟩:=stepF_wf code inp (runN code inp s k) hcode h1
  refine ⟨g1,g2.trans h2,?_⟩
  show (stepF code inp (runN code inp s k)).out.size≤_
  simp only at g4;omega
theorem MemAt.len {L L' T:List VObj} {m:AV} {own:Bool} {mem:List Int} (h:MemAt L T m own mem) (e:L.length=L'.length):MemAt L' T m own mem:=by
 unfold MemAt at h ⊢;rw[← e];exact h
theorem MoreAt.len {L L' T:List VObj} {m:AV} {bs:List UInt8} (h:MoreAt L T m bs) (e:L.length=L'.length):MoreAt L' T m bs:=by
 unfold MoreAt at h ⊢;rw[← e];exact h
section
variable (code:List Int) (inp:ByteArray) (pc:Int) (f:Nat→Int) (m:AV) (mem:List Int) (rd:Int) (out outT:ByteArray) (st fin:Int) (own:Bool) (more:AV) (bs:List UInt8) (L T:List VObj) (s nx:Nat)
theorem going_v {id:Nat} (hid:L.length=id) (C:AV→List VObj→Nat→Prop) (hC:C (B (fin == 0)) (L++rob s (rnc (words code) inp pc f m rd out st fin own more)::T) nx) :
 VCall Tryz.prog 80 [.ptr id s 0] (L++rob s (rnc (words code) inp pc f m rd out st fin own more)::T) nx C:=by
 subst hid
 refine VCall.of_body hmix f_machine_Runner_Going (by simp) ?_
 simp only[go_sem,c_machine_Runner_Going,og0,r_fin]
 exact hC
theorem pc_v {id:Nat} (hid:L.length=id) (C:AV→List VObj→Nat→Prop) (hC:C (I pc) (L++rob s (rnc (words code) inp pc f m rd out st fin own more)::T) nx) :
 VCall Tryz.prog 81 [.ptr id s 0] (L++rob s (rnc (words code) inp pc f m rd out st fin own more)::T) nx C:=by
 subst hid
 refine VCall.of_body hmix f_machine_Runner_PC (by simp) ?_
 simp only[go_sem,c_machine_Runner_PC,og0,r_pc]
 exact hC
theorem rstep_at {id:Nat} (hid:L.length=id) (hcode:∀ x ∈ code,In32 x) (hcl:code.length≤1000000) (hi:inp.size≤1000000000) (σ:S) (hw:Wf σ) (hm:MemAt L T m own σ.mem) (hl:σ.mem.length≤1000000) (hmo:MoreAt L T more bs) (hout:σ.out.data.toList=out.data.toList++bs) (hol:σ.out.size≤1000000) (C:AV→List VObj→Nat→Prop)
 (hC:∀ T' m' own' more' bs' nx',MemAt L T' m' own' (stepF code inp σ).mem→MoreAt L T' more' bs'→(stepF code inp σ).out.data.toList=out.data.toList++bs'→Keep T T' →
   C (B (doneF code σ)) (L++rob s (rnc (words code) inp (stepF code inp σ).pc (stepF code inp σ).reg m' (stepF code inp σ).rd out (stepF code inp σ).st (stepF code inp σ).fin own' more')::T') nx') :
 VCall Tryz.prog 82 [.ptr id s 0] (L++rob s (rnc (words code) inp σ.pc σ.reg m σ.rd out σ.st σ.fin own more)::T) nx C:=by
 subst hid
 exact rstep_v code inp σ.pc σ.reg m σ.mem σ.rd out σ.out σ.st σ.fin own more bs L T s nx hcode hcl hw.reg hi hm hl hmo hout hol C hC
theorem rstate_at {id:Nat} (hid:L.length=id) (σ:S) (hm:m.one=true) (hmo:MoreAt L T more bs) (hout:σ.out.data.toList=out.data.toList++bs) (hol:σ.out.size≤1000001) (C:AV→List VObj→Nat→Prop)
 (hC:∀ R more' nx',MoreAt L (T++R) more' []→C (.agg (stc σ.pc σ.reg m σ.rd σ.out σ.st σ.fin)) (L++rob s (rnc (words code) inp σ.pc σ.reg m σ.rd σ.out σ.st σ.fin false more')::(T++R)) nx') :
 VCall Tryz.prog 44 [.ptr id s 0] (L++rob s (rnc (words code) inp σ.pc σ.reg m σ.rd out σ.st σ.fin own more)::T) nx C:=by
 subst hid
 exact rstate_v code inp σ.pc σ.reg m σ.rd out σ.out σ.st σ.fin own more bs L T s nx hm hmo hout hol C hC
end
theorem new_v (code:List Int) (data:Int) (inp:ByteArray) (σ:S) (H:List VObj) (nx:Nat) (C:AV→List VObj→Nat→Prop)
 (hC:C (.ptr (H.length+2) (nx+2) 0) (H++[⟨nx,29,1,[words code,I data]⟩,⟨nx+1,83,1,stc σ.pc σ.reg (words σ.mem) σ.rd σ.out σ.st σ.fin⟩,rob (nx+2) (rnc (words code) inp σ.pc σ.reg (words σ.mem) σ.rd σ.out σ.st σ.fin false nilv)]) (nx+3)) :
 VCall Tryz.prog 42 [imgA code data,strv inp,stA σ] H nx C:=by
 refine VCall.of_body hmix f_machine_New (by simp) ?_
 have g1:∀ a b:VObj,(H++[a]++[b])[H.length]? = some a:=fun a b=>by simp
 simp only[go_sem,c_machine_New,s_all,stc_length,stc_all,ogn,g1]
 refine ⟨rfl,?_⟩
 simp only[List.length_append,List.length_cons,List.length_nil,List.append_assoc,List.cons_append,List.nil_append]
 exact hC
structure CdOk (code:List Ci):Prop where
 ok:∀ i ∈ code,okI i.op i.a i.b i.c=true∧i.op≠27
 len:code.length≤1000000
abbrev wrds (code:List Ci):List Int:=code.map fun i=>encI i.op i.a i.b i.c
theorem enc_dec {op a b c:Int} (h:okI op a b c=true):opW (encI op a b c)=op∧raW (encI op a b c)=a∧rbW (encI op a b c)=b∧kW (encI op a b c)=c∧In32 (encI op a b c):=by
 have hb:=okI_in h
 unfold opW raW rbW kW encI In32
 refine ⟨by omega,by omega,by omega,by omega,by omega,by omega⟩
theorem enc_ok {op a b c:Int} (h:okI op a b c=true):okW (encI op a b c)=true:=by
 obtain ⟨h1,h2,h3,h4,_⟩:=enc_dec h
 unfold okW;rw[h1,h2,h3,h4];exact h
theorem wrds_in {code:List Ci} (h:CdOk code):∀ x ∈ wrds code,In32 x:=fun x hx=>by
 obtain ⟨i,hi,rfl⟩:=List.mem_map.1 hx
 exact (enc_dec (h.ok i hi).1).2.2.2.2
structure RSM (s:Mc) (t:S) (n:Nat):Prop where
 pc:t.pc=s.pc
 rg:t.reg=s.rg
 me:t.mem=s.me
 rd:t.rd=(s.rd:Int)
 out:t.out.data.toList=s.out
 st:t.st=(n:Int)
 fin:t.fin=0
theorem updR_upM (f:Nat→Int) (j:Nat) (v:Int):updR f j v=upM f j v:=rfl
theorem size_out {s:Mc} {t:S} {n:Nat} (h:RSM s t n):t.out.size=s.out.length:=by rw[← h.out];rfl
theorem push_toList (a:ByteArray) (b:UInt8):(a.push b).data.toList=a.data.toList++[b]:=by
 cases a;simp[ByteArray.push]
theorem ins_same {inp:ByteArray} {w:List Int} {s:Mc} {t:S} {n m:Nat} (h:RSM s t n) (i:Ci) (h27:i.op≠27) (hp:0≤s.pc) (hp2:s.pc≤1000000) (hrd:s.rd≤2000000000) :
 (insM w inp { t with st:=m } i.op i.a i.b i.c).1=(mI inp s i).2∧((mI inp s i).2=0→RSM (mI inp s i).1 (insM w inp { t with st:=m } i.op i.a i.b i.c).2 m)∧(insM w inp { t with st:=m } i.op i.a i.b i.c).2.out.data.toList=(mI inp s i).1.out∧(insM w inp { t with st:=m } i.op i.a i.b i.c).2.st=m:=by
 obtain ⟨pc,rg,me,rd,out,st,fin⟩:=t
 obtain ⟨spc,srg,sme,srd,sout⟩:=s
 have hsz:=size_out h
 obtain ⟨h1,h2,h3,h4,h5,h6,h7⟩:=h
 simp only at h1 h2 h3 h4 h5 h6 h7 hp hp2 hrd hsz
 subst h1;subst h2;subst h3;subst h7
 have wp:IntKind.i64.wrap (pc+1)=pc+1:=i64_in (by omega) (by omega)
 have wp2:w32 (pc+1)=pc+1:=w32_in ⟨by omega,by omega⟩
 obtain ⟨op,a,b,c⟩:=i
 simp only at h27
 unfold insM mI
 simp only[nxtM,setR,atW,wp,wp2,stM,adM,updR_upM]
 by_cases e:op=18
 ·simp only[e,if_true];exact ⟨by trivial,fun _=>⟨rfl,rfl,rfl,h4,h5,rfl,rfl⟩,h5,by trivial⟩
 rw[if_neg e,if_neg e];clear e
 by_cases e:op=19
 ·simp only[e,if_true];exact ⟨by trivial,fun _=>⟨rfl,rfl,rfl,h4,h5,rfl,rfl⟩,h5,by trivial⟩
 rw[if_neg e,if_neg e];clear e
 by_cases e:op=20
 ·simp only[e,if_true];exact ⟨by trivial,fun _=>⟨rfl,rfl,rfl,h4,h5,rfl,rfl⟩,h5,by trivial⟩
 rw[if_neg e,if_neg e];clear e
 by_cases e:op=21
 ·simp only[e,if_true];exact ⟨by trivial,fun _=>⟨rfl,rfl,rfl,h4,h5,rfl,rfl⟩,h5,by trivial⟩
 rw[if_neg e,if_neg e];clear e
 by_cases e:op=22
 ·simp only[e,if_true];exact ⟨by trivial,fun _=>⟨rfl,rfl,rfl,h4,h5,rfl,rfl⟩,h5,by trivial⟩
 rw[if_neg e,if_neg e];clear e
 by_cases e:op=1
 ·simp only[e,if_true];exact ⟨by trivial,fun _=>⟨rfl,rfl,rfl,h4,h5,rfl,rfl⟩,h5,by trivial⟩
 rw[if_neg e,if_neg e];clear e
 by_cases e:op=2
 ·simp only[e,if_true];exact ⟨by trivial,fun _=>⟨rfl,rfl,rfl,h4,h5,rfl,rfl⟩,h5,by trivial⟩
 rw[if_neg e,if_neg e];clear e
 by_cases e:op=3
 ·simp only[e,if_true];exact ⟨by trivial,fun _=>⟨rfl,rfl,rfl,h4,h5,rfl,rfl⟩,h5,by trivial⟩
 rw[if_neg e,if_neg e];clear e
 by_cases e:op=16
 ·simp only[e,if_true]
  by_cases q:w32 (rg b.toNat+c)<me.length
  ·simp only[eq_true q,if_true];exact ⟨by trivial,fun _=>⟨rfl,rfl,rfl,h4,h5,rfl,rfl⟩,h5,by trivial⟩
  ·simp only[eq_false q,if_false];exact ⟨by trivial,fun h=>absurd h (by decide),h5,by trivial⟩
 rw[if_neg e,if_neg e];clear e
 by_cases e:op=17
 ·simp only[e,if_true]
  by_cases q:w32 (rg b.toNat+c)<me.length
  ·simp only[eq_true q,if_true];exact ⟨by trivial,fun _=>⟨rfl,rfl,rfl,h4,h5,rfl,rfl⟩,h5,by trivial⟩
  ·simp only[eq_false q,if_false];exact ⟨by trivial,fun h=>absurd h (by decide),h5,by trivial⟩
 rw[if_neg e,if_neg e];clear e
 rw[if_neg h27]
 by_cases e:op=23
 ·simp only[e,if_true]
  by_cases q:srd<inp.size
  ·have q':¬ (rd<0∨(inp.size:Int)≤rd):=by omega
   have wr:IntKind.i64.wrap (rd+1)=rd+1:=i64_in (by omega) (by omega)
   simp only[eq_true q,eq_false q',if_true,if_false,wr]
   rw[show rd.toNat=srd by omega]
   exact ⟨by trivial,fun _=>⟨rfl,rfl,rfl,by simp only;omega,h5,rfl,rfl⟩,h5,by trivial⟩
  ·have q':(rd<0∨(inp.size:Int)≤rd):=by omega
   simp only[eq_false q,eq_true q',if_true,if_false];exact ⟨by trivial,fun _=>⟨rfl,rfl,rfl,h4,h5,rfl,rfl⟩,h5,by trivial⟩
 rw[if_neg e,if_neg e];clear e
 by_cases e:op=24
 ·simp only[e,if_true,hsz]
  by_cases q:65536≤sout.length
  ·simp only[eq_true q,if_true];exact ⟨by trivial,fun h=>absurd h (by decide),h5,by trivial⟩
  ·simp only[eq_false q,if_false]
   exact ⟨by trivial,fun _=>⟨rfl,rfl,rfl,h4,by simp only;rw[push_toList,h5];rfl,rfl,rfl⟩,by rw[push_toList,h5];rfl,trivial⟩
 rw[if_neg e,if_neg e];clear e
 by_cases e:op=25
 ·simp only[e,if_true]
  by_cases q:rg a.toNat<c
  ·simp only[eq_true q,if_true];exact ⟨by trivial,fun _=>⟨rfl,rfl,rfl,h4,h5,rfl,rfl⟩,h5,by trivial⟩
  ·simp only[eq_false q,if_false];exact ⟨by trivial,fun h=>absurd h (by decide),h5,by trivial⟩
 rw[if_neg e,if_neg e];clear e
 by_cases e:op=26
 ·simp only[e,if_true];exact ⟨by trivial,fun h=>absurd h (by decide),h5,by trivial⟩
 rw[if_neg e,if_neg e];clear e
 by_cases q:(applyW op (rg b.toNat) (rg c.toNat)).2=0
 ·simp only[eq_true q,if_true];exact ⟨by trivial,fun _=>⟨rfl,rfl,rfl,h4,h5,rfl,rfl⟩,h5,by trivial⟩
 ·simp only[eq_false q,if_false];exact ⟨by trivial,fun h=>absurd h (by decide),h5,by trivial⟩
section
variable {code:List Ci} {inp:ByteArray}
theorem step_same (hc:CdOk code) {s:Mc} {t:S} {n:Nat} (h:RSM s t n) (hp:0≤s.pc) (hp2:s.pc<code.length) (hrd:s.rd≤2000000000) (hn:n≤4000000000000000000) :
 ((mI inp s (code.getD s.pc.toNat default)).2=0→RSM (mI inp s (code.getD s.pc.toNat default)).1 (stepF (wrds code) inp t) (n+1)) ∧
 ((mI inp s (code.getD s.pc.toNat default)).2≠0→(stepF (wrds code) inp t).fin=(mI inp s (code.getD s.pc.toNat default)).2∧(stepF (wrds code) inp t).out.data.toList=(mI inp s (code.getD s.pc.toNat default)).1.out∧(stepF (wrds code) inp t).st=((n+1:Nat):Int)):=by
 have hlt:s.pc.toNat<code.length:=by omega
 have hg:code.getD s.pc.toNat default=code[s.pc.toNat]:=by simp[List.getD,hlt]
 have hm:code.getD s.pc.toNat default ∈ code:=by rw[hg];exact List.getElem_mem hlt
 obtain ⟨ho,h27⟩:=hc.ok _ hm
 have hw:(wrds code).getD s.pc.toNat default=encI (code.getD s.pc.toNat default).op (code.getD s.pc.toNat default).a (code.getD s.pc.toNat default).b (code.getD s.pc.toNat default).c:=by
  rw[hg,List.getD,List.getElem?_map,List.getElem?_eq_getElem hlt];rfl
 obtain ⟨d1,d2,d3,d4,d5⟩:=enc_dec ho
 have hok:=enc_ok ho
 have hst:IntKind.i64.wrap (t.st+1)=((n+1:Nat):Int):=by rw[h.st,i64_in (by omega) (by omega)];omega
 have hl:=hc.len
 obtain ⟨k1,k2,k3,k4⟩:=ins_same (inp:=inp) (w:=wrds code) (m:=n+1) h (code.getD s.pc.toNat default) h27 hp (by omega) hrd
 have hs:stepF (wrds code) inp t=(if (insM (wrds code) inp { t with st:=((n+1:Nat):Int) } (code.getD s.pc.toNat default).op (code.getD s.pc.toNat default).a (code.getD s.pc.toNat default).b (code.getD s.pc.toNat default).c).1=0 then (insM (wrds code) inp { t with st:=((n+1:Nat):Int) } (code.getD s.pc.toNat default).op (code.getD s.pc.toNat default).a (code.getD s.pc.toNat default).b (code.getD s.pc.toNat default).c).2
  else { (insM (wrds code) inp { t with st:=((n+1:Nat):Int) } (code.getD s.pc.toNat default).op (code.getD s.pc.toNat default).a (code.getD s.pc.toNat default).b (code.getD s.pc.toNat default).c).2 with fin:=(insM (wrds code) inp { t with st:=((n+1:Nat):Int) } (code.getD s.pc.toNat default).op (code.getD s.pc.toNat default).a (code.getD s.pc.toNat default).b (code.getD s.pc.toNat default).c).1 }):=by
  unfold stepF
  rw[if_pos h.fin,h.pc,if_neg (by rw[List.length_map];omega),hst,hw]
  unfold wordF
  rw[if_pos hok,d1,d2,d3,d4]
 rw[hs]
 refine ⟨fun e=>?_,fun e=>?_⟩
 ·rw[if_pos (k1.trans e)];exact k2 e
 ·rw[if_neg (by rw[k1];exact e)];exact ⟨k1,k3,k4⟩
theorem iteQ {α:Type} {p:Prop} [Decidable p] {P:α→Prop} {a b:α} (h1:p→P a) (h2:¬ p→P b):P (if p then a else b):=by
 by_cases h:p
 ·rw[if_pos h];exact h1 h
 ·rw[if_neg h];exact h2 h
theorem mI_rd (s:Mc) (i:Ci) (h:s.rd≤inp.size):(mI inp s i).1.rd≤inp.size:=by
 let Q:Mc × Int→Prop:=fun p=>p.1.rd≤inp.size
 show Q (mI inp s i)
 unfold mI
 iterate 8 (refine iteQ (P:=Q) (fun _=>h) fun _=>?_)
 iterate 2 (refine iteQ (P:=Q) (fun _=>iteQ (P:=Q) (fun _=>h) fun _=>h) fun _=>?_)
 refine iteQ (P:=Q) (fun _=>iteQ (P:=Q) (fun q=>q) fun _=>h) fun _=>?_
 iterate 2 (refine iteQ (P:=Q) (fun _=>iteQ (P:=Q) (fun _=>h) fun _=>h) fun _=>?_)
 refine iteQ (P:=Q) (fun _=>h) fun _=>?_
 exact iteQ (P:=Q) (fun _=>h) fun _=>h
theorem run_same (hc:CdOk code) (hi:inp.size≤1000000000):∀ {k n:Nat} {s s':Mc} {t:S},Mx code inp k s s'→RSM s t n→s.rd≤inp.size→n+k≤4000000000000000000 →
 RSM s' (runN (wrds code) inp t k) (n+k)∧s'.rd≤inp.size
 | 0,n,s,s',t,h,hr,hd,_=>by cases h;exact ⟨hr,hd⟩
 | k+1,n,s,s',t,h,hr,hd,hn=>by
  obtain ⟨h1,h2,h3,h4⟩:=h
  have hst:=(step_same hc hr h1 h2 (by omega) (by omega)).1 h3
  have:=run_same hc hi h4 hst (mI_rd _ _ hd) (by omega)
  rw[show n+1+k=n+(k+1) by omega]at this
  rw[show k+1=1+k by omega,runN_add]
  rw[show n+(1+k)=n+(k+1) by omega]
  exact this
theorem end_same (hc:CdOk code) (hi:inp.size≤1000000000) {k:Nat} {s s':Mc} {t:S} {e:Int} (h:Mn code inp k s e s') (hr:RSM s t 0) (hd:s.rd≤inp.size) (hk:k≤4000000000000000000) {F:Nat} (hF:k<F) :
 (runN (wrds code) inp t F).fin=e∧(runN (wrds code) inp t F).out.data.toList=s'.out∧(runN (wrds code) inp t F).st=((k+1:Nat):Int):=by
 obtain ⟨s1,h1,h2,h3,h4,h5⟩:=h
 obtain ⟨g1,g2⟩:=run_same hc hi h1 hr hd (by omega)
 rw[Nat.zero_add]at g1
 have:=(step_same (inp:=inp) hc g1 h2 h3 (by omega) (by omega)).2 (by rw[h4];exact h5)
 rw[h4]at this
 obtain ⟨q1,q2,q3⟩:=this
 have hs:runN (wrds code) inp t (k+1)=stepF (wrds code) inp (runN (wrds code) inp t k):=rfl
 rw[show F=k+1+(F-(k+1)) by omega,runN_stays (by rw[hs,q1];exact h5),hs]
 exact ⟨q1,q2,q3⟩
end
def mc0 (data:Int):Mc:=⟨0,fun _=>0,List.replicate data.toNat 0,0,[]⟩
theorem rs0 {data:Int} (h:data≤32768):RSM (mc0 data) (startF data) 0:=by
 refine ⟨rfl,rfl,?_,rfl,rfl,rfl,rfl⟩
 unfold startF mc0
 by_cases h0:0<data
 ·simp only[if_pos (show 0<data∧data≤32768 from ⟨h0,h⟩)]
 ·simp only[if_neg (show ¬ (0<data∧data≤32768) from fun h=>h0 h.1)]
  rw[show data.toNat=0 by omega];rfl
section
variable {s:SP} {σ:SM} {m:Mc} {inp:ByteArray}
theorem sim_step (hP:SimP s) (hI:InvS s (depS s) σ) (hw:WfS σ) (h:Rk s σ m) (h0:σ.fin=0) (ho:σ.out.length<65536) :
 ((stepS s inp σ).fin=0→GoesK s inp σ m)∧((stepS s inp σ).fin≠0→EndsK s inp σ m):=by
 have hI':=inv_step (inp:=inp) hP.r hP.dep hI h0
 have hg:=(inv_good hP.r hP.dep hI).ok
 have hfit:=(hP.r.fn _ hI.top.f).fits _ hI.top.k
 have go:(stepS s inp σ).fin=0→((InvS s (depS s) (stepS s inp σ))→GoesK s inp σ m)→((stepS s inp σ).fin=0→GoesK s inp σ m)∧((stepS s inp σ).fin≠0→EndsK s inp σ m):=fun a b=>⟨fun _=>b (hI' a),fun hf=>absurd a hf⟩
 have fin:∀ {k:Int},(s.ins σ.top.f σ.top.at_).op=k→(stepI s inp (s.ins σ.top.f σ.top.at_) σ.next).fin=0→(stepS s inp σ).fin=0:=fun e h=>by rw[stepS_eq h0];exact h
 have hf0:σ.next.fin=0:=h0
 obtain ⟨f1,f2,f3⟩:=hfit
 have hg2:=hg
 unfold OkI at hg
 rcases hg with e | ⟨e,ha,hb⟩ | ⟨e,ha,hb,hl⟩ | ⟨e,ha,hb,hab,hl⟩ | ⟨e,ha,hb,hab,hl⟩ | ⟨e,hl⟩ | ⟨e,hl⟩ | ⟨e,ha⟩ | ⟨e,ha,hl⟩ | ⟨e,ha,hb,hc⟩ | ⟨e,hl⟩ | e | ⟨e,hl⟩
 ·exact go (fin e (by simp only[stepI,e,Int.reduceEq,if_true,if_false,SM.setL];exact h0)) fun k=>op_push hP hI h h0 k e
 ·exact go (fin e (by simp only[stepI,e,Int.reduceEq,if_true,if_false,SM.setL];exact h0)) fun k=>op_load hP hI h h0 k e ⟨ha,hb⟩
 ·exact go (fin e (by simp only[stepI,e,Int.reduceEq,if_true,if_false,SM.setL];exact h0)) fun k=>op_store hP hI h h0 e ⟨ha,hb⟩ hl
 ·exact op_aload hP hI hw h h0 hI' e ⟨ha,hb,hab⟩ hl
 ·exact op_astore hP hI hw h h0 e ⟨ha,hb,hab⟩ hl
 ·exact op_op hP hI h h0 hI' e (by omega) hl
 ·exact go (fin e (by simp only[stepI,e,Int.reduceEq,if_true,if_false,SM.setL];exact h0)) fun k=>op_not hP hI h h0 k e hl
 ·exact go (fin e (by simp only[stepI,e,Int.reduceEq,if_true,if_false,SM.jump];exact h0)) fun k=>op_jump hP hI h h0 e (by omega)
 ·refine go (fin e ?_) fun k=>op_zero hP hI h h0 e (by omega) hl
  simp only[stepI,e,Int.reduceEq,if_true,if_false,SM.jump,SM.setL]
  split<;>exact h0
 ·exact go (fin e (by simp only[stepI,e,Int.reduceEq,if_true,if_false,SM.call];exact h0)) fun k=>op_call hP hI h h0 e (by omega) hc
 ·exact op_ret hP hI h h0 hI' e hl
 ·refine go (fin e ?_) fun k=>op_get hP hI h h0 k e
  simp only[stepI,e,Int.reduceEq,if_true,if_false,SM.setL]
  split<;>exact h0
 ·exact go (fin e (by simp only[stepI,e,Int.reduceEq,if_false,SM.setL];exact h0)) fun k=>op_put hP hI h h0 ho e hl
theorem inv_start (hP:SimP s):InvS s (depS s) (startS s):=by
 have hn0:=hP.r.n0
 have hl:s.funcs.length-1<s.funcs.length:=by omega
 have hs:=hP.dep _ hl
 refine ⟨by simp[startS],⟨hl,?_,?_⟩,hP.r.lw⟩
 ·show 0<(s.fn (s.funcs.length-1)).code.length
  cases hcd:(s.fn (s.funcs.length-1)).code with
  | nil=>exact absurd hcd hs.ne
  | cons a l=>simp
 ·show (depS s (s.funcs.length-1)).getD 0 (-1)=_
  rw[hs.zero];rfl
theorem rk_start (hP:SimP s) (inp:ByteArray):∃ m,Mx (fixE s) inp 1 (mc0 (dataE s)) m∧Rk s (startS s) m:=by
 have hn0:=hP.r.n0
 have hw0:=hP.r.w0
 have hd:=hP.dat
 have hwd:=words_le (s:=s) s.funcs.length
 have hde:dataE s=datE s s.funcs.length:=rfl
 have hat:=at_one hn0
 refine ⟨_,Mx.one hat rfl (mI_li inp _ 15 0 1),⟨rfl,rfl,?_,?_,fun a ha=>?_,rfl,rfl,trivial,?_⟩⟩
 ·show (0:Int)+1=((adr s (s.funcs.length-1) 0:Nat):Int)
  rw[adr_zero,ent_last hn0]
  unfold headE
  rw[if_pos (show (exE s (s.funcs.length-1)).last by unfold Ex.last exE;simp only;omega)];rfl
 ·show ((List.replicate (dataE s).toNat (0:Int)).length:Int)=_
  rw[List.length_replicate];omega
 ·show (List.replicate (dataE s).toNat (0:Int)).getD a default=(List.replicate s.words.toNat (0:Int)).getD a default
  rw[List.getD,List.getD,List.getElem?_replicate,List.getElem?_replicate,if_pos (by omega),if_pos ha]
 ·show s.funcs.length-1+1=s.funcs.length
  omega
theorem sim_run (hP:SimP s) (inp:ByteArray):∀ k:Nat,k≤60000 →
 ((runS s inp (startS s) k).fin=0→InvS s (depS s) (runS s inp (startS s) k)∧WfS (runS s inp (startS s) k)∧(runS s inp (startS s) k).out.length≤k∧(runS s inp (startS s) k).steps=k∧∃ (n:Nat) (m:Mc),(n:Int)≤1+k*(64+8*s.words)∧Mx (fixE s) inp n (mc0 (dataE s)) m∧Rk s (runS s inp (startS s) k) m) ∧
 ((runS s inp (startS s) k).fin≠0→∃ (n:Nat) (m:Mc),(n:Int)+1≤((runS s inp (startS s) k).steps+1)*(64+8*s.words)∧(runS s inp (startS s) k).steps≤k∧Mn (fixE s) inp n (mc0 (dataE s)) (runS s inp (startS s) k).fin m∧m.out=(runS s inp (startS s) k).out)
 | 0,_=>by
  refine ⟨fun _=>?_,fun h=>absurd rfl h⟩
  obtain ⟨m,h1,h2⟩:=rk_start hP inp
  exact ⟨inv_start hP,startS_wf s,Nat.le_refl _,rfl,1,m,by omega,h1,h2⟩
 | k+1,hk=>by
  obtain ⟨g1,g2⟩:=sim_run hP inp k (by omega)
  have hw0:=hP.r.w0
  have hS:runS s inp (startS s) (k+1)=stepS s inp (runS s inp (startS s) k):=rfl
  rw[hS]
  by_cases h0:(runS s inp (startS s) k).fin=0
  ·obtain ⟨hI,hw,ho,hst,n,m,hn,hx,hr⟩:=g1 h0
   have hgood:=inv_good hP.r hP.dep hI
   obtain ⟨w1,w2,w3,w4⟩:=stepS_wf (inp:=inp) hP.wf hw hgood
   obtain ⟨s1,s2⟩:=sim_step (inp:=inp) hP hI hw hr h0 (by omega)
   have hstep:(stepS s inp (runS s inp (startS s) k)).steps=k+1:=by
    rw[stepS_eq h0,(stepI_wf (inp:=inp) (ins_wf hP.wf hgood.f hgood.k) (show WfS (runS s inp (startS s) k).next from ⟨hw.mem,hw.top,hw.below⟩) hgood.ok).2.2.1]
    show (runS s inp (startS s) k).steps+1=k+1
    rw[hst]
   refine ⟨fun h1=>?_,fun h1=>?_⟩
   ·obtain ⟨n2,m2,q1,q2,q3⟩:=s1 h1
    refine ⟨inv_step hP.r hP.dep hI h0 h1,w1,by omega,hstep,n+n2,m2,?_,hx.trans q2,q3⟩
    have:((k+1:Nat):Int)*(64+8*s.words)=k*(64+8*s.words)+(64+8*s.words):=by
     rw[Int.natCast_add,Int.add_mul];simp
    omega
   ·obtain ⟨n2,m2,q1,q2,q3⟩:=s2 h1
    refine ⟨n+n2,m2,?_,by omega,hx.end_ q2,q3⟩
    rw[hstep]
    have:(((k+1:Nat):Int)+1)*(64+8*s.words)=k*(64+8*s.words)+(64+8*s.words)+(64+8*s.words):=by
     rw[Int.natCast_add,Int.add_mul,Int.add_mul];simp
    omega
  ·have:stepS s inp (runS s inp (startS s) k)=runS s inp (startS s) k:=by unfold stepS;rw[if_neg h0]
   rw[this]
   refine ⟨fun h=>absurd h h0,fun _=>?_⟩
   obtain ⟨n,m,q1,q2,q3⟩:=g2 h0
   exact ⟨n,m,q1,by omega,q3⟩
theorem sim_end (hP:SimP s) (hc:CdOk (fixE s)) (hi:inp.size≤1000000000) {k:Nat} (hk:k≤60000) (hfin:(runS s inp (startS s) k).fin≠0) {F:Nat} (hF:((runS s inp (startS s) k).steps+1)*(64+8*s.words)≤F) :
 (runN (wrds (fixE s)) inp (startF (dataE s)) F).fin=(runS s inp (startS s) k).fin∧(runN (wrds (fixE s)) inp (startF (dataE s)) F).out.data.toList=(runS s inp (startS s) k).out:=by
 have hw0:=hP.r.w0
 have hw1:=hP.r.w1
 obtain ⟨n,m,h1,hs,h2,h3⟩:=(sim_run hP inp k hk).2 hfin
 have hb:(((runS s inp (startS s) k).steps:Int)+1)*(64+8*s.words)≤60001*300000:=Int.mul_le_mul (by omega) (by omega) (by omega) (by omega)
 obtain ⟨e1,e2,_⟩:=end_same hc hi h2 (rs0 hP.dat) (Nat.zero_le _) (by omega) (F:=F) (by omega)
 exact ⟨e1,e2.trans h3⟩
end
end Go.Proofs.YtaedcpipilnpcaaGreat
namespace Go.V
set_option linter.unusedSimpArgs false
set_option linter.unusedVariables false
theorem flat_getR {α:Type} {z:Nat}:∀ {ls:List (List α)},(∀ l ∈ ls,l.length=z)→∀ {i j:Nat} {l:List α} {u:α},ls[i]? = some l→l[j]? = some u→ls.flatten[i*z+j]? = some u
 | [],_,i,j,l,u,h,_=>by simp at h
 | a::ls,hz,i,j,l,u,h,hu=>by
  have ha:=hz a (by simp)
  cases i with
  | zero =>
   simp at h;subst h
   rw[List.flatten_cons,Nat.zero_mul,Nat.zero_add,List.getElem?_append_left (List.getElem?_eq_some_iff.1 hu).1];exact hu
  | succ i =>
   simp only[List.getElem?_cons_succ]at h
   rw[List.flatten_cons,List.getElem?_append_right (by rw[ha,Nat.succ_mul];omega),ha,show (i+1)*z+j-z=i*z+j by rw[Nat.succ_mul];omega]
   exact flat_getR (fun l hl=>hz l (by simp[hl])) h hu
theorem RL.splitR {M:MM}:∀ {xs ys:List AV} {vs:List Value},RL M (xs++ys) vs→∃ v1 v2,vs=v1++v2∧RL M xs v1∧RL M ys v2
 | [],ys,vs,h=>⟨[],vs,rfl,by simp only[RL],h⟩
 | x::xs,ys,vs,h=>by
  simp only[List.cons_append,RL]at h
  obtain ⟨v,vs',rfl,h1,h2⟩:=h
  obtain ⟨v1,v2,rfl,h3,h4⟩:=RL.splitR h2
  exact ⟨v::v1,v2,rfl,by simp only[RL];exact ⟨v,v1,rfl,h1,h3⟩,h4⟩
theorem RL.chunksR {M:MM}:∀ {yss:List (List AV)} {vs:List Value},RL M yss.flatten vs→∃ vss:List (List Value),vs=vss.flatten∧vss.length=yss.length∧∀ (i:Nat) (l:List AV) (v:List Value),yss[i]? = some l→vss[i]? = some v→RL M l v
 | [],vs,h=>by
  simp only[List.flatten_nil,RL]at h
  exact ⟨[],h,rfl,fun i l v h=>by simp at h⟩
 | y::yss,vs,h=>by
  rw[List.flatten_cons]at h
  obtain ⟨v1,v2,rfl,h1,h2⟩:=RL.splitR h
  obtain ⟨vss,rfl,h3,h4⟩:=RL.chunksR h2
  refine ⟨v1::vss,by simp,by simp[h3],fun i l v hl hv=>?_⟩
  cases i with
  | zero=>simp at hl hv;subst hl;subst hv;exact h1
  | succ i=>exact h4 i l v (by simpa using hl) (by simpa using hv)
theorem rl0_aggs {M:MM} {n:Nat} (hR:RH M):∀ {yss:List (List AV)} {vss:List (List Value)},vss.length=yss.length→(∀ (i:Nat) (l:List AV) (v:List Value),yss[i]? = some l→vss[i]? = some v→RL M l v)→(∀ l ∈ yss,l.all AV.pure=true) →
 RL0 M.w (Drop M n) (yss.map .agg) (vss.map fun l=>Value.agg l.toArray)
 | [],[],_,_,_=>by simp only[List.map_nil,RL0]
 | [],v::vs,h,_,_=>by simp at h
 | y::ys,[],h,_,_=>by simp at h
 | y::ys,v::vs,h,h1,h2=>by
  simp only[List.map_cons,RL0]
  refine ⟨_,_,rfl,?_,rl0_aggs hR (by simpa using h) (fun i l v hl hv=>h1 (i+1) l v (by simpa using hl) (by simpa using hv)) (fun l hl=>h2 l (by simp[hl]))⟩
  simp only[RV0]
  exact ⟨v,rfl,(FrzL.pure (n:=n) (h2 y (by simp))).rl hR rfl rfl (h1 0 y v (by simp) (by simp))⟩
theorem flatz_lenR {α:Type} {z:Nat}:∀ {ls:List (List α)},(∀ l ∈ ls,l.length=z)→ls.flatten.length=ls.length*z
 | [],_=>by simp
 | y::ys,h=>by rw[List.flatten_cons,List.length_append,flatz_lenR (fun l hl=>h l (by simp[hl])),h y (by simp),List.length_cons,Nat.succ_mul];omega
theorem Frz.refS {n:Nat} {H:List VObj} {nx id s len z:Nat} {ob:VObj} {yss:List (List AV)} (hid:n≤id) (ho:H[id]? = some ob) (hs:ob.s=s) (hz:ob.sz=z) (hcs:ob.cs=yss.flatten)
 (hy:∀ l ∈ yss,l.length=z∧l.all AV.pure=true) (hlen:len=yss.length):Frz n H nx (.ref id s 0 len) (.imm z (yss.map .agg)):=fun M hR hH hnx v r=>by
 subst hH;subst hlen
 simp only[RV]at r
 obtain ⟨hzz,r⟩:=r.2.2 ob ho hs
 have hfl:yss.flatten.length=yss.length*z:=flatz_lenR fun l hl=>(hy l hl).1
 cases hm:M.m.getD id none with
 | none =>
  rw[hm]at r
  obtain ⟨rfl,h1,h2⟩:=r
  have:yss=[]:=List.length_eq_zero_iff.1 (by omega)
  subst this
  simp only[List.map_nil,RV0,RL0]
  exact ⟨none,0,0,[],rfl,rfl,Nat.le_refl _,by simp[maxLen],rfl,by simp,.inl rfl⟩
 | some g =>
  rw[hm]at r
  obtain ⟨oo,cap,rfl,q2,q3,q4,q5,q6⟩:=r
  obtain ⟨vs,g1,g2,g3⟩:=hR.cells ho hzz hm 0 (yss.length*z) (by rw[hcs,hfl];omega)
  rw[List.drop_zero,hcs,List.take_of_length_le (by omega)]at g2
  obtain ⟨vss,rfl,h3,h4⟩:=RL.chunksR g2
  have hlv:∀ i v,vss[i]? = some v→∃ l,yss[i]? = some l∧RL M l v∧v.length=z:=fun i v hv=>by
   have hi:i<yss.length:=by have:=(List.getElem?_eq_some_iff.1 hv).1;omega
   have hl:=List.getElem?_eq_getElem hi
   have:=h4 i _ v hl hv
   exact ⟨_,hl,this,by rw[this.length];exact (hy _ (List.getElem_mem hi)).1⟩
  have hmem:∀ v ∈ vss,v.length=z:=fun v hv=>by
   obtain ⟨i,hi⟩:=List.getElem?_of_mem hv
   obtain ⟨_,_,_,e⟩:=hlv i v hi
   exact e
  simp only[RV0]
  refine ⟨_,yss.length,cap,vss.map fun l=>Value.agg l.toArray,rfl,by simp,q2,q3,?_,fun u hu=>?_,?_⟩
  ·exact rl0_aggs hR h3 h4 fun l hl=>(hy l hl).2
  ·obtain ⟨l,hl,rfl⟩:=List.mem_map.1 hu
   simp[Value.cells,hmem l hl]
  ·by_cases hl:yss.length=0
   ·exact .inl hl
   ·refine .inr ⟨g,oo,rfl,⟨.inr ⟨(hR.lt hm).1,(hR.lt hm).2.1⟩,fun j hj e=>by have:=hR.inj j id g e hm;omega⟩,fun i u hu j x hx=>?_⟩
    have hoo:oo=M.o id+0:=by rcases q5 with q5 | q5<;>omega
    rw[List.getElem?_map]at hu
    cases hv:vss[i]? with
    | none=>rw[hv]at hu;cases hu
    | some l =>
     rw[hv]at hu
     simp only[Option.map_some,Option.some.injEq]at hu
     subst hu
     have hx':l[j]? = some x:=by simpa [Value.cells] using hx
     have:=g3 _ _ (flat_getR hmem hv hx')
     rw[hoo,Nat.add_assoc];exact this
end Go.V
namespace Go.Proofs.YtaedcpipilnpcaaGreat
set_option linter.unusedSimpArgs false
set_option linter.unusedVariables false
set_option maxRecDepth 10000
open Go.V
structure XQ where
 k:Nat
 T:List VObj
 m:AV
 own:Bool
 more:AV
 bs:List UInt8
 nx:Nat
theorem steps_v (code:List Int) (inp:ByteArray) (σ:S) (fuel:Int) (n sR s6 s7 sy nx0:Nat) (R0:VObj) (Lf:Nat→List VObj) (T0:List VObj) (C:AV→List VObj→Nat→Prop)
 (hcode:∀ x ∈ code,In32 x) (hcl:code.length≤1000000) (hi:inp.size≤1000000000) (hw:Wf σ) (hl:σ.mem.length≤1000000) (hol:σ.out.size+fuel.toNat≤1000000) (hfu:fuel≤1000000)
 (hlen:∀ k,(Lf k).length=n) (hz:R0.sz=0)
 (hT0:T0=[⟨s6,104,1,[.ptr n sR 0]⟩,⟨s7,3,1,[I fuel]⟩,R0])
 (hy:∀ (k:Nat) (T:List VObj) (o:VObj) (nx:Nat) (C:AV→List VObj→Nat→Prop),k<fuel.toNat→doneF code (runN code inp σ k)=true→Keep T0 T→C (B true) (Lf (k+1)++o::T) nx→YCall Tryz.prog (n+3) sy [I (runN code inp σ k).pc] (Lf k++o::T) nx C)
 (hL:∀ k,doneF code (runN code inp σ k)=false→Lf (k+1)=Lf k)
 (hC:∀ r T m own more bs nx,MemAt (Lf fuel.toNat) T m own (runN code inp σ fuel.toNat).mem→MoreAt (Lf fuel.toNat) T more bs→(runN code inp σ fuel.toNat).out.data.toList=σ.out.data.toList++bs→Keep T0 T →
   C r (Lf fuel.toNat++rob sR (rnc (words code) inp (runN code inp σ fuel.toNat).pc (runN code inp σ fuel.toNat).reg m (runN code inp σ fuel.toNat).rd σ.out (runN code inp σ fuel.toNat).st (runN code inp σ fuel.toNat).fin own more)::T) nx) :
 VCall Tryz.prog 79 [.yld (n+3) sy,.ptr (n+2) s7 0,.ptr (n+1) s6 0]
  (Lf 0++rob sR (rnc (words code) inp σ.pc σ.reg (words σ.mem) σ.rd σ.out σ.st σ.fin false nilv)::T0) nx0 C:=by
 refine VCall.of_bodyB hmix f_exec_steps_1 (by simp) ?_
 have hwf:=runN_wf (code:=code) (inp:=inp) hcode hw
 have hst:∀ k,(runN code inp σ k).fin≠0→∀ d,runN code inp σ (k+d)=runN code inp σ k∧Lf (k+d)=Lf k:=fun k h d=>by
  induction d with
  | zero=>exact ⟨rfl,rfl⟩
  | succ d ih =>
   refine ⟨runN_stays h (d+1),?_⟩
   rw[← ih.2]
   exact hL (k+d) (by rw[ih.1];simp[doneF,h])
 simp only[go_sem,c_exec_steps_1]
 refine VW_loop (fun q:XQ=>⟨[(0,.yld (n+3) sy),(1,.ptr (n+2) s7 0),(2,.ptr (n+1) s6 0),(4,I q.k)],Lf q.k++rob sR (rnc (words code) inp (runN code inp σ q.k).pc (runN code inp σ q.k).reg q.m (runN code inp σ q.k).rd σ.out (runN code inp σ q.k).st (runN code inp σ q.k).fin q.own q.more)::q.T,q.nx⟩)
  (fun q=>q.k≤fuel.toNat∧MemAt (Lf q.k) q.T q.m q.own (runN code inp σ q.k).mem∧MoreAt (Lf q.k) q.T q.more q.bs∧(runN code inp σ q.k).out.data.toList=σ.out.data.toList++q.bs∧Keep T0 q.T) (fun q=>fuel.toNat-q.k)
  ⟨0,T0,words σ.mem,false,nilv,[],nx0⟩ (Wk.mk (by simp[get_cons]) ⟨[],(List.append_nil _).symm⟩ (Nat.le_refl _)) ⟨Nat.zero_le _,.inl ⟨rfl,rfl⟩,.inl ⟨rfl,rfl⟩,by show σ.out.data.toList=_;simp,Keep.refl _⟩ ?_
 rintro ⟨k,T,m,own,more,bs,nx⟩ ⟨h1,h2,h3,h4,h5⟩
 simp only at h1 h2 h3 h4 h5
 have hk:=hlen k
 have g6:∀ o:VObj,(Lf k++o::T)[n+1]? = some ⟨s6,104,1,[.ptr n sR 0]⟩:=fun o=>by
  have e:=ogk (Lf k) o T 0
  rw[hk]at e
  exact e.trans (h5 0 _ (by rw[hT0];rfl) (.inr ⟨by simp,by simp⟩))
 have g7:∀ o:VObj,(Lf k++o::T)[n+2]? = some ⟨s7,3,1,[I fuel]⟩:=fun o=>by
  have e:=ogk (Lf k) o T 1
  rw[hk]at e
  exact e.trans (h5 1 _ (by rw[hT0];rfl) (.inr ⟨by simp,by simp⟩))
 obtain ⟨ρ,hρ⟩:∃ ρ,runN code inp σ k=ρ:=⟨_,rfl⟩
 have hρ1:runN code inp σ (k+1)=stepF code inp ρ:=by rw[← hρ];rfl
 obtain ⟨w1,w2,w3⟩:=hwf k
 have hh:=hst k
 have hyk:=hy k
 have hLk:=hL k
 rw[hρ]at h2 h4 w1 w2 w3 hh hyk hLk
 by_cases c1:(k:Int)<fuel
 ·by_cases c2:ρ.fin=0
  ·simp only[go_sem,g6,g7,eq_true c1,hρ]
   refine going_v code inp ρ.pc ρ.reg m ρ.rd σ.out ρ.st ρ.fin own more (Lf k) T sR nx hk _ ?_
   have hg:(ρ.fin == 0)=true:=by simp[c2]
   simp only[go_sem,g6,hg]
   refine pc_v code inp ρ.pc ρ.reg m ρ.rd σ.out ρ.st ρ.fin own more (Lf k) T sR nx hk _ ?_
   simp only[go_sem,g6]
   refine rstep_at code inp m σ.out own more bs (Lf k) T sR nx hk hcode hcl hi ρ w1 h2 (by omega) h3 h4 (by omega) _ fun T' m' own' more' bs' nx' j1 j2 j3 j4=>?_
   cases hd:doneF code ρ
   ·have e:=hLk hd
    simp only[go_sem]
    rw[i64_in (by omega) (by omega)]
    refine ⟨⟨k+1,T',m',own',more',bs',nx'⟩,⟨by simp only;omega,?_,?_,?_,h5.trans j4⟩,by simp only;omega,?_⟩
    ·simp only[hρ1,e];exact j1
    ·simp only[e];exact j2
    ·simp only[hρ1];exact j3
    ·simp only[hρ1,e]
     exact Wk.mk (by simp[get_cons]) ⟨[],(List.append_nil _).symm⟩ (Nat.le_refl _)
   ·simp only[go_sem]
    refine hyk T' _ nx' _ (by omega) hd (h5.trans j4) ?_
    simp only[go_sem]
    rw[i64_in (by omega) (by omega)]
    have e1:(Lf k).length=(Lf (k+1)).length:=by rw[hlen,hlen]
    refine ⟨⟨k+1,T',m',own',more',bs',nx'⟩,⟨by simp only;omega,?_,?_,?_,h5.trans j4⟩,by simp only;omega,?_⟩
    ·simp only[hρ1];exact j1.len e1
    ·exact j2.len e1
    ·simp only[hρ1];exact j3
    ·simp only[hρ1]
     exact Wk.mk (by simp[get_cons]) ⟨[],(List.append_nil _).symm⟩ (Nat.le_refl _)
  ·obtain ⟨e1,e2⟩:=hh c2 (fuel.toNat-k)
   rw[show k+(fuel.toNat-k)=fuel.toNat by omega]at e1 e2
   rw[e1,e2]at hC
   simp only[go_sem,g6,g7,eq_true c1,hρ]
   refine going_v code inp ρ.pc ρ.reg m ρ.rd σ.out ρ.st ρ.fin own more (Lf k) T sR nx hk _ ?_
   have hg:(ρ.fin == 0)=false:=by simp[c2]
   simp only[go_sem,hg]
   exact hC _ T m own more bs nx h2 h3 h4 h5
 ·have e:fuel.toNat=k:=by omega
  rw[e]at hC
  rw[hρ]at hC
  simp only[go_sem,g7,eq_false c1,hρ]
  exact hC _ T m own more bs nx h2 h3 h4 h5
set_option maxRecDepth 10000
open Go.V
theorem MemAt.setz {L T:List VObj} {m:AV} {own:Bool} {mem:List Int} (h:MemAt L T m own mem) {j:Nat} {R E:VObj} (hj:T[j]? = some R) (hz:R.sz=0):MemAt L (T.set j E) m own mem:=by
 rcases h with h | ⟨h1,k,sm,h2,h3⟩
 ·exact .inl h
 ·refine .inr ⟨h1,k,sm,h2,?_⟩
  have hne:j≠k:=fun e=>by
   subst e;rw[hj]at h3;cases h3;exact absurd hz (by simp)
  rw[List.getElem?_set,if_neg hne];exact h3
theorem MoreAt.setz {L T:List VObj} {m:AV} {bs:List UInt8} (h:MoreAt L T m bs) {j:Nat} {R E:VObj} (hj:T[j]? = some R) (hz:R.sz=0):MoreAt L (T.set j E) m bs:=by
 rcases h with h | ⟨k,sm,h2,h3⟩
 ·exact .inl h
 ·refine .inr ⟨k,sm,h2,?_⟩
  have hne:j≠k:=fun e=>by
   subst e;rw[hj]at h3;cases h3;exact absurd hz (by simp)
  rw[List.getElem?_set,if_neg hne];exact h3
theorem set_of_getR {α:Type} {l:List α} {i:Nat} {x:α} (h:l[i]? = some x):l.set i x=l:=by
 obtain ⟨hlt,rfl⟩:=List.getElem?_eq_some_iff.1 h
 exact List.set_getElem_self hlt
theorem go_c (code:List Int) (data:Int) (inp:ByteArray) (σ:S) (fuel:Int) (hcode:∀ x ∈ code,In32 x) (hcl:code.length≤1000000) (hi:inp.size≤1000000000) (hw:Wf σ) (hl:σ.mem.length≤1000000) (hol:σ.out.size+fuel.toNat≤1000000) (hfu:fuel≤1000000) :
 Contract Tryz.prog 25 [imgA code data,strv inp,stA σ,I fuel] (fun r=>r=stA (runN code inp σ fuel.toNat)):=by
 refine Contract.of_call (VCall.of_bodyB hmix f_exec_Go (by simp) ?_)
 simp only[go_sem,c_exec_Go,s_all,stc_all]
 refine new_v code data inp σ _ _ _ ?_
 simp only[go_sem]
 refine VCall.of_body hmix f_exec_steps (by simp) ?_
 simp only[go_sem,c_exec_steps,s_zero]
 intro R Bo E hz hY
 have hl5:(stepL code data σ.pc σ.reg σ.mem σ.rd σ.out σ.st σ.fin).length=5:=rfl
 have hwf:=runN_wf (code:=code) (inp:=inp) hcode hw fuel.toNat
 refine steps_v code inp σ fuel 5 5 6 7 8 _ R (fun _=>stepL code data σ.pc σ.reg σ.mem σ.rd σ.out σ.st σ.fin) _ _ hcode hcl hi hw hl hol hfu (fun _=>hl5) hz rfl (fun k T o nx C h1 h2 h3 h4=>?_) (fun _ _=>rfl) fun r T m own more bs nx h1 h2 h3 h4=>?_
 ·have hr:(stepL code data σ.pc σ.reg σ.mem σ.rd σ.out σ.st σ.fin++o::T)[8]? = some R:=(ogk (stepL code data σ.pc σ.reg σ.mem σ.rd σ.out σ.st σ.fin) o T 2).trans (h3 2 R rfl (.inl hz))
  refine hY _ _ _ _ hr rfl ?_
  simp only[go_sem]
  have hlt:=(List.getElem?_eq_some_iff.1 hr).1
  have hb:((stepL code data σ.pc σ.reg σ.mem σ.rd σ.out σ.st σ.fin++o::T).set 8 Bo)[8]? = some Bo:=by rw[List.getElem?_set,if_pos rfl,if_pos hlt]
  refine ⟨hb,?_⟩
  rw[List.set_set]
  show C (B true) ((stepL code data σ.pc σ.reg σ.mem σ.rd σ.out σ.st σ.fin++o::T).set 8 R) nx
  rw[set_of_getR hr]
  exact h4
 ·have hT:T[2]? = some R:=h4 2 R rfl (.inl hz)
  refine ⟨(ogk (stepL code data σ.pc σ.reg σ.mem σ.rd σ.out σ.st σ.fin) _ T 2).trans hT,?_⟩
  have h1':MemAt (stepL code data σ.pc σ.reg σ.mem σ.rd σ.out σ.st σ.fin) (T.set 2 E) m own (runN code inp σ fuel.toNat).mem:=h1.setz hT hz
  have h2':MoreAt (stepL code data σ.pc σ.reg σ.mem σ.rd σ.out σ.st σ.fin) (T.set 2 E) more bs:=h2.setz hT hz
  have hset:∀ o:VObj,(stepL code data σ.pc σ.reg σ.mem σ.rd σ.out σ.st σ.fin++o::T).set 8 E=stepL code data σ.pc σ.reg σ.mem σ.rd σ.out σ.st σ.fin++o::T.set 2 E:=fun o=>osk (stepL code data σ.pc σ.reg σ.mem σ.rd σ.out σ.st σ.fin) o E T 2
  have hg2:∀ R,(stepL code data σ.pc σ.reg σ.mem σ.rd σ.out σ.st σ.fin++R)[2]? = some ⟨2,83,1,stc 0 (fun _=>0) nilv 0 ⟨#[]⟩ 0 0⟩:=fun R=>rfl
  clear hY
  generalize stepL code data σ.pc σ.reg σ.mem σ.rd σ.out σ.st σ.fin=L at *
  generalize runN code inp σ fuel.toNat=ρ at *
  have hs2:∀ x R,(L++R).set 2 x=L.set 2 x++R:=fun x R=>List.set_append_left _ _ (by omega)
  have hg2':∀ x R,(L.set 2 x++R)[2]? = some x:=fun x R=>by rw[List.getElem?_append_left (by simp;omega),List.getElem?_set,if_pos rfl,if_pos (by omega)]
  simp only[go_sem,hset]
  refine rstate_at code inp m σ.out own more bs L (T.set 2 E) 5 _ hl5 ρ h1'.one h2' h3 (by omega) _ fun R2 more2 nx2 g4=>?_
  simp only[go_sem,hg2,hs2,hg2',stc_length,stc_all,s_all,s_put']
  refine ⟨h1'.one,_,stA_frz' (h1'.frz (Nat.zero_le _) fun k ob hk=>?_),rfl⟩
  rw[show L.length=(L.set 2 ⟨2,83,1,stc ρ.pc ρ.reg m ρ.rd ρ.out ρ.st ρ.fin⟩).length by simp,ogk,List.getElem?_append_left (List.getElem?_eq_some_iff.1 hk).1]
  exact hk
set_option maxRecDepth 10000
open Go.V
abbrev resA (e:Int) (out:ByteArray) (st:Int):AV:=.agg [I e,strv out,I st]
def endF (σ:S):Int:=if σ.fin=0 then 5 else σ.fin
def runF (code:List Int) (data:Int) (inp:ByteArray) (fuel:Int):S:=runN code inp (startF data) fuel.toNat
abbrev runA (code:List Int) (data:Int) (inp:ByteArray) (fuel:Int):AV:=resA (endF (runF code data inp fuel)) (runF code data inp fuel).out (runF code data inp fuel).st
theorem runN_c (code:List Int) (data:Int) (inp:ByteArray) (fuel:Int) (hcode:∀ x ∈ code,In32 x) (hcl:code.length≤1000000) (hi:inp.size≤1000000000) (hfu:fuel≤900000) :
 ContractN Tryz.prog 8 [imgA code data,strv inp,I fuel] (fun r=>r=runA code data inp fuel):=by
 have hs:=start_len data
 have ho:(startF data).out.size=0:=rfl
 refine ContractN.of_call (VCall.of_body hmix f_exec_Run (by simp) ?_)
 simp only[go_sem,c_exec_Run]
 refine ECall.of (start_c code data) (SleL.pure rfl) ⟨_,fun _=>Iff.rfl⟩ fun x hx=>?_
 subst hx
 simp only[go_sem]
 refine ECall.of (go_c code data inp (startF data) fuel hcode hcl hi (wf_start data) (by omega) (by omega) (by omega)) (SleL.pure rfl) ⟨_,fun _=>Iff.rfl⟩ fun x hx=>?_
 subst hx
 show _
 unfold runA endF runF
 generalize runN code inp (startF data) fuel.toNat=ρ
 by_cases h:ρ.fin=0
 ·simp only[go_sem,s_zero,s_put',stc_length,stc_all,s_fin,s_out,s_st,ss_fin,eq_true h]
  exact ⟨_,FrzN.agg ⟨_,_,rfl,FrzN.val,_,_,rfl,FrzN.val,_,_,rfl,FrzN.val,rfl⟩,rfl⟩
 ·simp only[go_sem,s_zero,s_put',stc_length,stc_all,s_fin,s_out,s_st,eq_false h]
  exact ⟨_,FrzN.agg ⟨_,_,rfl,FrzN.val,_,_,rfl,FrzN.val,_,_,rfl,FrzN.val,rfl⟩,rfl⟩
theorem run_c (code:List Int) (data:Int) (inp:ByteArray) (fuel:Int) (hcode:∀ x ∈ code,In32 x) (hcl:code.length≤1000000) (hi:inp.size≤1000000000) (hfu:fuel≤900000) :
 Contract Tryz.prog 8 [imgA code data,strv inp,I fuel] (fun r=>r=runA code data inp fuel):=(runN_c code data inp fuel hcode hcl hi hfu).old
def cntL (code:List Int) (inp:ByteArray) (σ:S):Nat→List Int
 | 0=>List.replicate code.length 0
 | k+1=>if doneF code (runN code inp σ k)=true then (cntL code inp σ k).set (runN code inp σ k).pc.toNat ((cntL code inp σ k).getD (runN code inp σ k).pc.toNat 0+1) else cntL code inp σ k
theorem cntL_len (code:List Int) (inp:ByteArray) (σ:S):∀ k,(cntL code inp σ k).length=code.length
 | 0=>by simp[cntL]
 | k+1=>by
  simp only[cntL];split
  ·rw[List.length_set];exact cntL_len code inp σ k
  ·exact cntL_len code inp σ k
theorem cntL_le (code:List Int) (inp:ByteArray) (σ:S):∀ k,∀ x ∈ cntL code inp σ k,0≤x∧x≤k
 | 0=>fun x hx=>by
  simp only[cntL,List.mem_replicate]at hx;rw[hx.2];exact ⟨Int.le_refl _,Int.le_refl _⟩
 | k+1=>fun x hx=>by
  have ih:=cntL_le code inp σ k
  simp only[cntL]at hx
  split at hx
  ·rcases List.mem_or_eq_of_mem_set hx with hx | hx
   ·have:=ih x hx;omega
   ·rw[hx,List.getD_eq_getElem?_getD]
    cases hg:(cntL code inp σ k)[(runN code inp σ k).pc.toNat]? with
    | none=>simp;omega
    | some y=>have:=ih y (List.mem_of_getElem? hg);simp;omega
  ·have:=ih x hx;omega
theorem cellT_I1 {xs:List Int} {off:Nat} {C:AV→Prop}:cellT (xs.map I) off false 1 C .mk=(off<xs.length∧C (I (xs.getD off default))):=cellT_map fun _=>rfl
set_option maxRecDepth 10000
open Go.V
set_option maxRecDepth 10000
open Go.V Go.ChangeShapes Go.WideShapes Go.ChangeAt Go.RowKit
set_option maxRecDepth 10000
open Go.V Go.ChangeShapes Go.WideShapes Go.ChangeAt Go.RowKit
set_option maxRecDepth 10000
open Go.V
def Fr (s t:S):Prop :=
 (∃ j v,t.reg=updR s.reg j v∧t.mem=s.mem∧t.out=s.out∧(t.rd=s.rd∨t.rd=IntKind.i64.wrap (s.rd+1))) ∨
 (∃ j v,t.reg=s.reg∧t.mem=s.mem.set j v∧t.out=s.out∧t.rd=s.rd) ∨
 (∃ b,t.reg=s.reg∧t.mem=s.mem∧t.out=s.out.push b∧t.rd=s.rd)
theorem updR_same (f:Nat→Int):f=updR f 0 (f 0):=by
 funext k;unfold updR;split
 ·rename_i h;rw[h]
 ·rfl
theorem Fr.same {s t:S} (h1:t.reg=s.reg) (h2:t.mem=s.mem) (h3:t.out=s.out) (h4:t.rd=s.rd):Fr s t :=
 .inl ⟨0,s.reg 0,by rw[h1];exact updR_same _,h2,h3,.inl h4⟩
set_option maxRecDepth 10000
open Go.V
def wkc (pc:Int) (f:Nat→Int) (m:AV) (rd:Int) (so:ByteArray) (st fin:Int) (o cd ok wd:AV) (inp:ByteArray) (ct:AV):List AV :=
 I pc::(regs f++[m,I rd,strv so,I st,I fin,o,cd,ok,wd,strv inp,ct])
section
variable {pc:Int} {f:Nat→Int} {m:AV} {rd:Int} {so:ByteArray} {st fin:Int} {o cd ok wd:AV} {inp:ByteArray} {ct:AV} {C:AV→Prop}
theorem wkc_length:(wkc pc f m rd so st fin o cd ok wd inp ct).length=28:=rfl
theorem wkc_all:(wkc pc f m rd so st fin o cd ok wd inp ct).all AV.one=(m.one && o.one && cd.one && ok.one && wd.one && ct.one):=by
 simp[wkc,regs_all];simp[AV.one,Value.oneCell',Bool.and_assoc]
theorem k_state:cellT (wkc pc f m rd so st fin o cd ok wd inp ct) 0 true 22 C .mk=C (.agg (stc pc f m rd so st fin)):=by
 have e:((wkc pc f m rd so st fin o cd ok wd inp ct).drop 0).take 22=stc pc f m rd so st fin:=rfl
 simp only[cellT,cellW,partOK,partA,wkc_length,if_true,e];simp
theorem k_reg {j:Nat} (h:j<16):cellT (wkc pc f m rd so st fin o cd ok wd inp ct) (1+j) false 1 C .mk=C (U32 (f j)):=by
 have e:(wkc pc f m rd so st fin o cd ok wd inp ct).getD (1+j) .dead=U32 (f j):=by
  rw[← regs_get (f:=f) h,wkc,Nat.add_comm,List.getD_cons_succ]
  simp only[List.getD,List.getElem?_append_left (show j<(regs f).length by rw[regs_length];exact h)]
 simp only[cellT,cellW,partOK,partA,wkc_length,e]
 simp[AV.one,Value.oneCell'];omega
theorem ks_reg {j:Nat} {v:Int} (h:j<16):(wkc pc f m rd so st fin o cd ok wd inp ct).set (1+j) (U32 v)=wkc pc (updR f j v) m rd so st fin o cd ok wd inp ct:=by
 rw[wkc,Nat.add_comm,List.set_cons_succ,List.set_append_left _ _ (by rw[regs_length];exact h),regs_set h];rfl
theorem k_pc:cellT (wkc pc f m rd so st fin o cd ok wd inp ct) 0 false 1 C .mk=C (I pc):=by
 have e:(wkc pc f m rd so st fin o cd ok wd inp ct).getD 0 .dead=I pc:=rfl
 simp only[cellT,cellW,partOK,partA,wkc_length,e];simp[AV.one,Value.oneCell']
theorem ks_pc {x:Int}:(wkc pc f m rd so st fin o cd ok wd inp ct).set 0 (I x)=wkc x f m rd so st fin o cd ok wd inp ct:=rfl
theorem k_mem:cellT (wkc pc f m rd so st fin o cd ok wd inp ct) 17 false 1 C .mk=(m.one=true∧C m):=by
 have e:(wkc pc f m rd so st fin o cd ok wd inp ct).getD 17 .dead=m:=rfl
 simp only[cellT,cellW,partOK,partA,wkc_length,e];simp
theorem ks_mem {x:AV}:(wkc pc f m rd so st fin o cd ok wd inp ct).set 17 x=wkc pc f x rd so st fin o cd ok wd inp ct:=rfl
theorem k_rd:cellT (wkc pc f m rd so st fin o cd ok wd inp ct) 18 false 1 C .mk=C (I rd):=by
 have e:(wkc pc f m rd so st fin o cd ok wd inp ct).getD 18 .dead=I rd:=rfl
 simp only[cellT,cellW,partOK,partA,wkc_length,e];simp[AV.one,Value.oneCell']
theorem ks_rd {x:Int}:(wkc pc f m rd so st fin o cd ok wd inp ct).set 18 (I x)=wkc pc f m x so st fin o cd ok wd inp ct:=rfl
theorem k_so:cellT (wkc pc f m rd so st fin o cd ok wd inp ct) 19 false 1 C .mk=C (strv so):=by
 have e:(wkc pc f m rd so st fin o cd ok wd inp ct).getD 19 .dead=strv so:=rfl
 simp only[cellT,cellW,partOK,partA,wkc_length,e];simp[AV.one,Value.oneCell']
theorem ks_so {x:ByteArray}:(wkc pc f m rd so st fin o cd ok wd inp ct).set 19 (strv x)=wkc pc f m rd x st fin o cd ok wd inp ct:=rfl
theorem k_st:cellT (wkc pc f m rd so st fin o cd ok wd inp ct) 20 false 1 C .mk=C (I st):=by
 have e:(wkc pc f m rd so st fin o cd ok wd inp ct).getD 20 .dead=I st:=rfl
 simp only[cellT,cellW,partOK,partA,wkc_length,e];simp[AV.one,Value.oneCell']
theorem ks_st {x:Int}:(wkc pc f m rd so st fin o cd ok wd inp ct).set 20 (I x)=wkc pc f m rd so x fin o cd ok wd inp ct:=rfl
theorem k_fin:cellT (wkc pc f m rd so st fin o cd ok wd inp ct) 21 false 1 C .mk=C (I fin):=by
 have e:(wkc pc f m rd so st fin o cd ok wd inp ct).getD 21 .dead=I fin:=rfl
 simp only[cellT,cellW,partOK,partA,wkc_length,e];simp[AV.one,Value.oneCell']
theorem ks_fin {x:Int}:(wkc pc f m rd so st fin o cd ok wd inp ct).set 21 (I x)=wkc pc f m rd so st x o cd ok wd inp ct:=rfl
theorem k_o:cellT (wkc pc f m rd so st fin o cd ok wd inp ct) 22 false 1 C .mk=(o.one=true∧C o):=by
 have e:(wkc pc f m rd so st fin o cd ok wd inp ct).getD 22 .dead=o:=rfl
 simp only[cellT,cellW,partOK,partA,wkc_length,e];simp
theorem ks_o {x:AV}:(wkc pc f m rd so st fin o cd ok wd inp ct).set 22 x=wkc pc f m rd so st fin x cd ok wd inp ct:=rfl
theorem k_cd:cellT (wkc pc f m rd so st fin o cd ok wd inp ct) 23 false 1 C .mk=(cd.one=true∧C cd):=by
 have e:(wkc pc f m rd so st fin o cd ok wd inp ct).getD 23 .dead=cd:=rfl
 simp only[cellT,cellW,partOK,partA,wkc_length,e];simp
theorem k_ok:cellT (wkc pc f m rd so st fin o cd ok wd inp ct) 24 false 1 C .mk=(ok.one=true∧C ok):=by
 have e:(wkc pc f m rd so st fin o cd ok wd inp ct).getD 24 .dead=ok:=rfl
 simp only[cellT,cellW,partOK,partA,wkc_length,e];simp
theorem k_wd:cellT (wkc pc f m rd so st fin o cd ok wd inp ct) 25 false 1 C .mk=(wd.one=true∧C wd):=by
 have e:(wkc pc f m rd so st fin o cd ok wd inp ct).getD 25 .dead=wd:=rfl
 simp only[cellT,cellW,partOK,partA,wkc_length,e];simp
theorem k_in:cellT (wkc pc f m rd so st fin o cd ok wd inp ct) 26 false 1 C .mk=C (strv inp):=by
 have e:(wkc pc f m rd so st fin o cd ok wd inp ct).getD 26 .dead=strv inp:=rfl
 simp only[cellT,cellW,partOK,partA,wkc_length,e];simp[AV.one,Value.oneCell']
theorem k_ct:cellT (wkc pc f m rd so st fin o cd ok wd inp ct) 27 false 1 C .mk=(ct.one=true∧C ct):=by
 have e:(wkc pc f m rd so st fin o cd ok wd inp ct).getD 27 .dead=ct:=rfl
 simp only[cellT,cellW,partOK,partA,wkc_length,e];simp
end
set_option maxRecDepth 10000
open Go.V
abbrev wkO (s:Nat) (cs:List AV):VObj:=⟨s,136,1,cs⟩
section
variable {pc:Int} {f:Nat→Int} {m:AV} {rd:Int} {so:ByteArray} {st fin:Int} {o cd ok wd:AV} {inp:ByteArray} {ct:AV} {H:List VObj} {nx w sw:Nat} {C:AV→List VObj→Nat→Prop}
theorem wset_v (a v:Int) (ha:0≤a∧a≤15) (hw:H[w]? = some (wkO sw (wkc pc f m rd so st fin o cd ok wd inp ct))) (h1:(wkc pc f m rd so st fin o cd ok wd inp ct).all AV.one=true)
 (hC:∀ r,C r (H.set w (wkO sw (wkc (IntKind.i64.wrap (pc+1)) (updR f a.toNat v) m rd so st fin o cd ok wd inp ct))) nx) :
 VCall Tryz.prog 89 [.ptr w sw 0,I a,U32 v] H nx C:=by
 refine VCall.of_body hmix f_scref10_work_set (by simp) ?_
 have hlt:=(List.getElem?_eq_some_iff.1 hw).1
 have gw:∀ x,(H.set w x)[w]? = some x:=fun x=>by rw[List.getElem?_set,if_pos rfl,if_pos hlt]
 have hj:a.toNat<16:=by omega
 simp only[go_sem,c_scref10_work_set,hw,gw,List.set_set,wkc_length,k_pc,ks_reg hj,ks_pc]
 repeat (refine And.intro (by omega) ?_)
 exact hC _
theorem wjump_v (yes:Bool) (to:Int) (hw:H[w]? = some (wkO sw (wkc pc f m rd so st fin o cd ok wd inp ct)))
 (hC:∀ r,C r (H.set w (wkO sw (wkc (if yes then to else IntKind.i64.wrap (pc+1)) f m rd so st fin o cd ok wd inp ct))) nx) :
 VCall Tryz.prog 91 [.ptr w sw 0,B yes,I to] H nx C:=by
 refine VCall.of_body hmix f_scref10_work_jump (by simp) ?_
 have hlt:=(List.getElem?_eq_some_iff.1 hw).1
 have gw:∀ x,(H.set w x)[w]? = some x:=fun x=>by rw[List.getElem?_set,if_pos rfl,if_pos hlt]
 cases yes
 ·simp only[go_sem,c_scref10_work_jump,hw,wkc_length,k_pc,ks_pc]
  repeat (refine And.intro (by omega) ?_)
  exact hC _
 ·simp only[go_sem,c_scref10_work_jump,hw,wkc_length,ks_pc]
  repeat (refine And.intro (by omega) ?_)
  exact hC _
end
theorem fetchN_c (l:List Int) (b k:Int) (hb:In32 b) (hk:0≤k∧k≤65535) (hl:l.length≤1000000):ContractN Tryz.prog 90 [words l,U32 b,I k]
 (fun r=>r=(if w32 (b+k)<l.length then AV.tup [U32 (l.getD (w32 (b+k)).toNat default),B true] else AV.tup [U32 0,B false])):=by
 refine ContractN.of_call (VCall.of_body hmix f_scref10_fetch (by simp) ?_)
 have e1:IntKind.u32.wrap k=k:=w32_in ⟨by omega,by omega⟩
 obtain ⟨at_,hat⟩:∃ x,IntKind.u32.wrap (b+k)=x:=⟨_,rfl⟩
 have hin:In32 at_:=by rw[← hat,IntKind.wrap_u32];exact ⟨by omega,by omega⟩
 obtain ⟨p1,p2⟩:=hin
 have e2:IntKind.u64.wrap at_=at_:=by rw[IntKind.wrap_u64];omega
 have e3:IntKind.u64.wrap (l.length:Int)=l.length:=by rw[IntKind.wrap_u64];omega
 have hat':w32 (b+k)=at_:=hat
 simp only[hat']
 by_cases h:at_<l.length
 ·simp only[go_sem,c_scref10_fetch,e1,hat,e2,e3,eq_false (show ¬ (l.length:Int)≤at_ by omega),if_pos h]
  repeat (refine And.intro (by omega) ?_)
  exact ⟨_,FrzN.tup ⟨_,_,rfl,FrzN.val,_,_,rfl,FrzN.val,rfl⟩,by simp[]⟩
 ·simp only[go_sem,c_scref10_fetch,e1,hat,e2,e3,eq_true (show (l.length:Int)≤at_ by omega),if_neg h]
  exact ⟨_,FrzN.tup ⟨_,_,rfl,FrzN.val,_,_,rfl,FrzN.val,rfl⟩,by simp[]⟩
set_option maxRecDepth 10000
open Go.V
def insC (w:Int):List AV:=if okW w then [I (opW w),I (raW w),I (rbW w),I (kW w)] else [I 0,I 0,I 0,I 0]
abbrev insL (code:List Int):AV:=.imm 4 ((code.map insC).map .agg)
abbrev okL (code:List Int):AV:=.imm 1 (code.map fun w=>B (okW w))
theorem insC_len (w:Int):(insC w).length=4:=by unfold insC;split<;>rfl
theorem insC_pure (w:Int):(insC w).all AV.pure=true:=by unfold insC;split<;>rfl
theorem insC_one (w:Int):(insC w).all AV.one=true:=by unfold insC;split<;>rfl
theorem flat4_len (ls:List (List AV)) (h:∀ l ∈ ls,l.length=4):ls.flatten.length=ls.length*4:=by
 induction ls with
 | nil=>rfl
 | cons a ls ih=>rw[List.flatten_cons,List.length_append,h a (by simp),ih (fun l hl=>h l (by simp[hl])),List.length_cons];omega
def insP (code:List Int) (k:Nat):List (List AV):=(code.take k).map insC++List.replicate (code.length-k) [I 0,I 0,I 0,I 0]
theorem insP_len (code:List Int) {k:Nat} (h:k≤code.length):(insP code k).length=code.length:=by simp[insP];omega
theorem insP_4 (code:List Int) (k:Nat):∀ l ∈ insP code k,l.length=4:=fun l hl=>by
 unfold insP at hl
 rcases List.mem_append.1 hl with hl | hl
 ·obtain ⟨w,_,rfl⟩:=List.mem_map.1 hl;exact insC_len w
 ·rw[List.mem_replicate]at hl;rw[hl.2];rfl
theorem insP_next (code:List Int) {k:Nat} (h:k<code.length):(insP code k).flatten.take (k*4)++insC (code.getD k default)++(insP code k).flatten.drop (k*4+4)=(insP code (k+1)).flatten:=by
 have e1:((code.take k).map insC).flatten.length=k*4:=by
  rw[flat4_len _ (fun l hl=>by obtain ⟨w,_,rfl⟩:=List.mem_map.1 hl;exact insC_len w)];simp;omega
 have e2:code.length-k=(code.length-(k+1))+1:=by omega
 unfold insP
 rw[List.flatten_append,List.take_append_of_le_length (by omega),List.take_of_length_le (by omega),e2,List.replicate_succ,List.flatten_cons]
 rw[show k*4+4=((code.take k).map insC).flatten.length+4 by rw[e1],← List.drop_drop,List.drop_left]
 rw[List.take_add_one,List.getElem?_eq_getElem h,List.getD_eq_getElem?_getD,List.getElem?_eq_getElem h]
 simp only[Option.getD_some,Option.toList_some,List.map_append,List.map_cons,List.map_nil,List.flatten_append,List.flatten_cons,List.flatten_nil,List.append_nil,List.append_assoc]
 rfl
def okPR (code:List Int) (k:Nat):List AV:=(code.take k).map (fun w=>B (okW w))++List.replicate (code.length-k) (B false)
theorem okP_len (code:List Int) {k:Nat} (h:k≤code.length):(okPR code k).length=code.length:=by simp[okPR];omega
theorem okP_next (code:List Int) {k:Nat} (h:k<code.length):(okPR code k).set k (B (okW (code.getD k default)))=okPR code (k+1):=by
 have e2:code.length-k=(code.length-(k+1))+1:=by omega
 have e1:((code.take k).map (fun w=>B (okW w))).length=k:=by simp;omega
 unfold okPR
 rw[e2,List.replicate_succ,List.set_append_right _ _ (by omega),e1,Nat.sub_self,List.set_cons_zero,List.take_add_one,List.getElem?_eq_getElem h,List.getD_eq_getElem?_getD,List.getElem?_eq_getElem h]
 simp only[Option.getD_some,Option.toList_some,List.map_append,List.map_cons,List.map_nil,List.append_assoc,List.cons_append,List.nil_append]
theorem refcode_c (code:List Int) (data:Int) (hcode:∀ x ∈ code,In32 x) (hcl:code.length≤1000000):Contract Tryz.prog 83 [imgA code data] (fun r=>r = .tup [insL code,okL code]):=by
 refine Contract.of_call (VCall.of_body hmix f_scref10_Code (by simp) ?_)
 have hr1:(List.replicate code.length [I 0,I 0,I 0,I 0]).flatten=(insP code 0).flatten:=by simp[insP]
 have hr2:(List.replicate code.length [B false]).flatten=okPR code 0:=by
  unfold okPR;simp
 have hi0:=flat4_len _ (insP_4 code 0)
 simp only[go_sem,c_scref10_Code,hr1,hr2]
 repeat (refine And.intro (by omega) ?_)
 refine VW_loop (fun q:Nat × List VObj × Nat=>⟨[(1,.ptr 0 0 0),(4,.ref 1 1 0 code.length),(5,.ref 2 2 0 code.length),(6,I q.1)],⟨0,29,1,[words code,I data]⟩::⟨1,55,4,(insP code q.1).flatten⟩::⟨2,4,1,okPR code q.1⟩::q.2.1,q.2.2⟩)
  (fun q=>q.1≤code.length) (fun q=>code.length-q.1) (0,[],3) (Wk.mk (by simp[get_cons]) ⟨[],rfl⟩ (Nat.le_refl _)) (Nat.zero_le _) ?_
 rintro ⟨k,J,nx⟩ hk
 simp only at hk
 by_cases c1:(k:Int)<code.length
 ·have hlt:k<code.length:=by omega
  obtain ⟨w,hw⟩:∃ w,code.getD k default=w:=⟨_,rfl⟩
  have hwi:In32 w:=by
   rw[← hw,List.getD_eq_getElem?_getD,List.getElem?_eq_getElem hlt]
   exact hcode _ (List.getElem_mem _)
  have n1:=insP_next code hlt
  have n2:=okP_next code hlt
  rw[hw]at n1 n2
  have l1:=flat4_len _ (insP_4 code k)
  rw[insP_len code hk]at l1
  have l2:=okP_len code hk
  simp only[go_sem,eq_true c1,hw]
  repeat (refine And.intro (by omega) ?_)
  refine VCall.of_contract (refdecode_c w hwi) (SleL.pure rfl) fun x hx=>?_
  subst hx
  unfold decA
  cases hok:okW w
  ·have e4:insC w=[I 0,I 0,I 0,I 0]:=by unfold insC;rw[hok];rfl
   rw[e4]at n1
   rw[hok]at n2
   simp only[go_sem,ogn,osn,l1,l2,n1,n2,Int.reduceBEq]
   repeat (refine And.intro (by omega) ?_)
   rw[i64_in (by omega) (by omega)]
   exact ⟨(k+1,_,_),by simp only;omega,by simp only;omega,Wk.mk (by simp[get_cons]) ⟨[],(List.append_nil _).symm⟩ (Nat.le_refl _)⟩
  ·have e4:insC w=[I (opW w),I (raW w),I (rbW w),I (kW w)]:=by unfold insC;rw[hok];rfl
   rw[e4]at n1
   rw[hok]at n2
   simp only[go_sem,ogn,osn,l1,l2,n1,n2,Int.reduceBEq]
   repeat (refine And.intro (by omega) ?_)
   rw[i64_in (by omega) (by omega)]
   exact ⟨(k+1,_,_),by simp only;omega,by simp only;omega,Wk.mk (by simp[get_cons]) ⟨[],(List.append_nil _).symm⟩ (Nat.le_refl _)⟩
 ·have e:k=code.length:=by omega
  subst e
  have hi:insP code code.length=code.map insC:=by simp[insP]
  have ho:okPR code code.length=code.map fun w=>B (okW w):=by simp[okPR]
  simp only[go_sem,eq_false c1,hi,ho]
  refine ⟨_,Frz.tup ⟨_,_,rfl,Frz.refS (Nat.zero_le _) rfl rfl rfl rfl (fun l hl=>?_) (by simp),_,_,rfl,Frz.ref (Nat.zero_le _) rfl rfl rfl ?_ (FrzL.pure ?_),rfl⟩,?_⟩
  ·obtain ⟨w,_,rfl⟩:=List.mem_map.1 hl
   exact ⟨insC_len w,insC_pure w⟩
  ·rw[List.all_eq_true];intro y hy;obtain ⟨x,_,rfl⟩:=List.mem_map.1 hy;rfl
  ·rw[List.drop_zero,List.take_of_length_le (by simp),List.all_eq_true];intro y hy;obtain ⟨x,_,rfl⟩:=List.mem_map.1 hy;rfl
  ·rw[List.drop_zero,List.take_of_length_le (by simp)]
def r_scref10_work_step:VC :=
 (.seq
 (.seq
 (.ops [
 ⟨(some 11),none,(.mv (.tmp 0))⟩,
 ⟨(some 12),none,(.nck (.tmp 11))⟩,
 ⟨(some 13),none,(.fad 0 true 22 (.tmp 12))⟩,
 ⟨(some 14),none,(.fad 0 false 1 (.tmp 13))⟩,
 ⟨(some 15),none,(.ld false 1 (.tmp 14))⟩,
 ⟨(some 16),none,(.bin .lss (.tmp 15) (.const (.int .i64 0)))⟩,
 ⟨(some 17),none,(.mv (.tmp 16))⟩,
 ⟨(some 18),(some (17,false)),(.mv (.tmp 0))⟩,
 ⟨(some 19),(some (17,false)),(.nck (.tmp 18))⟩,
 ⟨(some 20),(some (17,false)),(.fad 0 true 22 (.tmp 19))⟩,
 ⟨(some 21),(some (17,false)),(.fad 0 false 1 (.tmp 20))⟩,
 ⟨(some 22),(some (17,false)),(.ld false 1 (.tmp 21))⟩,
 ⟨(some 23),(some (17,false)),(.mv (.tmp 0))⟩,
 ⟨(some 24),(some (17,false)),(.nck (.tmp 23))⟩,
 ⟨(some 25),(some (17,false)),(.fad 23 false 1 (.tmp 24))⟩,
 ⟨(some 26),(some (17,false)),(.ld false 1 (.tmp 25))⟩,
 ⟨(some 27),(some (17,false)),(.len (.tmp 26))⟩,
 ⟨(some 28),(some (17,false)),(.bin .geq (.tmp 22) (.tmp 27))⟩,
 ⟨(some 29),none,(.pick (.tmp 17) (.const (.bool true)) (.tmp 28))⟩])
 (.cond (.tmp 29)
 (.seq
 (.ops [
 ⟨(some 30),none,(.mv (.tmp 0))⟩,
 ⟨(some 31),none,(.nck (.tmp 30))⟩,
 ⟨(some 32),none,(.fad 0 true 22 (.tmp 31))⟩,
 ⟨(some 33),none,(.fad 21 false 1 (.tmp 32))⟩,
 ⟨none,none,(.sto false 1 (.tmp 33) (.const (.int .i64 7)))⟩])
 .ret)
 .skip))
 (.seq
 (.ops [
 ⟨(some 34),none,(.mv (.tmp 0))⟩,
 ⟨(some 35),none,(.nck (.tmp 34))⟩,
 ⟨(some 36),none,(.fad 0 true 22 (.tmp 35))⟩,
 ⟨(some 37),none,(.fad 20 false 1 (.tmp 36))⟩,
 ⟨(some 38),none,(.ld false 1 (.tmp 37))⟩,
 ⟨(some 39),none,(.bin .add (.tmp 38) (.const (.int .i64 1)))⟩,
 ⟨(some 40),none,(.nck (.tmp 34))⟩,
 ⟨(some 41),none,(.fad 0 true 22 (.tmp 40))⟩,
 ⟨(some 42),none,(.fad 20 false 1 (.tmp 41))⟩,
 ⟨none,none,(.sto false 1 (.tmp 42) (.tmp 39))⟩])
 (.seq
 (.ops [
 ⟨(some 43),none,(.mv (.tmp 0))⟩,
 ⟨(some 44),none,(.nck (.tmp 43))⟩,
 ⟨(some 45),none,(.fad 27 false 1 (.tmp 44))⟩,
 ⟨(some 46),none,(.ld false 1 (.tmp 45))⟩,
 ⟨(some 47),none,(.mv (.tmp 0))⟩,
 ⟨(some 48),none,(.nck (.tmp 47))⟩,
 ⟨(some 49),none,(.fad 0 true 22 (.tmp 48))⟩,
 ⟨(some 50),none,(.fad 0 false 1 (.tmp 49))⟩,
 ⟨(some 51),none,(.ld false 1 (.tmp 50))⟩,
 ⟨(some 52),none,(.idx 1 (.tmp 46) (.tmp 51))⟩,
 ⟨(some 53),none,(.ld false 1 (.tmp 52))⟩,
 ⟨(some 54),none,(.bin .add (.tmp 53) (.const (.int .i64 1)))⟩,
 ⟨(some 55),none,(.idx 1 (.tmp 46) (.tmp 51))⟩,
 ⟨none,none,(.sto false 1 (.tmp 55) (.tmp 54))⟩])
 (.seq
 (.par true (.one ⟨(some 56),none,(.mv (.tmp 0))⟩ (.one ⟨(some 57),none,(.nck (.tmp 56))⟩ (.one ⟨(some 58),none,(.fad 23 false 1 (.tmp 57))⟩ (.one ⟨(some 59),none,(.ld false 1 (.tmp 58))⟩ (.one ⟨(some 60),none,(.mv (.tmp 0))⟩ (.one ⟨(some 61),none,(.nck (.tmp 60))⟩ (.one ⟨(some 62),none,(.fad 0 true 22 (.tmp 61))⟩ (.one ⟨(some 63),none,(.fad 0 false 1 (.tmp 62))⟩ (.one ⟨(some 64),none,(.ld false 1 (.tmp 63))⟩ (.one ⟨(some 65),none,(.idx 4 (.tmp 59) (.tmp 64))⟩ (.one ⟨(some 66),none,(.ld true 4 (.tmp 65))⟩ (.one ⟨(some 2),none,(.alc 55 [(.int .i64 0),(.int .i64 0),(.int .i64 0),(.int .i64 0)])⟩ (.one ⟨none,none,(.sto true 4 (.tmp 2) (.tmp 66))⟩ .done))))))))))))))
 (.seq
 (.seq
 (.ops [
 ⟨(some 67),none,(.mv (.tmp 0))⟩,
 ⟨(some 68),none,(.nck (.tmp 67))⟩,
 ⟨(some 69),none,(.fad 24 false 1 (.tmp 68))⟩,
 ⟨(some 70),none,(.ld false 1 (.tmp 69))⟩,
 ⟨(some 71),none,(.mv (.tmp 0))⟩,
 ⟨(some 72),none,(.nck (.tmp 71))⟩,
 ⟨(some 73),none,(.fad 0 true 22 (.tmp 72))⟩,
 ⟨(some 74),none,(.fad 0 false 1 (.tmp 73))⟩,
 ⟨(some 75),none,(.ld false 1 (.tmp 74))⟩,
 ⟨(some 76),none,(.idx 1 (.tmp 70) (.tmp 75))⟩,
 ⟨(some 77),none,(.ld false 1 (.tmp 76))⟩,
 ⟨(some 78),none,(.un .not (.tmp 77))⟩])
 (.cond (.tmp 78)
 (.seq
 (.ops [
 ⟨(some 79),none,(.mv (.tmp 0))⟩,
 ⟨(some 80),none,(.nck (.tmp 79))⟩,
 ⟨(some 81),none,(.fad 0 true 22 (.tmp 80))⟩,
 ⟨(some 82),none,(.fad 21 false 1 (.tmp 81))⟩,
 ⟨none,none,(.sto false 1 (.tmp 82) (.const (.int .i64 6)))⟩])
 .ret)
 .skip))
 (.seq
 (.ops [
 ⟨(some 83),none,(.mv (.tmp 0))⟩,
 ⟨(some 84),none,(.fad 1 false 1 (.tmp 2))⟩,
 ⟨(some 85),none,(.ld false 1 (.tmp 84))⟩,
 ⟨(some 86),none,(.nck (.tmp 83))⟩,
 ⟨(some 87),none,(.fad 0 true 22 (.tmp 86))⟩,
 ⟨(some 88),none,(.fad 1 true 16 (.tmp 87))⟩,
 ⟨(some 89),none,(.aidx 16 false 1 (.tmp 88) (.tmp 85))⟩,
 ⟨(some 90),none,(.ld false 1 (.tmp 89))⟩,
 ⟨(some 3),none,(.mv (.tmp 90))⟩])
 (.seq
 (.ops [
 ⟨(some 91),none,(.fad 0 false 1 (.tmp 2))⟩,
 ⟨(some 92),none,(.ld false 1 (.tmp 91))⟩])
 (.block 0
 (.seq
 (.ops [
 ⟨(some 127),none,(.bin .eql (.tmp 92) (.const (.int .i64 1)))⟩,
 ⟨(some 126),none,(.mv (.tmp 127))⟩])
 (.cond (.tmp 126)
 (.ops [
 ⟨(some 128),none,(.mv (.tmp 0))⟩,
 ⟨(some 129),none,(.fad 1 false 1 (.tmp 2))⟩,
 ⟨(some 130),none,(.ld false 1 (.tmp 129))⟩,
 ⟨(some 131),none,(.fad 3 false 1 (.tmp 2))⟩,
 ⟨(some 132),none,(.ld false 1 (.tmp 131))⟩,
 ⟨(some 133),none,(.conv .u32 (.tmp 132))⟩,
 ⟨(some 134),none,(.call (.func 89) [(.tmp 128),(.tmp 130),(.tmp 133)])⟩])
 (.seq
 (.ops [
 ⟨(some 136),none,(.bin .eql (.tmp 92) (.const (.int .i64 2)))⟩,
 ⟨(some 135),none,(.mv (.tmp 136))⟩])
 (.cond (.tmp 135)
 (.ops [
 ⟨(some 137),none,(.mv (.tmp 0))⟩,
 ⟨(some 138),none,(.fad 1 false 1 (.tmp 2))⟩,
 ⟨(some 139),none,(.ld false 1 (.tmp 138))⟩,
 ⟨(some 140),none,(.mv (.tmp 3))⟩,
 ⟨(some 141),none,(.bin .rem (.tmp 140) (.const (.int .u32 65536)))⟩,
 ⟨(some 142),none,(.fad 3 false 1 (.tmp 2))⟩,
 ⟨(some 143),none,(.ld false 1 (.tmp 142))⟩,
 ⟨(some 144),none,(.conv .u32 (.tmp 143))⟩,
 ⟨(some 145),none,(.bin .mul (.tmp 144) (.const (.int .u32 65536)))⟩,
 ⟨(some 146),none,(.bin .add (.tmp 141) (.tmp 145))⟩,
 ⟨(some 147),none,(.call (.func 89) [(.tmp 137),(.tmp 139),(.tmp 146)])⟩])
 (.seq
 (.ops [
 ⟨(some 149),none,(.bin .eql (.tmp 92) (.const (.int .i64 3)))⟩,
 ⟨(some 148),none,(.mv (.tmp 149))⟩])
 (.cond (.tmp 148)
 (.ops [
 ⟨(some 150),none,(.mv (.tmp 0))⟩,
 ⟨(some 151),none,(.fad 1 false 1 (.tmp 2))⟩,
 ⟨(some 152),none,(.ld false 1 (.tmp 151))⟩,
 ⟨(some 153),none,(.mv (.tmp 0))⟩,
 ⟨(some 154),none,(.fad 2 false 1 (.tmp 2))⟩,
 ⟨(some 155),none,(.ld false 1 (.tmp 154))⟩,
 ⟨(some 156),none,(.nck (.tmp 153))⟩,
 ⟨(some 157),none,(.fad 0 true 22 (.tmp 156))⟩,
 ⟨(some 158),none,(.fad 1 true 16 (.tmp 157))⟩,
 ⟨(some 159),none,(.aidx 16 false 1 (.tmp 158) (.tmp 155))⟩,
 ⟨(some 160),none,(.ld false 1 (.tmp 159))⟩,
 ⟨(some 161),none,(.call (.func 89) [(.tmp 150),(.tmp 152),(.tmp 160)])⟩])
 (.seq
 (.seq
 (.ops [
 ⟨(some 163),none,(.bin .eql (.tmp 92) (.const (.int .i64 16)))⟩,
 ⟨(some 162),none,(.mv (.tmp 163))⟩])
 (.cond (.tmp 162)
 .skip
 (.ops [
 ⟨(some 164),none,(.bin .eql (.tmp 92) (.const (.int .i64 27)))⟩,
 ⟨(some 162),none,(.mv (.tmp 164))⟩])))
 (.cond (.tmp 162)
 (.seq
 (.ops [
 ⟨(some 165),none,(.mv (.tmp 0))⟩,
 ⟨(some 166),none,(.nck (.tmp 165))⟩,
 ⟨(some 167),none,(.fad 0 true 22 (.tmp 166))⟩,
 ⟨(some 168),none,(.fad 17 false 1 (.tmp 167))⟩,
 ⟨(some 169),none,(.ld false 1 (.tmp 168))⟩,
 ⟨(some 4),none,(.mv (.tmp 169))⟩])
 (.seq
 (.seq
 (.ops [
 ⟨(some 170),none,(.fad 0 false 1 (.tmp 2))⟩,
 ⟨(some 171),none,(.ld false 1 (.tmp 170))⟩,
 ⟨(some 172),none,(.bin .eql (.tmp 171) (.const (.int .i64 27)))⟩])
 (.cond (.tmp 172)
 (.ops [
 ⟨(some 173),none,(.mv (.tmp 0))⟩,
 ⟨(some 174),none,(.nck (.tmp 173))⟩,
 ⟨(some 175),none,(.fad 25 false 1 (.tmp 174))⟩,
 ⟨(some 176),none,(.ld false 1 (.tmp 175))⟩,
 ⟨(some 4),none,(.mv (.tmp 176))⟩])
 .skip))
 (.seq
 (.par true (.one ⟨(some 178),none,(.mv (.tmp 4))⟩ (.one ⟨(some 179),none,(.mv (.tmp 0))⟩ (.one ⟨(some 180),none,(.fad 2 false 1 (.tmp 2))⟩ (.one ⟨(some 181),none,(.ld false 1 (.tmp 180))⟩ (.one ⟨(some 182),none,(.nck (.tmp 179))⟩ (.one ⟨(some 183),none,(.fad 0 true 22 (.tmp 182))⟩ (.one ⟨(some 184),none,(.fad 1 true 16 (.tmp 183))⟩ (.one ⟨(some 185),none,(.aidx 16 false 1 (.tmp 184) (.tmp 181))⟩ (.one ⟨(some 186),none,(.ld false 1 (.tmp 185))⟩ (.one ⟨(some 187),none,(.fad 3 false 1 (.tmp 2))⟩ (.one ⟨(some 188),none,(.ld false 1 (.tmp 187))⟩ (.one ⟨(some 189),none,(.call (.func 90) [(.tmp 178),(.tmp 186),(.tmp 188)])⟩ (.one ⟨(some 177),none,(.mv (.tmp 189))⟩ (.one ⟨(some 190),none,(.ext (.tmp 177) 0)⟩ (.one ⟨(some 191),none,(.ext (.tmp 177) 1)⟩ (.one ⟨(some 5),none,(.mv (.tmp 190))⟩ (.one ⟨(some 6),none,(.mv (.tmp 191))⟩ .done))))))))))))))))))
 (.seq
 (.seq
 (.ops [
 ⟨(some 192),none,(.mv (.tmp 6))⟩,
 ⟨(some 193),none,(.un .not (.tmp 192))⟩])
 (.cond (.tmp 193)
 (.seq
 (.ops [
 ⟨(some 194),none,(.mv (.tmp 0))⟩,
 ⟨(some 195),none,(.nck (.tmp 194))⟩,
 ⟨(some 196),none,(.fad 0 true 22 (.tmp 195))⟩,
 ⟨(some 197),none,(.fad 21 false 1 (.tmp 196))⟩,
 ⟨none,none,(.sto false 1 (.tmp 197) (.const (.int .i64 8)))⟩])
 .ret)
 .skip))
 (.ops [
 ⟨(some 198),none,(.mv (.tmp 0))⟩,
 ⟨(some 199),none,(.fad 1 false 1 (.tmp 2))⟩,
 ⟨(some 200),none,(.ld false 1 (.tmp 199))⟩,
 ⟨(some 201),none,(.mv (.tmp 5))⟩,
 ⟨(some 202),none,(.call (.func 89) [(.tmp 198),(.tmp 200),(.tmp 201)])⟩])))))
 (.seq
 (.ops [
 ⟨(some 204),none,(.bin .eql (.tmp 92) (.const (.int .i64 17)))⟩,
 ⟨(some 203),none,(.mv (.tmp 204))⟩])
 (.cond (.tmp 203)
 (.seq
 (.ops [
 ⟨(some 205),none,(.mv (.tmp 0))⟩,
 ⟨(some 206),none,(.fad 2 false 1 (.tmp 2))⟩,
 ⟨(some 207),none,(.ld false 1 (.tmp 206))⟩,
 ⟨(some 208),none,(.nck (.tmp 205))⟩,
 ⟨(some 209),none,(.fad 0 true 22 (.tmp 208))⟩,
 ⟨(some 210),none,(.fad 1 true 16 (.tmp 209))⟩,
 ⟨(some 211),none,(.aidx 16 false 1 (.tmp 210) (.tmp 207))⟩,
 ⟨(some 212),none,(.ld false 1 (.tmp 211))⟩,
 ⟨(some 213),none,(.fad 3 false 1 (.tmp 2))⟩,
 ⟨(some 214),none,(.ld false 1 (.tmp 213))⟩,
 ⟨(some 215),none,(.conv .u32 (.tmp 214))⟩,
 ⟨(some 216),none,(.bin .add (.tmp 212) (.tmp 215))⟩,
 ⟨(some 7),none,(.mv (.tmp 216))⟩])
 (.seq
 (.seq
 (.ops [
 ⟨(some 217),none,(.mv (.tmp 7))⟩,
 ⟨(some 218),none,(.conv .u64 (.tmp 217))⟩,
 ⟨(some 219),none,(.mv (.tmp 0))⟩,
 ⟨(some 220),none,(.nck (.tmp 219))⟩,
 ⟨(some 221),none,(.fad 0 true 22 (.tmp 220))⟩,
 ⟨(some 222),none,(.fad 17 false 1 (.tmp 221))⟩,
 ⟨(some 223),none,(.ld false 1 (.tmp 222))⟩,
 ⟨(some 224),none,(.len (.tmp 223))⟩,
 ⟨(some 225),none,(.conv .u64 (.tmp 224))⟩,
 ⟨(some 226),none,(.bin .geq (.tmp 218) (.tmp 225))⟩])
 (.cond (.tmp 226)
 (.seq
 (.ops [
 ⟨(some 227),none,(.mv (.tmp 0))⟩,
 ⟨(some 228),none,(.nck (.tmp 227))⟩,
 ⟨(some 229),none,(.fad 0 true 22 (.tmp 228))⟩,
 ⟨(some 230),none,(.fad 21 false 1 (.tmp 229))⟩,
 ⟨none,none,(.sto false 1 (.tmp 230) (.const (.int .i64 8)))⟩])
 .ret)
 .skip))
 (.seq
 (.ops [
 ⟨(some 231),none,(.mv (.tmp 0))⟩,
 ⟨(some 232),none,(.nck (.tmp 231))⟩,
 ⟨(some 233),none,(.fad 0 true 22 (.tmp 232))⟩,
 ⟨(some 234),none,(.fad 17 false 1 (.tmp 233))⟩,
 ⟨(some 235),none,(.ld false 1 (.tmp 234))⟩,
 ⟨(some 236),none,(.mv (.tmp 7))⟩,
 ⟨(some 237),none,(.mv (.tmp 3))⟩,
 ⟨(some 238),none,(.idx 1 (.tmp 235) (.tmp 236))⟩,
 ⟨none,none,(.sto false 1 (.tmp 238) (.tmp 237))⟩])
 (.ops [
 ⟨(some 239),none,(.mv (.tmp 0))⟩,
 ⟨(some 240),none,(.nck (.tmp 239))⟩,
 ⟨(some 241),none,(.fad 0 true 22 (.tmp 240))⟩,
 ⟨(some 242),none,(.fad 0 false 1 (.tmp 241))⟩,
 ⟨(some 243),none,(.ld false 1 (.tmp 242))⟩,
 ⟨(some 244),none,(.bin .add (.tmp 243) (.const (.int .i64 1)))⟩,
 ⟨(some 245),none,(.nck (.tmp 239))⟩,
 ⟨(some 246),none,(.fad 0 true 22 (.tmp 245))⟩,
 ⟨(some 247),none,(.fad 0 false 1 (.tmp 246))⟩,
 ⟨none,none,(.sto false 1 (.tmp 247) (.tmp 244))⟩]))))
 (.seq
 (.ops [
 ⟨(some 249),none,(.bin .eql (.tmp 92) (.const (.int .i64 18)))⟩,
 ⟨(some 248),none,(.mv (.tmp 249))⟩])
 (.cond (.tmp 248)
 (.ops [
 ⟨(some 250),none,(.mv (.tmp 0))⟩,
 ⟨(some 251),none,(.fad 3 false 1 (.tmp 2))⟩,
 ⟨(some 252),none,(.ld false 1 (.tmp 251))⟩,
 ⟨(some 253),none,(.nck (.tmp 250))⟩,
 ⟨(some 254),none,(.fad 0 true 22 (.tmp 253))⟩,
 ⟨(some 255),none,(.fad 0 false 1 (.tmp 254))⟩,
 ⟨none,none,(.sto false 1 (.tmp 255) (.tmp 252))⟩])
 (.seq
 (.ops [
 ⟨(some 257),none,(.bin .eql (.tmp 92) (.const (.int .i64 19)))⟩,
 ⟨(some 256),none,(.mv (.tmp 257))⟩])
 (.cond (.tmp 256)
 (.ops [
 ⟨(some 258),none,(.mv (.tmp 0))⟩,
 ⟨(some 259),none,(.mv (.tmp 3))⟩,
 ⟨(some 260),none,(.bin .eql (.tmp 259) (.const (.int .u32 0)))⟩,
 ⟨(some 261),none,(.fad 3 false 1 (.tmp 2))⟩,
 ⟨(some 262),none,(.ld false 1 (.tmp 261))⟩,
 ⟨(some 263),none,(.call (.func 91) [(.tmp 258),(.tmp 260),(.tmp 262)])⟩])
 (.seq
 (.ops [
 ⟨(some 265),none,(.bin .eql (.tmp 92) (.const (.int .i64 20)))⟩,
 ⟨(some 264),none,(.mv (.tmp 265))⟩])
 (.cond (.tmp 264)
 (.ops [
 ⟨(some 266),none,(.mv (.tmp 0))⟩,
 ⟨(some 267),none,(.mv (.tmp 3))⟩,
 ⟨(some 268),none,(.bin .neq (.tmp 267) (.const (.int .u32 0)))⟩,
 ⟨(some 269),none,(.fad 3 false 1 (.tmp 2))⟩,
 ⟨(some 270),none,(.ld false 1 (.tmp 269))⟩,
 ⟨(some 271),none,(.call (.func 91) [(.tmp 266),(.tmp 268),(.tmp 270)])⟩])
 (.seq
 (.ops [
 ⟨(some 273),none,(.bin .eql (.tmp 92) (.const (.int .i64 21)))⟩,
 ⟨(some 272),none,(.mv (.tmp 273))⟩])
 (.cond (.tmp 272)
 (.seq
 (.ops [
 ⟨(some 274),none,(.mv (.tmp 0))⟩,
 ⟨(some 275),none,(.fad 1 false 1 (.tmp 2))⟩,
 ⟨(some 276),none,(.ld false 1 (.tmp 275))⟩,
 ⟨(some 277),none,(.mv (.tmp 0))⟩,
 ⟨(some 278),none,(.nck (.tmp 277))⟩,
 ⟨(some 279),none,(.fad 0 true 22 (.tmp 278))⟩,
 ⟨(some 280),none,(.fad 0 false 1 (.tmp 279))⟩,
 ⟨(some 281),none,(.ld false 1 (.tmp 280))⟩,
 ⟨(some 282),none,(.conv .u32 (.tmp 281))⟩,
 ⟨(some 283),none,(.bin .add (.tmp 282) (.const (.int .u32 1)))⟩,
 ⟨(some 284),none,(.nck (.tmp 274))⟩,
 ⟨(some 285),none,(.fad 0 true 22 (.tmp 284))⟩,
 ⟨(some 286),none,(.fad 1 true 16 (.tmp 285))⟩,
 ⟨(some 287),none,(.aidx 16 false 1 (.tmp 286) (.tmp 276))⟩,
 ⟨none,none,(.sto false 1 (.tmp 287) (.tmp 283))⟩])
 (.ops [
 ⟨(some 288),none,(.mv (.tmp 0))⟩,
 ⟨(some 289),none,(.fad 3 false 1 (.tmp 2))⟩,
 ⟨(some 290),none,(.ld false 1 (.tmp 289))⟩,
 ⟨(some 291),none,(.nck (.tmp 288))⟩,
 ⟨(some 292),none,(.fad 0 true 22 (.tmp 291))⟩,
 ⟨(some 293),none,(.fad 0 false 1 (.tmp 292))⟩,
 ⟨none,none,(.sto false 1 (.tmp 293) (.tmp 290))⟩]))
 (.seq
 (.ops [
 ⟨(some 295),none,(.bin .eql (.tmp 92) (.const (.int .i64 22)))⟩,
 ⟨(some 294),none,(.mv (.tmp 295))⟩])
 (.cond (.tmp 294)
 (.ops [
 ⟨(some 296),none,(.mv (.tmp 0))⟩,
 ⟨(some 297),none,(.mv (.tmp 3))⟩,
 ⟨(some 298),none,(.conv .i64 (.tmp 297))⟩,
 ⟨(some 299),none,(.nck (.tmp 296))⟩,
 ⟨(some 300),none,(.fad 0 true 22 (.tmp 299))⟩,
 ⟨(some 301),none,(.fad 0 false 1 (.tmp 300))⟩,
 ⟨none,none,(.sto false 1 (.tmp 301) (.tmp 298))⟩])
 (.seq
 (.ops [
 ⟨(some 303),none,(.bin .eql (.tmp 92) (.const (.int .i64 23)))⟩,
 ⟨(some 302),none,(.mv (.tmp 303))⟩])
 (.cond (.tmp 302)
 (.seq
 (.seq
 (.ops [
 ⟨(some 304),none,(.mv (.tmp 0))⟩,
 ⟨(some 305),none,(.nck (.tmp 304))⟩,
 ⟨(some 306),none,(.fad 0 true 22 (.tmp 305))⟩,
 ⟨(some 307),none,(.fad 18 false 1 (.tmp 306))⟩,
 ⟨(some 308),none,(.ld false 1 (.tmp 307))⟩,
 ⟨(some 309),none,(.bin .lss (.tmp 308) (.const (.int .i64 0)))⟩,
 ⟨(some 310),none,(.mv (.tmp 309))⟩,
 ⟨(some 311),(some (310,false)),(.mv (.tmp 0))⟩,
 ⟨(some 312),(some (310,false)),(.nck (.tmp 311))⟩,
 ⟨(some 313),(some (310,false)),(.fad 0 true 22 (.tmp 312))⟩,
 ⟨(some 314),(some (310,false)),(.fad 18 false 1 (.tmp 313))⟩,
 ⟨(some 315),(some (310,false)),(.ld false 1 (.tmp 314))⟩,
 ⟨(some 316),(some (310,false)),(.mv (.tmp 0))⟩,
 ⟨(some 317),(some (310,false)),(.nck (.tmp 316))⟩,
 ⟨(some 318),(some (310,false)),(.fad 26 false 1 (.tmp 317))⟩,
 ⟨(some 319),(some (310,false)),(.ld false 1 (.tmp 318))⟩,
 ⟨(some 320),(some (310,false)),(.lens (.tmp 319))⟩,
 ⟨(some 321),(some (310,false)),(.bin .geq (.tmp 315) (.tmp 320))⟩,
 ⟨(some 322),none,(.pick (.tmp 310) (.const (.bool true)) (.tmp 321))⟩])
 (.cond (.tmp 322)
 (.seq
 (.ops [
 ⟨(some 323),none,(.mv (.tmp 0))⟩,
 ⟨(some 324),none,(.fad 1 false 1 (.tmp 2))⟩,
 ⟨(some 325),none,(.ld false 1 (.tmp 324))⟩,
 ⟨(some 326),none,(.call (.func 89) [(.tmp 323),(.tmp 325),(.const (.int .u32 256))])⟩])
 .ret)
 .skip))
 (.seq
 (.ops [
 ⟨(some 327),none,(.mv (.tmp 0))⟩,
 ⟨(some 328),none,(.nck (.tmp 327))⟩,
 ⟨(some 329),none,(.fad 26 false 1 (.tmp 328))⟩,
 ⟨(some 330),none,(.ld false 1 (.tmp 329))⟩,
 ⟨(some 331),none,(.mv (.tmp 0))⟩,
 ⟨(some 332),none,(.nck (.tmp 331))⟩,
 ⟨(some 333),none,(.fad 0 true 22 (.tmp 332))⟩,
 ⟨(some 334),none,(.fad 18 false 1 (.tmp 333))⟩,
 ⟨(some 335),none,(.ld false 1 (.tmp 334))⟩,
 ⟨(some 336),none,(.pur .six [(.tmp 330),(.tmp 335)])⟩,
 ⟨(some 337),none,(.conv .u32 (.tmp 336))⟩,
 ⟨(some 8),none,(.mv (.tmp 337))⟩])
 (.seq
 (.ops [
 ⟨(some 338),none,(.mv (.tmp 0))⟩,
 ⟨(some 339),none,(.nck (.tmp 338))⟩,
 ⟨(some 340),none,(.fad 0 true 22 (.tmp 339))⟩,
 ⟨(some 341),none,(.fad 18 false 1 (.tmp 340))⟩,
 ⟨(some 342),none,(.ld false 1 (.tmp 341))⟩,
 ⟨(some 343),none,(.bin .add (.tmp 342) (.const (.int .i64 1)))⟩,
 ⟨(some 344),none,(.nck (.tmp 338))⟩,
 ⟨(some 345),none,(.fad 0 true 22 (.tmp 344))⟩,
 ⟨(some 346),none,(.fad 18 false 1 (.tmp 345))⟩,
 ⟨none,none,(.sto false 1 (.tmp 346) (.tmp 343))⟩])
 (.ops [
 ⟨(some 347),none,(.mv (.tmp 0))⟩,
 ⟨(some 348),none,(.fad 1 false 1 (.tmp 2))⟩,
 ⟨(some 349),none,(.ld false 1 (.tmp 348))⟩,
 ⟨(some 350),none,(.mv (.tmp 8))⟩,
 ⟨(some 351),none,(.call (.func 89) [(.tmp 347),(.tmp 349),(.tmp 350)])⟩]))))
 (.seq
 (.ops [
 ⟨(some 353),none,(.bin .eql (.tmp 92) (.const (.int .i64 24)))⟩,
 ⟨(some 352),none,(.mv (.tmp 353))⟩])
 (.cond (.tmp 352)
 (.seq
 (.seq
 (.ops [
 ⟨(some 354),none,(.mv (.tmp 0))⟩,
 ⟨(some 355),none,(.nck (.tmp 354))⟩,
 ⟨(some 356),none,(.fad 22 false 1 (.tmp 355))⟩,
 ⟨(some 357),none,(.ld false 1 (.tmp 356))⟩,
 ⟨(some 358),none,(.len (.tmp 357))⟩,
 ⟨(some 359),none,(.bin .geq (.tmp 358) (.const (.int .i64 65536)))⟩])
 (.cond (.tmp 359)
 (.seq
 (.ops [
 ⟨(some 360),none,(.mv (.tmp 0))⟩,
 ⟨(some 361),none,(.nck (.tmp 360))⟩,
 ⟨(some 362),none,(.fad 0 true 22 (.tmp 361))⟩,
 ⟨(some 363),none,(.fad 21 false 1 (.tmp 362))⟩,
 ⟨none,none,(.sto false 1 (.tmp 363) (.const (.int .i64 4)))⟩])
 .ret)
 .skip))
 (.seq
 (.ops [
 ⟨(some 364),none,(.mv (.tmp 0))⟩,
 ⟨(some 365),none,(.mv (.tmp 0))⟩,
 ⟨(some 366),none,(.nck (.tmp 365))⟩,
 ⟨(some 367),none,(.fad 22 false 1 (.tmp 366))⟩,
 ⟨(some 368),none,(.ld false 1 (.tmp 367))⟩,
 ⟨(some 369),none,(.mv (.tmp 3))⟩,
 ⟨(some 370),none,(.bin .rem (.tmp 369) (.const (.int .u32 256)))⟩,
 ⟨(some 371),none,(.conv .u8 (.tmp 370))⟩,
 ⟨(some 372),none,(.bsl 5 1 1 [(.int .u8 0)] [(0,(1,(.tmp 371)))])⟩,
 ⟨(some 373),none,(.app 5 1 1 (.tmp 368) (.tmp 372))⟩,
 ⟨(some 374),none,(.nck (.tmp 364))⟩,
 ⟨(some 375),none,(.fad 22 false 1 (.tmp 374))⟩,
 ⟨none,none,(.sto false 1 (.tmp 375) (.tmp 373))⟩])
 (.ops [
 ⟨(some 376),none,(.mv (.tmp 0))⟩,
 ⟨(some 377),none,(.nck (.tmp 376))⟩,
 ⟨(some 378),none,(.fad 0 true 22 (.tmp 377))⟩,
 ⟨(some 379),none,(.fad 0 false 1 (.tmp 378))⟩,
 ⟨(some 380),none,(.ld false 1 (.tmp 379))⟩,
 ⟨(some 381),none,(.bin .add (.tmp 380) (.const (.int .i64 1)))⟩,
 ⟨(some 382),none,(.nck (.tmp 376))⟩,
 ⟨(some 383),none,(.fad 0 true 22 (.tmp 382))⟩,
 ⟨(some 384),none,(.fad 0 false 1 (.tmp 383))⟩,
 ⟨none,none,(.sto false 1 (.tmp 384) (.tmp 381))⟩])))
 (.seq
 (.ops [
 ⟨(some 386),none,(.bin .eql (.tmp 92) (.const (.int .i64 25)))⟩,
 ⟨(some 385),none,(.mv (.tmp 386))⟩])
 (.cond (.tmp 385)
 (.seq
 (.seq
 (.ops [
 ⟨(some 387),none,(.mv (.tmp 3))⟩,
 ⟨(some 388),none,(.fad 3 false 1 (.tmp 2))⟩,
 ⟨(some 389),none,(.ld false 1 (.tmp 388))⟩,
 ⟨(some 390),none,(.conv .u32 (.tmp 389))⟩,
 ⟨(some 391),none,(.bin .geq (.tmp 387) (.tmp 390))⟩])
 (.cond (.tmp 391)
 (.seq
 (.ops [
 ⟨(some 392),none,(.mv (.tmp 0))⟩,
 ⟨(some 393),none,(.nck (.tmp 392))⟩,
 ⟨(some 394),none,(.fad 0 true 22 (.tmp 393))⟩,
 ⟨(some 395),none,(.fad 21 false 1 (.tmp 394))⟩,
 ⟨none,none,(.sto false 1 (.tmp 395) (.const (.int .i64 3)))⟩])
 .ret)
 .skip))
 (.ops [
 ⟨(some 396),none,(.mv (.tmp 0))⟩,
 ⟨(some 397),none,(.nck (.tmp 396))⟩,
 ⟨(some 398),none,(.fad 0 true 22 (.tmp 397))⟩,
 ⟨(some 399),none,(.fad 0 false 1 (.tmp 398))⟩,
 ⟨(some 400),none,(.ld false 1 (.tmp 399))⟩,
 ⟨(some 401),none,(.bin .add (.tmp 400) (.const (.int .i64 1)))⟩,
 ⟨(some 402),none,(.nck (.tmp 396))⟩,
 ⟨(some 403),none,(.fad 0 true 22 (.tmp 402))⟩,
 ⟨(some 404),none,(.fad 0 false 1 (.tmp 403))⟩,
 ⟨none,none,(.sto false 1 (.tmp 404) (.tmp 401))⟩]))
 (.seq
 (.ops [
 ⟨(some 406),none,(.bin .eql (.tmp 92) (.const (.int .i64 26)))⟩,
 ⟨(some 405),none,(.mv (.tmp 406))⟩])
 (.cond (.tmp 405)
 (.ops [
 ⟨(some 407),none,(.mv (.tmp 0))⟩,
 ⟨(some 408),none,(.nck (.tmp 407))⟩,
 ⟨(some 409),none,(.fad 0 true 22 (.tmp 408))⟩,
 ⟨(some 410),none,(.fad 21 false 1 (.tmp 409))⟩,
 ⟨none,none,(.sto false 1 (.tmp 410) (.const (.int .i64 1)))⟩])
 (.seq
 (.par true (.one ⟨(some 94),none,(.fad 0 false 1 (.tmp 2))⟩ (.one ⟨(some 95),none,(.ld false 1 (.tmp 94))⟩ (.one ⟨(some 96),none,(.mv (.tmp 0))⟩ (.one ⟨(some 97),none,(.fad 2 false 1 (.tmp 2))⟩ (.one ⟨(some 98),none,(.ld false 1 (.tmp 97))⟩ (.one ⟨(some 99),none,(.nck (.tmp 96))⟩ (.one ⟨(some 100),none,(.fad 0 true 22 (.tmp 99))⟩ (.one ⟨(some 101),none,(.fad 1 true 16 (.tmp 100))⟩ (.one ⟨(some 102),none,(.aidx 16 false 1 (.tmp 101) (.tmp 98))⟩ (.one ⟨(some 103),none,(.ld false 1 (.tmp 102))⟩ (.one ⟨(some 104),none,(.mv (.tmp 0))⟩ (.one ⟨(some 105),none,(.fad 3 false 1 (.tmp 2))⟩ (.one ⟨(some 106),none,(.ld false 1 (.tmp 105))⟩ (.one ⟨(some 107),none,(.nck (.tmp 104))⟩ (.one ⟨(some 108),none,(.fad 0 true 22 (.tmp 107))⟩ (.one ⟨(some 109),none,(.fad 1 true 16 (.tmp 108))⟩ (.one ⟨(some 110),none,(.aidx 16 false 1 (.tmp 109) (.tmp 106))⟩ (.one ⟨(some 111),none,(.ld false 1 (.tmp 110))⟩ (.one ⟨(some 112),none,(.call (.func 92) [(.tmp 95),(.tmp 103),(.tmp 111)])⟩ (.one ⟨(some 93),none,(.mv (.tmp 112))⟩ (.one ⟨(some 113),none,(.ext (.tmp 93) 0)⟩ (.one ⟨(some 114),none,(.ext (.tmp 93) 1)⟩ (.one ⟨(some 9),none,(.mv (.tmp 113))⟩ (.one ⟨(some 10),none,(.mv (.tmp 114))⟩ .done)))))))))))))))))))))))))
 (.seq
 (.seq
 (.ops [
 ⟨(some 115),none,(.mv (.tmp 10))⟩,
 ⟨(some 116),none,(.bin .neq (.tmp 115) (.const (.int .i64 0)))⟩])
 (.cond (.tmp 116)
 (.seq
 (.ops [
 ⟨(some 117),none,(.mv (.tmp 0))⟩,
 ⟨(some 118),none,(.nck (.tmp 117))⟩,
 ⟨(some 119),none,(.fad 0 true 22 (.tmp 118))⟩,
 ⟨(some 120),none,(.fad 21 false 1 (.tmp 119))⟩,
 ⟨none,none,(.sto false 1 (.tmp 120) (.const (.int .i64 2)))⟩])
 .ret)
 .skip))
 (.ops [
 ⟨(some 121),none,(.mv (.tmp 0))⟩,
 ⟨(some 122),none,(.fad 1 false 1 (.tmp 2))⟩,
 ⟨(some 123),none,(.ld false 1 (.tmp 122))⟩,
 ⟨(some 124),none,(.mv (.tmp 9))⟩,
 ⟨(some 125),none,(.call (.func 89) [(.tmp 121),(.tmp 123),(.tmp 124)])⟩])))))))))))))))))))))))))))))))))))))))
theorem s_scref10_work_step:compFq Tryz.prog false true 84=some (411,r_scref10_work_step,[]):=by kernel_rfl
def t_scref10_run:VC :=
 (.seq
 (.seq
 (.ops [
 ⟨(some 14),none,(.mv (.const (.int .i64 0)))⟩])
 (.block 0
 (.loop
 (.seq
 (.seq
 (.ops [
 ⟨(some 49),none,(.mv (.tmp 14))⟩,
 ⟨(some 50),none,(.mv (.tmp 3))⟩,
 ⟨(some 51),none,(.bin .lss (.tmp 49) (.tmp 50))⟩,
 ⟨(some 52),none,(.mv (.tmp 51))⟩,
 ⟨(some 53),(some (52,true)),(.fad 0 true 22 (.tmp 13))⟩,
 ⟨(some 54),(some (52,true)),(.fad 21 false 1 (.tmp 53))⟩,
 ⟨(some 55),(some (52,true)),(.ld false 1 (.tmp 54))⟩,
 ⟨(some 56),(some (52,true)),(.bin .eql (.tmp 55) (.const (.int .i64 0)))⟩,
 ⟨(some 57),none,(.pick (.tmp 52) (.tmp 56) (.const (.bool false)))⟩])
 (.cond (.tmp 57)
 .skip
 (.exit 0)))
 (.seq
 (.block 1
 (.ops [
 ⟨(some 60),none,(.call (.func 84) [(.tmp 13)])⟩]))
 (.ops [
 ⟨(some 58),none,(.mv (.tmp 14))⟩,
 ⟨(some 59),none,(.bin .add (.tmp 58) (.const (.int .i64 1)))⟩,
 ⟨(some 14),none,(.mv (.tmp 59))⟩]))))))
 (.seq
 (.ops [
 ⟨(some 61),none,(.fad 22 false 1 (.tmp 13))⟩,
 ⟨(some 62),none,(.ld false 1 (.tmp 61))⟩,
 ⟨(some 63),none,(.see .b2s [(.tmp 62)])⟩,
 ⟨(some 64),none,(.fad 0 true 22 (.tmp 13))⟩,
 ⟨(some 65),none,(.fad 19 false 1 (.tmp 64))⟩,
 ⟨none,none,(.sto false 1 (.tmp 65) (.tmp 63))⟩])
 (.seq
 (.par false (.one ⟨(some 66),none,(.fad 0 true 22 (.tmp 13))⟩ (.one ⟨(some 67),none,(.ld true 22 (.tmp 66))⟩ (.one ⟨(some 68),none,(.fad 27 false 1 (.tmp 13))⟩ (.both (.one ⟨(some 69),none,(.ld false 1 (.tmp 68))⟩ (.one ⟨none,none,(.sto true 22 (.tmp 8) (.tmp 67))⟩ (.one ⟨(some 9),none,(.mv (.tmp 69))⟩ .done))) (.one ⟨none,none,(.sto true 22 (.tmp 8) (.tmp 67))⟩ (.one ⟨(some 69),none,(.ld false 1 (.tmp 68))⟩ (.one ⟨(some 9),none,(.mv (.tmp 69))⟩ .done))))))))
 .ret)))
def g_scref10_run:VC :=
 (.seq
 (.ops [
 ⟨(some 4),none,(.box 29 (.tmp 0))⟩,
 ⟨(some 6),none,(.box 83 (.tmp 2))⟩,
 ⟨(some 8),none,(.alc 83 [(.int .i64 0),(.int .u32 0),(.int .u32 0),(.int .u32 0),(.int .u32 0),(.int .u32 0),(.int .u32 0),(.int .u32 0),(.int .u32 0),(.int .u32 0),(.int .u32 0),(.int .u32 0),(.int .u32 0),(.int .u32 0),(.int .u32 0),(.int .u32 0),(.int .u32 0),(.slice none 0 0),(.int .i64 0),(.string ⟨#[]⟩),(.int .i64 0),(.int .i64 0)])⟩,
 ⟨(some 9),none,(.mv (.const (.slice none 0 0)))⟩])
 (.seq
 (.ops [
 ⟨(some 16),none,(.ld true 2 (.tmp 4))⟩,
 ⟨(some 17),none,(.call (.func 83) [(.tmp 16)])⟩,
 ⟨(some 15),none,(.mv (.tmp 17))⟩,
 ⟨(some 18),none,(.ext (.tmp 15) 0)⟩,
 ⟨(some 19),none,(.ext (.tmp 15) 1)⟩,
 ⟨(some 10),none,(.mv (.tmp 18))⟩,
 ⟨(some 11),none,(.mv (.tmp 19))⟩])
 (.seq
 (.par true (.one ⟨(some 20),none,(.fad 0 false 1 (.tmp 6))⟩ (.one ⟨(some 21),none,(.ld false 1 (.tmp 20))⟩ (.one ⟨(some 22),none,(.fad 1 true 16 (.tmp 6))⟩ (.one ⟨(some 23),none,(.ld true 16 (.tmp 22))⟩ (.one ⟨(some 25),none,(.fad 17 false 1 (.tmp 6))⟩ (.one ⟨(some 26),none,(.ld false 1 (.tmp 25))⟩ (.one ⟨(some 28),none,(.fad 18 false 1 (.tmp 6))⟩ (.one ⟨(some 29),none,(.ld false 1 (.tmp 28))⟩ (.one ⟨(some 30),none,(.fad 20 false 1 (.tmp 6))⟩ (.one ⟨(some 31),none,(.ld false 1 (.tmp 30))⟩ (.one ⟨(some 32),none,(.fad 21 false 1 (.tmp 6))⟩ (.one ⟨(some 33),none,(.ld false 1 (.tmp 32))⟩ (.both (.one ⟨(some 24),none,(.bsl 56 1 0 [] [])⟩ (.both (.one ⟨(some 27),none,(.app 56 1 4 (.tmp 24) (.tmp 26))⟩ (.one ⟨(some 34),none,(.bld [(.int .i64 0),(.int .u32 0),(.int .u32 0),(.int .u32 0),(.int .u32 0),(.int .u32 0),(.int .u32 0),(.int .u32 0),(.int .u32 0),(.int .u32 0),(.int .u32 0),(.int .u32 0),(.int .u32 0),(.int .u32 0),(.int .u32 0),(.int .u32 0),(.int .u32 0),(.slice none 0 0),(.int .i64 0),(.string ⟨#[]⟩),(.int .i64 0),(.int .i64 0)] [(0,(1,(.tmp 21))),(1,(16,(.tmp 23))),(17,(1,(.tmp 27))),(18,(1,(.tmp 29))),(20,(1,(.tmp 31))),(21,(1,(.tmp 33)))])⟩ (.one ⟨(some 12),none,(.alc 83 [(.int .i64 0),(.int .u32 0),(.int .u32 0),(.int .u32 0),(.int .u32 0),(.int .u32 0),(.int .u32 0),(.int .u32 0),(.int .u32 0),(.int .u32 0),(.int .u32 0),(.int .u32 0),(.int .u32 0),(.int .u32 0),(.int .u32 0),(.int .u32 0),(.int .u32 0),(.slice none 0 0),(.int .i64 0),(.string ⟨#[]⟩),(.int .i64 0),(.int .i64 0)])⟩ (.one ⟨none,none,(.sto true 22 (.tmp 12) (.tmp 34))⟩ .done)))) (.one ⟨(some 12),none,(.alc 83 [(.int .i64 0),(.int .u32 0),(.int .u32 0),(.int .u32 0),(.int .u32 0),(.int .u32 0),(.int .u32 0),(.int .u32 0),(.int .u32 0),(.int .u32 0),(.int .u32 0),(.int .u32 0),(.int .u32 0),(.int .u32 0),(.int .u32 0),(.int .u32 0),(.int .u32 0),(.slice none 0 0),(.int .i64 0),(.string ⟨#[]⟩),(.int .i64 0),(.int .i64 0)])⟩ (.one ⟨(some 27),none,(.app 56 1 4 (.tmp 24) (.tmp 26))⟩ (.one ⟨(some 34),none,(.bld [(.int .i64 0),(.int .u32 0),(.int .u32 0),(.int .u32 0),(.int .u32 0),(.int .u32 0),(.int .u32 0),(.int .u32 0),(.int .u32 0),(.int .u32 0),(.int .u32 0),(.int .u32 0),(.int .u32 0),(.int .u32 0),(.int .u32 0),(.int .u32 0),(.int .u32 0),(.slice none 0 0),(.int .i64 0),(.string ⟨#[]⟩),(.int .i64 0),(.int .i64 0)] [(0,(1,(.tmp 21))),(1,(16,(.tmp 23))),(17,(1,(.tmp 27))),(18,(1,(.tmp 29))),(20,(1,(.tmp 31))),(21,(1,(.tmp 33)))])⟩ (.one ⟨none,none,(.sto true 22 (.tmp 12) (.tmp 34))⟩ .done)))))) (.one ⟨(some 12),none,(.alc 83 [(.int .i64 0),(.int .u32 0),(.int .u32 0),(.int .u32 0),(.int .u32 0),(.int .u32 0),(.int .u32 0),(.int .u32 0),(.int .u32 0),(.int .u32 0),(.int .u32 0),(.int .u32 0),(.int .u32 0),(.int .u32 0),(.int .u32 0),(.int .u32 0),(.int .u32 0),(.slice none 0 0),(.int .i64 0),(.string ⟨#[]⟩),(.int .i64 0),(.int .i64 0)])⟩ (.one ⟨(some 24),none,(.bsl 56 1 0 [] [])⟩ (.one ⟨(some 27),none,(.app 56 1 4 (.tmp 24) (.tmp 26))⟩ (.one ⟨(some 34),none,(.bld [(.int .i64 0),(.int .u32 0),(.int .u32 0),(.int .u32 0),(.int .u32 0),(.int .u32 0),(.int .u32 0),(.int .u32 0),(.int .u32 0),(.int .u32 0),(.int .u32 0),(.int .u32 0),(.int .u32 0),(.int .u32 0),(.int .u32 0),(.int .u32 0),(.int .u32 0),(.slice none 0 0),(.int .i64 0),(.string ⟨#[]⟩),(.int .i64 0),(.int .i64 0)] [(0,(1,(.tmp 21))),(1,(16,(.tmp 23))),(17,(1,(.tmp 27))),(18,(1,(.tmp 29))),(20,(1,(.tmp 31))),(21,(1,(.tmp 33)))])⟩ (.one ⟨none,none,(.sto true 22 (.tmp 12) (.tmp 34))⟩ .done)))))))))))))))))))
 (.seq
 (.par false (.one ⟨(some 35),none,(.ld true 22 (.tmp 12))⟩ (.one ⟨(some 36),none,(.fad 19 false 1 (.tmp 6))⟩ (.one ⟨(some 37),none,(.ld false 1 (.tmp 36))⟩ (.one ⟨(some 39),none,(.mv (.tmp 10))⟩ (.one ⟨(some 40),none,(.mv (.tmp 11))⟩ (.one ⟨(some 41),none,(.fad 0 false 1 (.tmp 4))⟩ (.one ⟨(some 42),none,(.ld false 1 (.tmp 41))⟩ (.one ⟨(some 43),none,(.mv (.tmp 1))⟩ (.one ⟨(some 44),none,(.fad 0 false 1 (.tmp 4))⟩ (.one ⟨(some 45),none,(.ld false 1 (.tmp 44))⟩ (.one ⟨(some 46),none,(.len (.tmp 45))⟩ (.both (.one ⟨(some 38),none,(.eff (.s2b 5) [(.tmp 37)])⟩ (.both (.one ⟨(some 47),none,(.mk 3 1 8 [(.int .i64 0)] (.tmp 46) (.tmp 46))⟩ (.one ⟨(some 48),none,(.bld [(.int .i64 0),(.int .u32 0),(.int .u32 0),(.int .u32 0),(.int .u32 0),(.int .u32 0),(.int .u32 0),(.int .u32 0),(.int .u32 0),(.int .u32 0),(.int .u32 0),(.int .u32 0),(.int .u32 0),(.int .u32 0),(.int .u32 0),(.int .u32 0),(.int .u32 0),(.slice none 0 0),(.int .i64 0),(.string ⟨#[]⟩),(.int .i64 0),(.int .i64 0),(.slice none 0 0),(.slice none 0 0),(.slice none 0 0),(.slice none 0 0),(.string ⟨#[]⟩),(.slice none 0 0)] [(0,(22,(.tmp 35))),(22,(1,(.tmp 38))),(23,(1,(.tmp 39))),(24,(1,(.tmp 40))),(25,(1,(.tmp 42))),(26,(1,(.tmp 43))),(27,(1,(.tmp 47)))])⟩ (.one ⟨(some 13),none,(.alc 136 [(.int .i64 0),(.int .u32 0),(.int .u32 0),(.int .u32 0),(.int .u32 0),(.int .u32 0),(.int .u32 0),(.int .u32 0),(.int .u32 0),(.int .u32 0),(.int .u32 0),(.int .u32 0),(.int .u32 0),(.int .u32 0),(.int .u32 0),(.int .u32 0),(.int .u32 0),(.slice none 0 0),(.int .i64 0),(.string ⟨#[]⟩),(.int .i64 0),(.int .i64 0),(.slice none 0 0),(.slice none 0 0),(.slice none 0 0),(.slice none 0 0),(.string ⟨#[]⟩),(.slice none 0 0)])⟩ (.one ⟨none,none,(.sto true 28 (.tmp 13) (.tmp 48))⟩ .done)))) (.one ⟨(some 13),none,(.alc 136 [(.int .i64 0),(.int .u32 0),(.int .u32 0),(.int .u32 0),(.int .u32 0),(.int .u32 0),(.int .u32 0),(.int .u32 0),(.int .u32 0),(.int .u32 0),(.int .u32 0),(.int .u32 0),(.int .u32 0),(.int .u32 0),(.int .u32 0),(.int .u32 0),(.int .u32 0),(.slice none 0 0),(.int .i64 0),(.string ⟨#[]⟩),(.int .i64 0),(.int .i64 0),(.slice none 0 0),(.slice none 0 0),(.slice none 0 0),(.slice none 0 0),(.string ⟨#[]⟩),(.slice none 0 0)])⟩ (.one ⟨(some 47),none,(.mk 3 1 8 [(.int .i64 0)] (.tmp 46) (.tmp 46))⟩ (.one ⟨(some 48),none,(.bld [(.int .i64 0),(.int .u32 0),(.int .u32 0),(.int .u32 0),(.int .u32 0),(.int .u32 0),(.int .u32 0),(.int .u32 0),(.int .u32 0),(.int .u32 0),(.int .u32 0),(.int .u32 0),(.int .u32 0),(.int .u32 0),(.int .u32 0),(.int .u32 0),(.int .u32 0),(.slice none 0 0),(.int .i64 0),(.string ⟨#[]⟩),(.int .i64 0),(.int .i64 0),(.slice none 0 0),(.slice none 0 0),(.slice none 0 0),(.slice none 0 0),(.string ⟨#[]⟩),(.slice none 0 0)] [(0,(22,(.tmp 35))),(22,(1,(.tmp 38))),(23,(1,(.tmp 39))),(24,(1,(.tmp 40))),(25,(1,(.tmp 42))),(26,(1,(.tmp 43))),(27,(1,(.tmp 47)))])⟩ (.one ⟨none,none,(.sto true 28 (.tmp 13) (.tmp 48))⟩ .done)))))) (.both (.one ⟨(some 47),none,(.mk 3 1 8 [(.int .i64 0)] (.tmp 46) (.tmp 46))⟩ (.both (.one ⟨(some 38),none,(.eff (.s2b 5) [(.tmp 37)])⟩ (.one ⟨(some 48),none,(.bld [(.int .i64 0),(.int .u32 0),(.int .u32 0),(.int .u32 0),(.int .u32 0),(.int .u32 0),(.int .u32 0),(.int .u32 0),(.int .u32 0),(.int .u32 0),(.int .u32 0),(.int .u32 0),(.int .u32 0),(.int .u32 0),(.int .u32 0),(.int .u32 0),(.int .u32 0),(.slice none 0 0),(.int .i64 0),(.string ⟨#[]⟩),(.int .i64 0),(.int .i64 0),(.slice none 0 0),(.slice none 0 0),(.slice none 0 0),(.slice none 0 0),(.string ⟨#[]⟩),(.slice none 0 0)] [(0,(22,(.tmp 35))),(22,(1,(.tmp 38))),(23,(1,(.tmp 39))),(24,(1,(.tmp 40))),(25,(1,(.tmp 42))),(26,(1,(.tmp 43))),(27,(1,(.tmp 47)))])⟩ (.one ⟨(some 13),none,(.alc 136 [(.int .i64 0),(.int .u32 0),(.int .u32 0),(.int .u32 0),(.int .u32 0),(.int .u32 0),(.int .u32 0),(.int .u32 0),(.int .u32 0),(.int .u32 0),(.int .u32 0),(.int .u32 0),(.int .u32 0),(.int .u32 0),(.int .u32 0),(.int .u32 0),(.int .u32 0),(.slice none 0 0),(.int .i64 0),(.string ⟨#[]⟩),(.int .i64 0),(.int .i64 0),(.slice none 0 0),(.slice none 0 0),(.slice none 0 0),(.slice none 0 0),(.string ⟨#[]⟩),(.slice none 0 0)])⟩ (.one ⟨none,none,(.sto true 28 (.tmp 13) (.tmp 48))⟩ .done)))) (.one ⟨(some 13),none,(.alc 136 [(.int .i64 0),(.int .u32 0),(.int .u32 0),(.int .u32 0),(.int .u32 0),(.int .u32 0),(.int .u32 0),(.int .u32 0),(.int .u32 0),(.int .u32 0),(.int .u32 0),(.int .u32 0),(.int .u32 0),(.int .u32 0),(.int .u32 0),(.int .u32 0),(.int .u32 0),(.slice none 0 0),(.int .i64 0),(.string ⟨#[]⟩),(.int .i64 0),(.int .i64 0),(.slice none 0 0),(.slice none 0 0),(.slice none 0 0),(.slice none 0 0),(.string ⟨#[]⟩),(.slice none 0 0)])⟩ (.one ⟨(some 38),none,(.eff (.s2b 5) [(.tmp 37)])⟩ (.one ⟨(some 48),none,(.bld [(.int .i64 0),(.int .u32 0),(.int .u32 0),(.int .u32 0),(.int .u32 0),(.int .u32 0),(.int .u32 0),(.int .u32 0),(.int .u32 0),(.int .u32 0),(.int .u32 0),(.int .u32 0),(.int .u32 0),(.int .u32 0),(.int .u32 0),(.int .u32 0),(.int .u32 0),(.slice none 0 0),(.int .i64 0),(.string ⟨#[]⟩),(.int .i64 0),(.int .i64 0),(.slice none 0 0),(.slice none 0 0),(.slice none 0 0),(.slice none 0 0),(.string ⟨#[]⟩),(.slice none 0 0)] [(0,(22,(.tmp 35))),(22,(1,(.tmp 38))),(23,(1,(.tmp 39))),(24,(1,(.tmp 40))),(25,(1,(.tmp 42))),(26,(1,(.tmp 43))),(27,(1,(.tmp 47)))])⟩ (.one ⟨none,none,(.sto true 28 (.tmp 13) (.tmp 48))⟩ .done)))))) (.one ⟨(some 13),none,(.alc 136 [(.int .i64 0),(.int .u32 0),(.int .u32 0),(.int .u32 0),(.int .u32 0),(.int .u32 0),(.int .u32 0),(.int .u32 0),(.int .u32 0),(.int .u32 0),(.int .u32 0),(.int .u32 0),(.int .u32 0),(.int .u32 0),(.int .u32 0),(.int .u32 0),(.int .u32 0),(.slice none 0 0),(.int .i64 0),(.string ⟨#[]⟩),(.int .i64 0),(.int .i64 0),(.slice none 0 0),(.slice none 0 0),(.slice none 0 0),(.slice none 0 0),(.string ⟨#[]⟩),(.slice none 0 0)])⟩ (.both (.one ⟨(some 38),none,(.eff (.s2b 5) [(.tmp 37)])⟩ (.one ⟨(some 47),none,(.mk 3 1 8 [(.int .i64 0)] (.tmp 46) (.tmp 46))⟩ (.one ⟨(some 48),none,(.bld [(.int .i64 0),(.int .u32 0),(.int .u32 0),(.int .u32 0),(.int .u32 0),(.int .u32 0),(.int .u32 0),(.int .u32 0),(.int .u32 0),(.int .u32 0),(.int .u32 0),(.int .u32 0),(.int .u32 0),(.int .u32 0),(.int .u32 0),(.int .u32 0),(.int .u32 0),(.slice none 0 0),(.int .i64 0),(.string ⟨#[]⟩),(.int .i64 0),(.int .i64 0),(.slice none 0 0),(.slice none 0 0),(.slice none 0 0),(.slice none 0 0),(.string ⟨#[]⟩),(.slice none 0 0)] [(0,(22,(.tmp 35))),(22,(1,(.tmp 38))),(23,(1,(.tmp 39))),(24,(1,(.tmp 40))),(25,(1,(.tmp 42))),(26,(1,(.tmp 43))),(27,(1,(.tmp 47)))])⟩ (.one ⟨none,none,(.sto true 28 (.tmp 13) (.tmp 48))⟩ .done)))) (.one ⟨(some 47),none,(.mk 3 1 8 [(.int .i64 0)] (.tmp 46) (.tmp 46))⟩ (.one ⟨(some 38),none,(.eff (.s2b 5) [(.tmp 37)])⟩ (.one ⟨(some 48),none,(.bld [(.int .i64 0),(.int .u32 0),(.int .u32 0),(.int .u32 0),(.int .u32 0),(.int .u32 0),(.int .u32 0),(.int .u32 0),(.int .u32 0),(.int .u32 0),(.int .u32 0),(.int .u32 0),(.int .u32 0),(.int .u32 0),(.int .u32 0),(.int .u32 0),(.int .u32 0),(.slice none 0 0),(.int .i64 0),(.string ⟨#[]⟩),(.int .i64 0),(.int .i64 0),(.slice none 0 0),(.slice none 0 0),(.slice none 0 0),(.slice none 0 0),(.string ⟨#[]⟩),(.slice none 0 0)] [(0,(22,(.tmp 35))),(22,(1,(.tmp 38))),(23,(1,(.tmp 39))),(24,(1,(.tmp 40))),(25,(1,(.tmp 42))),(26,(1,(.tmp 43))),(27,(1,(.tmp 47)))])⟩ (.one ⟨none,none,(.sto true 28 (.tmp 13) (.tmp 48))⟩ .done))))))))))))))))))))
 t_scref10_run))))
theorem e_scref10_run:compF Tryz.prog 45=some (70,g_scref10_run,[(.cell 8 true 22),(.tmp 9)]):=by kernel_rfl
end Go.Proofs.YtaedcpipilnpcaaGreat
