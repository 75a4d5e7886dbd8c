/- The allocation's clashes: contract. No condition. The allocation's clashes: the walk: contract. No condition. The program's allocation, plainly: places one by one, none that clashes has the same. -/
import Derived.Test.YtkbhfokbhkmfgaaGreatQr1
import Derived.Test.YtkbhfokbhkmfgaaGreatUH
import Derived.Test.YtkbhfokbhkmfgaaGreatUC
import Derived.Test.YtkbhfokbhkmfgaaGreatUY
set_option linter.unusedVariables false
set_option linter.unusedSimpArgs false
namespace Go.Proofs.YtkbhfokbhkmfgaaGreat
set_option linter.unusedSimpArgs false
set_option linter.unusedVariables false
set_option maxRecDepth 10000
open Go.V
def KeptA (H H':List VObj):Prop:=∀ (i:Nat) (ob:VObj),H[i]? = some ob→H'[i]? = some ob
theorem KeptA.lt {H H':List VObj} (h:KeptA H H'):H.length≤H'.length:=by
 rcases Nat.eq_zero_or_pos H.length with h0 | h0
 ·omega
 · have : H[H.length - 1]? = some (H[H.length - 1]'(by omega)) := List.getElem?_eq_getElem (by omega);have:=(List.getElem?_eq_some_iff.1 (h _ _ this)).1;omega
theorem KeptA.app {H H':List VObj} (h:KeptA H H') (R:List VObj):KeptA H (H'++R):=fun i ob ho=>a0p (h i ob ho) R
theorem KeptA.set {H H':List VObj} (h:KeptA H H') {k:Nat} (hk:H.length≤k) (x:VObj):KeptA H (H'.set k x):=fun i ob ho=>by
 have:=(List.getElem?_eq_some_iff.1 ho).1;rw[List.getElem?_set_ne (by omega)];exact h i ob ho
abbrev c9D (r:Nat) (g:Nat→Nat × Nat):List AV:=(List.range r).map fun b=>.ref (g b).1 (g b).2 0 (rl r)
structure CS (f:BF) (L:LD) (H H1:List VObj) (st:Nat) (g:Nat→Nat × Nat) (m:List (List Bool)) (kW sW:Nat) (iw:List Bool):Prop where
 kp:KeptA H H1
 tb:H1[H.length]? = some ⟨st,59,1,c9D f.r g⟩
 rw:∀ b<f.r,H1[(g b).1]? = some ⟨(g b).2,108,1,a0c (m.getD b [])⟩
 di:∀ b<f.r,∀ c<f.r,(g b).1=(g c).1→b=c
 w:H1[kW]? = some ⟨sW,108,1,a0c iw⟩
 wn:∀ b<f.r,(g b).1≠kW
 gk:∀ b<f.r,H.length≤(g b).1
 wk:H.length≤kW
 ml:m.length=f.r
 ln:∀ b<f.r,(m.getD b []).length=f.r
 il:iw.length=f.r
theorem CS.app {f:BF} {L:LD} {H H1:List VObj} {st:Nat} {g:Nat→Nat × Nat} {m:List (List Bool)} {kW sW:Nat} {iw:List Bool} (h:CS f L H H1 st g m kW sW iw) (R:List VObj):CS f L H (H1++R) st g m kW sW iw :=
 ⟨h.kp.app R,a0p h.tb R,fun b hb=>a0p (h.rw b hb) R,h.di,a0p h.w R,h.wn,h.gk,h.wk,h.ml,h.ln,h.il⟩
theorem CS.other {f:BF} {L:LD} {H H1:List VObj} {st:Nat} {g:Nat→Nat × Nat} {m:List (List Bool)} {kW sW:Nat} {iw:List Bool} (h:CS f L H H1 st g m kW sW iw) {k:Nat} (hk:H.length≤k) (h2:k≠H.length) (hg:∀ b<f.r,(g b).1≠k) (hw:kW≠k) (x:VObj):CS f L H (H1.set k x) st g m kW sW iw :=
 ⟨h.kp.set hk x,by rw[List.getElem?_set_ne h2];exact h.tb,fun b hb=>by rw[List.getElem?_set_ne (fun e=>hg b hb e.symm)];exact h.rw b hb,h.di,by rw[List.getElem?_set_ne (fun e=>hw e.symm)];exact h.w,h.wn,h.gk,h.wk,h.ml,h.ln,h.il⟩
theorem CS.setW {f:BF} {L:LD} {H H1:List VObj} {st:Nat} {g:Nat→Nat × Nat} {m:List (List Bool)} {kW sW:Nat} {iw:List Bool} (h:CS f L H H1 st g m kW sW iw) (l:List Bool) (hl:l.length=f.r):CS f L H (H1.set kW ⟨sW,108,1,a0c l⟩) st g m kW sW l:=by
 have e1:(H.length=kW)=False:=a2L h.tb h.w (by simp);exact ⟨h.kp.set h.wk _,by rw[List.getElem?_set_ne (fun e=>of_eq_false e1 e.symm)];exact h.tb,fun b hb=>by rw[List.getElem?_set_ne (fun e=>h.wn b hb e.symm)];exact h.rw b hb,h.di,a0N h.w,h.wn,h.gk,h.wk,h.ml,h.ln,hl⟩
theorem CS.setR {f:BF} {L:LD} {H H1:List VObj} {st:Nat} {g:Nat→Nat × Nat} {m:List (List Bool)} {kW sW:Nat} {iw:List Bool} (h:CS f L H H1 st g m kW sW iw) {d:Nat} (hd:d<f.r) (l:List Bool) (hl:l.length=f.r):CS f L H (H1.set (g d).1 ⟨(g d).2,108,1,a0c l⟩) st g (m.set d l) kW sW iw:=by
 have e1:(H.length=(g d).1)=False:=a2L h.tb (h.rw d hd) (by simp);have hdm:d<m.length:=by rw[h.ml];exact hd
 have hgs:∀ b,(m.set d l).getD b []=if d=b then l else m.getD b []:=fun b=>by
  simp only[List.getD];rw[List.getElem?_set];by_cases e:d=b
  ·subst e;rw[if_pos rfl,if_pos hdm,if_pos rfl];rfl
  ·rw[if_neg e,if_neg e]
 refine ⟨h.kp.set (h.gk d hd) _,by rw[List.getElem?_set_ne (fun e=>of_eq_false e1 e.symm)];exact h.tb,fun b hb=>?_,h.di,by rw[List.getElem?_set_ne (h.wn d hd)];exact h.w,h.wn,h.gk,h.wk,by rw[List.length_set];exact h.ml,fun b hb=>?_,h.il⟩
 ·rw[hgs];by_cases e:d=b
  ·subst e;rw[if_pos rfl];exact a0N (h.rw d hd)
  ·rw[if_neg e,List.getElem?_set_ne (fun e2=>e (h.di d hd b hb e2))];exact h.rw b hb
 ·rw[hgs];split
  ·exact hl
  ·exact h.ln b hb
structure CVA (f:BF) (L:LD) (m:List (List Bool)) (iw:List Bool) (P:Nat→Nat→Prop):Prop where
 ap:∀ u<f.r,∀ v<f.r,L.I 0 u=true→L.I 0 v=true→gB (m.getD v []) u=true
 st:∀ b<f.n,∀ i<(f.bk b).ins.length,P b i→a0m ((f.bk b).ins.getD i default)→∀ v<f.r,thru1 ((f.bk b).ins.drop (i+1)) v (a5o (f.bk b) v (L.O b v))=true→gB (m.getD ((f.bk b).ins.getD i default).d.toNat []) v=true
 ca:∀ b<f.n,∀ i<(f.bk b).ins.length,P b i→((f.bk b).ins.getD i default).op=10→∀ v<f.r,thru1 ((f.bk b).ins.drop (i+1)) v (a5o (f.bk b) v (L.O b v))=true→gB iw v=true
theorem CVA.step {f:BF} {L:LD} (hf:Fine f) (hs:SizedP f L) {m:List (List Bool)} {iw:List Bool} {P P':Nat→Nat→Prop} (h:CVA f L m iw P) (hml:m.length=f.r) (hln:∀ b<f.r,(m.getD b []).length=f.r) (hil:iw.length=f.r) {b0 i0:Nat} (hb:b0<f.n) (hi:i0<(f.bk b0).ins.length)
 (x:List Bool) (hx:x=(a5E (f.bk b0) (L.out.getD b0 default)).getD i0 default) (hP:∀ b i,P' b i→P b i∨(b=b0∧i=i0)) (t:Tac) (ht:(f.bk b0).ins.getD i0 default=t) :
 CVA f L (if a0m t then m.set t.d.toNat (orL (m.getD t.d.toNat []) x) else m) (if t.op=10 then orL iw x else iw) P':=by
 have hlo:(L.out.getD b0 default).length=f.r:=hs.ol hb;have hrt:=hf.ins _ (BF.mem hb) _ (a0q hi);rw[ht]at hrt;have hr0:=hf.r0;have hm:∀ d<f.r,∀ v<f.r,gB (m.getD d []) v=true→gB ((if a0m t then m.set t.d.toNat (orL (m.getD t.d.toNat []) x) else m).getD d []) v=true:=fun d hd v hv e=>by
  split
  ·have hdm:t.d.toNat<m.length∨¬ t.d.toNat<m.length:=Nat.lt_or_ge _ _ |>.imp id (by omega)
   rw[List.getD,List.getElem?_set];by_cases e2:t.d.toNat=d
   ·rw[if_pos e2,if_pos (by rw[hml];omega)];show gB (orL _ _) v=true;rw[b5j _ _ (by rw[e2,hln d hd];exact hv),e2,e];rfl
   ·rw[if_neg e2];exact e
  ·exact e
 have hgd:a0m t→t.d.toNat<f.r:=fun h=>by have:=hrt.2 h;unfold BF.r;omega
 refine ⟨fun u hu v hv a c=>hm v hv u hu (h.ap u hu v hv a c),fun b hb2 i hi2 hp hsT v hv hth=>?_,fun b hb2 i hi2 hp hop v hv hth=>?_⟩
 ·rcases hP b i hp with hp | ⟨rfl,rfl⟩
  ·have hrt2:=(hf.ins _ (BF.mem hb2) _ (a0q hi2)).2 hsT;exact hm _ (by unfold BF.r;omega) v hv (h.st b hb2 i hi2 hp hsT v hv hth)
  ·rw[ht]at hsT ⊢;obtain ⟨g1,g2⟩:=a9D hf hb hlo hi hv;rw[← hx]at g1 g2;have g3:gB x v=true:=by rw[g2];exact hth
   rw[if_pos hsT];rw[List.getD,List.getElem?_set,if_pos rfl,if_pos (by rw[hml];exact hgd hsT)];show gB (orL _ _) v=true;rw[b5j _ _ (by rw[hln _ (hgd hsT)];exact hv),g3];simp
 ·rcases hP b i hp with hp | ⟨rfl,rfl⟩
  ·have:=h.ca b hb2 i hi2 hp hop v hv hth;split
   ·rw[b5j _ _ (by rw[hil];exact hv),this];rfl
   ·exact this
  ·rw[ht]at hop;obtain ⟨g1,g2⟩:=a9D hf hb hlo hi hv;rw[← hx]at g1 g2;have g3:gB x v=true:=by rw[g2];exact hth
   rw[if_pos hop,b5j _ _ (by rw[hil];exact hv),g3];simp
set_option maxRecDepth 10000
open Go.V
theorem c9j (T:List VObj) (x:VObj):(T++[x]).length=T.length+1:=by simp
def b5s (r i:Nat) (g:Nat→Nat × Nat):List AV:=(List.range r).map fun b=>if b<i then .ref (g b).1 (g b).2 0 (rl r) else a0T
theorem c1Z (r:Nat) (g:Nat→Nat × Nat):b5s r 0 g=List.replicate r a0T:=List.ext_getElem (by simp[b5s]) fun i h1 h2=>by simp[b5s]
theorem c3G (r:Nat) (g:Nat→Nat × Nat):b5s r r g=c9D r g:=List.ext_getElem (by simp[b5s]) fun i h1 h2=>by
 have:i<r:=by simpa [b5s] using h1
 simp[b5s,this]
theorem c3H (r i:Nat) (g:Nat→Nat × Nat):(b5s r i g).length=r:=by simp[b5s]
def gUp (g:Nat→Nat × Nat) (i k s:Nat) (b:Nat):Nat × Nat:=if b=i then (k,s) else g b
theorem c3I (r i k s:Nat) (g:Nat→Nat × Nat):(b5s r i g).set i (.ref k s 0 (rl r))=b5s r (i+1) (gUp g i k s):=List.ext_getElem (by simp[b5s]) fun b h1 h2=>by
 rw[List.getElem_set];simp only[b5s,List.getElem_map,List.getElem_range,gUp];by_cases h:i=b
 ·subst h;simp
 ·rw[if_neg h];have h':¬ b=i:=fun e=>h e.symm;by_cases h3:b<i
  ·rw[if_pos h3,if_pos (by omega),if_neg h']
  ·rw[if_neg h3,if_neg (by omega)]
theorem a4q {n r b:Nat} {g:Nat→Nat × Nat} {C:AV→Prop}:a0D ((List.range n).map fun b=>AV.ref (g b).1 (g b).2 0 r) b false 1 C .mk=(b<n∧C (.ref (g b).1 (g b).2 0 r)):=by
 rw[a1j (fun _=>rfl)];apply propext;rw[List.length_range];refine ⟨fun ⟨h1,h2⟩=>⟨h1,?_⟩,fun ⟨h1,h2⟩=>⟨h1,?_⟩⟩
 ·rw[a2q h1]at h2;exact h2
 ·rw[a2q h1];exact h2
structure CQ where
 i:Nat
 H:List VObj
 g:Nat→Nat × Nat
 m:List (List Bool)
 iw:List Bool
 nx:Nat
set_option maxHeartbeats 4000000 in
theorem c2a (f:BF) (L:LD) (hf:Fine f) (hcl:ClosedP f L) (hr:f.r≤64) (H:List VObj) (nx:Nat) (C:AV→List VObj→Nat→Prop)
 (hC:∀ H' nx' Hb st g m kW sW iw,KeptA H H'→CS f L Hb H' st g m kW sW iw→CVA f L m iw (fun _ _=>True)→C (.tup [.ref Hb.length st 0 f.r,.ref kW sW 0 (rl f.r)]) H' nx') :
 VCall Tryz.prog 17 [bfA f,c3m L] H nx C:=by
 refine VCall.of_body a1g b2K (by simp) ?_;have hs:=hcl.sz;have hnn:f.bks.length=f.n:=rfl;have hn5:=hf.b1;rw[hnn]at hn5;have hr0:=hf.r0;have hregs:f.regs=(f.r:Int):=by unfold BF.r;omega
 have hpos:0<f.n:=List.length_pos_iff.2 hf.b0;have hli:L.inn.length=f.n:=hs.i;have hlo':L.out.length=f.n:=hs.o;have hi0:(L.inn.getD 0 default).length=f.r:=hs.il hpos;have hz:(List.replicate f.r [AV.val (.slice none 0 0)]).flatten=b5s f.r 0 (fun _=>(0,0)):=by rw[c1Z,a3S]
 have hz2:(List.replicate f.regs.toNat [AV.val (.slice none 0 0)]).flatten=b5s f.r 0 (fun _=>(0,0)):=hz;have hrt0:f.regs.toNat=f.r:=rfl;have hfb:(H++[(⟨nx,34,1,bfL f⟩:VObj)]++[(⟨nx+1,37,1,[a5n L.inn,a5n L.out]⟩:VObj)])[H.length]? = some (⟨nx,34,1,bfL f⟩:VObj):=by simp
 have hlb:(H++[(⟨nx,34,1,bfL f⟩:VObj)]++[(⟨nx+1,37,1,[a5n L.inn,a5n L.out]⟩:VObj)])[H.length+1]? = some (⟨nx+1,37,1,[a5n L.inn,a5n L.out]⟩:VObj):=by
  rw[List.getElem?_append_right (by simp)];simp
 have hHl:(H++[(⟨nx,34,1,bfL f⟩:VObj)]++[(⟨nx+1,37,1,[a5n L.inn,a5n L.out]⟩:VObj)]).length=H.length+2:=by simp
 have hkp0:KeptA H (H++[(⟨nx,34,1,bfL f⟩:VObj)]++[(⟨nx+1,37,1,[a5n L.inn,a5n L.out]⟩:VObj)]):=fun i ob ho=>a0p (a0p ho _) _;have hfb1:(H++[(⟨nx,34,1,bfL f⟩:VObj)])[H.length]? = some (⟨nx,34,1,bfL f⟩:VObj):=by simp
 have hln1:(H++[(⟨nx,34,1,bfL f⟩:VObj)]).length=H.length+1:=by simp
 simp only[go_sem,a7q,List.length_range,hln1];obtain ⟨Hb,hHb⟩:∃ Hb,H++[(⟨nx,34,1,bfL f⟩:VObj)]++[(⟨nx+1,37,1,[a5n L.inn,a5n L.out]⟩:VObj)]=Hb:=⟨_,rfl⟩
 rw[hHb]at hfb hlb hHl hkp0;have hHb':H++[(⟨nx,34,1,[I f.regs,b5e f.bks]⟩:VObj)]++[(⟨nx+1,37,1,[a5n L.inn,a5n L.out]⟩:VObj)]=Hb:=hHb;simp only[hHb',hfb];simp only[go_sem,List.length_range,hHb',hfb,hlb,hz2,c9j,c7c]
 repeat ((with_reducible refine And.intro ?_ ?_);· first | omega | (simp;omega))
 refine a0r (fun x:CQ=>⟨[(2,.ptr H.length nx 0),(3,.ptr (H.length+1) (nx+1) 0),(6,.ref Hb.length (nx+1+1) 0 f.r),(23,I f.r),(24,I x.i)],x.H,x.nx⟩)
  (fun x=>x.i≤f.r∧KeptA Hb x.H∧x.H[Hb.length]? = some ⟨nx+1+1,59,1,b5s f.r x.i x.g⟩∧(∀ b<x.i,x.H[(x.g b).1]? = some ⟨(x.g b).2,108,1,a0c (List.replicate f.r false)⟩∧Hb.length≤(x.g b).1) ∧
    (∀ b<x.i,∀ c<x.i,(x.g b).1=(x.g c).1→b=c)) (fun x=>f.r-x.i) ⟨0,Hb++[(⟨nx+1+1,59,1,b5s f.r 0 (fun _=>(0,0))⟩:VObj)],fun _=>(0,0),[],[],nx+1+1+1⟩ ?_ ?_ ?_
 ·exact Wk.mk (by simp[a0a,hHl,hrt0,hregs]) ⟨[],by simp⟩ (Nat.le_refl _)
 ·exact ⟨Nat.zero_le _,fun i ob ho=>a0p ho _,by simp,fun b hb=>absurd hb (Nat.not_lt_zero b),fun b hb=>absurd hb (Nat.not_lt_zero b)⟩
 rintro ⟨i,H1,g,m0,iw0,nx1⟩ ⟨p1,p2,p3,p4,p5⟩;simp only at p1 p2 p3 p4 p5;have hfb2:=p2 _ _ hfb;have hlb2:=p2 _ _ hlb;by_cases hi:i<f.r
 ·have htl:=c3H f.r i g;have hne:H1.length≠Hb.length:=by have:=(List.getElem?_eq_some_iff.1 p3).1;omega
  simp only[go_sem,List.length_range,hfb2,hregs,eq_true (show (i:Int)<(f.r:Int) by omega)];refine b3g f.r hr H1 nx1 _ ?_;have p3':=a0p p3 [(⟨nx1,108,1,a0c (List.replicate f.r false)⟩:VObj)];have hl3:=(List.getElem?_eq_some_iff.1 p3').1;simp only[go_sem,List.length_range,p3',c3I,htl]
  repeat ((with_reducible refine And.intro ?_ ?_);· first | omega | (simp;omega))
  rw[a0e (by omega) (by omega)];have hrow:((H1++[(⟨nx1,108,1,a0c (List.replicate f.r false)⟩:VObj)]).set Hb.length ⟨nx+1+1,59,1,b5s f.r (i+1) (gUp g i H1.length nx1)⟩)[H1.length]? = some ⟨nx1,108,1,a0c (List.replicate f.r false)⟩:=by
   rw[List.getElem?_set_ne (fun e=>hne e.symm)];simp
  refine ⟨⟨i+1,(H1++[(⟨nx1,108,1,a0c (List.replicate f.r false)⟩:VObj)]).set Hb.length ⟨nx+1+1,59,1,b5s f.r (i+1) (gUp g i H1.length nx1)⟩,gUp g i H1.length nx1,[],[],nx1+1⟩,⟨by simp only;omega,(p2.app _).set (Nat.le_refl _) _,a0N p3',fun b hb=>?_,fun b hb c hc e=>?_⟩,by simp only;omega,Wk.mk (by simp[a0a]) ⟨[],by simp⟩ (Nat.le_refl _)⟩
  ·simp only[gUp]at hb ⊢;by_cases e:b=i
   ·rw[if_pos e];exact ⟨hrow,by have:=p2.lt;omega⟩
   ·rw[if_neg e];obtain ⟨q1,q2⟩:=p4 b (by omega);refine ⟨?_,q2⟩;have hq:(g b).1≠Hb.length:=fun e2=>by rw[e2,p3]at q1;simp at q1
    rw[List.getElem?_set_ne (fun e=>hq e.symm)];exact a0p q1 _
  ·simp only[gUp]at hb hc e;have hlt:∀ b<i,(g b).1<H1.length:=fun b hb=>(List.getElem?_eq_some_iff.1 (p4 b hb).1).1;by_cases e1:b=i
   ·by_cases e2:c=i
    ·omega
    ·rw[if_pos e1,if_neg e2]at e;have:=hlt c (by omega);simp only at e;omega
   ·by_cases e2:c=i
    ·rw[if_neg e1,if_pos e2]at e;have:=hlt b (by omega);simp only at e;omega
    ·rw[if_neg e1,if_neg e2]at e;exact p5 b (by omega) c (by omega) e
 obtain rfl:i=f.r:=by omega
 rw[c3G]at p3;obtain ⟨row,hrow⟩:∃ row,L.inn.getD 0 default=row:=⟨_,rfl⟩
 rw[hrow]at hi0;simp only[go_sem,List.length_range,hfb2,hregs,eq_false (show ¬ (f.r:Int)<(f.r:Int) by omega)];refine b3g f.r hr H1 nx1 _ ?_;have hlb3:=a0p hlb2 [(⟨nx1,108,1,a0c (List.replicate f.r false)⟩:VObj)];simp only[go_sem,List.length_range,hlb3,hrow]
 repeat ((with_reducible refine And.intro ?_ ?_);· first | omega | (simp;omega))
 refine b7a row (by omega) _ _ _ fun nx2=>?_;have hc0:CS f L Hb (H1++[(⟨nx1,108,1,a0c (List.replicate f.r false)⟩:VObj)]) (nx+1+1) g (List.replicate f.r (List.replicate f.r false)) H1.length nx1 (List.replicate f.r false):=by
  refine ⟨p2.app _,a0p p3 _,fun b hb=>?_,p5,by simp,fun b hb=>?_,fun b hb=>(p4 b hb).2,p2.lt,by simp,fun b hb=>?_,by simp⟩
  ·rw[show (List.replicate f.r (List.replicate f.r false)).getD b []=List.replicate f.r false by simp[List.getD,hb]];exact a0p (p4 b hb).1 _
  ·have:=(List.getElem?_eq_some_iff.1 (p4 b hb).1).1;omega
  ·simp[List.getD,hb]
 have hlen1:(H1++[(⟨nx1,108,1,a0c (List.replicate f.r false)⟩:VObj)]).length=H1.length+1:=by simp
 have hc1:=hc0.app [(⟨nx1+1,108,1,a0c row⟩:VObj)];have hF1:(H1++[(⟨nx1,108,1,a0c (List.replicate f.r false)⟩:VObj)]++[(⟨nx1+1,108,1,a0c row⟩:VObj)])[H1.length+1]? = some ⟨nx1+1,108,1,a0c row⟩:=by
  rw[List.getElem?_append_right (by simp)];simp
 have hFg:∀ b<f.r,(g b).1≠H1.length+1:=fun b hb=>by have:=(List.getElem?_eq_some_iff.1 (p4 b hb).1).1;omega
 generalize H1++[(⟨nx1,108,1,a0c (List.replicate f.r false)⟩:VObj)]++[(⟨nx1+1,108,1,a0c row⟩:VObj)]=H2 at hc1 hF1 ⊢;have htb1:=hc1.tb;simp only[go_sem,List.length_range,hlen1,htb1];refine a0r (fun x:CQ=>⟨[(2,.ptr H.length nx 0),(3,.ptr (H.length+1) (nx+1) 0),(6,.ref Hb.length (nx+1+1) 0 f.r),(8,.ref H1.length nx1 0 (rl f.r)),(9,.ref (H1.length+1) (nx1+1) 0 (rl f.r)),(43,I f.r),(44,I x.i)],x.H,x.nx⟩)
  (fun x=>x.i≤f.r∧CS f L Hb x.H (nx+1+1) g x.m H1.length nx1 (List.replicate f.r false)∧x.H[H1.length+1]? = some ⟨nx1+1,108,1,a0c row⟩∧(∀ b<x.i,gB row b=true→∀ u<f.r,gB row u=true→gB (x.m.getD b []) u=true)) (fun x=>f.r-x.i)
  ⟨0,H2,g,List.replicate f.r (List.replicate f.r false),[],nx2⟩ ?_ ?_ ?_
 ·exact Wk.mk (by simp[a0a,hi0]) ⟨[],by simp⟩ (Nat.le_refl _)
 ·exact ⟨Nat.zero_le _,hc1,hF1,fun b hb=>absurd hb (Nat.not_lt_zero b)⟩
 rintro ⟨v,H3,g',m,iw',nx3⟩ ⟨q1,q2,q3,q4⟩;simp only at q1 q2 q3 q4;by_cases hv:v<f.r
 ·have hvr:v<row.length:=by omega
  simp only[go_sem,List.length_range,eq_true (show (v:Int)<(f.r:Int) by omega)];refine c3E row v H3 nx3 (H1.length+1) (nx1+1) (rl f.r) (by rw[hi0]) (by omega) hvr q3 _ ?_;have htb:=q2.tb;cases hg:gB row v
  ·simp only[go_sem,List.length_range];rw[a0e (by omega) (by omega)];refine ⟨⟨v+1,H3,g,m,[],nx3⟩,⟨by simp only;omega,q2,q3,fun b hb h1 u hu h2=>?_⟩,by simp only;omega,Wk.mk (by simp[a0a]) ⟨[],by simp⟩ (Nat.le_refl _)⟩;simp only at hb;by_cases e:b=v
   ·subst e;rw[hg]at h1;cases h1
   ·exact q4 b (by omega) h1 u hu h2
  ·simp only[go_sem,List.length_range,htb,a4q]
   repeat ((with_reducible refine And.intro ?_ ?_);· first | omega | (simp;omega))
   have hlv:=q2.ln v hv;have hml:=q2.ml;refine a5K (m.getD v []) row H3 nx3 (g v).1 (g v).2 (H1.length+1) (nx1+1) (rl f.r) (by rw[hlv]) (by omega) (by omega) (q2.rw v hv) q3 (hFg v hv) _ ?_;have hol:(orL (m.getD v []) row).length=f.r:=by rw[a2j];exact hlv
   have hc2:=q2.setR hv (orL (m.getD v []) row) hol;have hF2:(H3.set (g v).1 ⟨(g v).2,108,1,a0c (orL (m.getD v []) row)⟩)[H1.length+1]? = some ⟨nx1+1,108,1,a0c row⟩:=by rw[List.getElem?_set_ne (hFg v hv)];exact q3
   simp only[go_sem,List.length_range];rw[a0e (by omega) (by omega)];refine ⟨⟨v+1,_,g,m.set v (orL (m.getD v []) row),[],nx3⟩,⟨by simp only;omega,hc2,hF2,fun b hb h1 u hu h2=>?_⟩,by simp only;omega,Wk.mk (by simp[a0a]) ⟨[],(List.append_nil _).symm⟩ (Nat.le_refl _)⟩;simp only at hb;rw[List.getD,List.getElem?_set];by_cases e:v=b
   ·rw[if_pos e,if_pos (by rw[hml];exact hv)];show gB (orL _ _) u=true;rw[b5j _ _ (by rw[hlv];exact hu),h2];simp
   ·rw[if_neg e];exact q4 b (by omega) h1 u hu h2
 obtain rfl:v=f.r:=by omega
 have hap:∀ u<f.r,∀ v<f.r,L.I 0 u=true→L.I 0 v=true→gB (m.getD v []) u=true:=fun u hu v hv h1 h2=>by
  have e:∀ w,L.I 0 w=gB row w:=fun w=>by rw[← hrow];rfl
  rw[e]at h1 h2;exact q4 v hv h2 u hu h1
 have hcv:CVA f L m (List.replicate f.r false) (fun b _=>b<0):=⟨hap,fun b _ i _ hp=>absurd hp (Nat.not_lt_zero b),fun b _ i _ hp=>absurd hp (Nat.not_lt_zero b)⟩
 have hfb3:=q2.kp _ _ hfb;simp only[go_sem,List.length_range,hfb3,hnn,eq_false (show ¬ (f.r:Int)<(f.r:Int) by omega)];refine a0r (fun x:CQ=>⟨[(2,.ptr H.length nx 0),(3,.ptr (H.length+1) (nx+1) 0),(6,.ref Hb.length (nx+1+1) 0 f.r),(8,.ref H1.length nx1 0 (rl f.r)),(58,b5e f.bks),(59,I f.n),(60,I x.i)],x.H,x.nx⟩)
  (fun x=>x.i≤f.n∧CS f L Hb x.H (nx+1+1) g x.m H1.length nx1 x.iw∧CVA f L x.m x.iw (fun b _=>b<x.i)) (fun x=>f.n-x.i)
  ⟨0,H3,g,m,List.replicate f.r false,nx3⟩ ?_ ?_ ?_
 ·exact Wk.mk (by simp[a0a]) ⟨[],by simp⟩ (Nat.le_refl _)
 ·exact ⟨Nat.zero_le _,q2,hcv⟩
 clear hap hcv q2 q3 q4 hfb3;rintro ⟨b,H4,g'',m,iw,nx4⟩ ⟨u1,u2,u3⟩;simp only at u1 u2 u3;by_cases hb:b<f.n
 case neg =>
  obtain rfl:b=f.n:=by omega
  simp only[go_sem,List.length_range,eq_false (show ¬ (f.n:Int)<(f.n:Int) by omega)];exact hC _ _ Hb _ g m _ _ iw (fun i ob ho=>u2.kp i ob (hkp0 i ob ho)) u2 ⟨u3.ap,fun b hb i hi _=>u3.st b hb i hi hb,fun b hb i hi _=>u3.ca b hb i hi hb⟩
 have hbk:f.bks.getD b default=f.bk b:=rfl;have hlo:(L.out.getD b default).length=f.r:=hs.ol hb;have hrg:=hf.regs hb hlo;have hbl:=hf.len _ (BF.mem hb);have hlb4:=a0p (u2.kp _ _ hlb) [(⟨nx4,56,1,bkL (f.bk b)⟩:VObj)];simp only[go_sem,List.length_range,hbk,c7c,c7C,hlb4,eq_true (show (b:Int)<(f.n:Int) by omega)]
 repeat ((with_reducible refine And.intro ?_ ?_);· first | omega | (simp;omega))
 obtain ⟨out,hout⟩:∃ out,L.out.getD b default=out:=⟨_,rfl⟩
 rw[hout]at hlo hrg ⊢;obtain ⟨bk,hbkd⟩:∃ bk,f.bk b=bk:=⟨_,rfl⟩
 rw[hbkd]at hrg hbl hlb4 ⊢;refine b7a out (by omega) _ _ _ fun nx5=>?_;have hc5:=(u2.app [(⟨nx4,56,1,bkL bk⟩:VObj)]).app [(⟨nx4+1,108,1,a0c out⟩:VObj)];have hB5:(H4++[(⟨nx4,56,1,bkL bk⟩:VObj)]++[(⟨nx4+1,108,1,a0c out⟩:VObj)])[H4.length+1]? = some ⟨nx4+1,108,1,a0c out⟩:=by
  rw[List.getElem?_append_right (by simp)];simp
 have hK5:(H4++[(⟨nx4,56,1,bkL bk⟩:VObj)]++[(⟨nx4+1,108,1,a0c out⟩:VObj)])[H4.length]? = some ⟨nx4,56,1,bkL bk⟩:=by
  rw[List.getElem?_append_left (by simp)];simp
 have hlen4:(H4++[(⟨nx4,56,1,bkL bk⟩:VObj)]).length=H4.length+1:=by simp
 have hBg:∀ c<f.r,(g c).1≠H4.length+1:=fun c hc=>by have:=(List.getElem?_eq_some_iff.1 (u2.rw c hc)).1;omega
 have hBW:H1.length≠H4.length+1:=by have:=(List.getElem?_eq_some_iff.1 u2.w).1;omega
 have hBt:H4.length+1≠Hb.length:=by have:=(List.getElem?_eq_some_iff.1 u2.tb).1;omega
 have hBk:Hb.length≤H4.length+1:=by have:=u2.kp.lt;omega
 generalize H4++[(⟨nx4,56,1,bkL bk⟩:VObj)]++[(⟨nx4+1,108,1,a0c out⟩:VObj)]=H5 at hc5 hB5 hK5 ⊢;have hn1:(H4.length+1=H4.length)=False:=eq_false (by omega);have hw0:IntKind.i64.wrap ((bk.ins.length:Int)-1)=(bk.ins.length:Int)-1:=a0e (by omega) (by omega);by_cases he:bk.e=2
 ·obtain ⟨hv1,hv2⟩:=hrg.2 he;simp only[go_sem,List.length_range,hK5,hlen4,he,hw0];refine a8w out bk.v H5 nx5 (H4.length+1) (nx4+1) _ rfl (by omega) (by omega) hB5 _ fun r=>?_;rw[b9g he];have h1:=hc5.other hBk hBt hBg hBW (⟨nx4+1,108,1,a0c (a8Q bk out)⟩:VObj);have h2:=(List.getElem?_set_ne (of_eq_false hn1) (a:=(⟨nx4+1,108,1,a0c (a8Q bk out)⟩:VObj))).trans hK5;have h3:=a0N (x:=(⟨nx4+1,108,1,a0c (a8Q bk out)⟩:VObj)) hB5;simp only[go_sem,List.length_range,h2,hw0];refine a0r (fun y:CQ=>⟨[(2,.ptr H.length nx 0),(3,.ptr (H.length+1) (nx+1) 0),(6,.ref Hb.length (nx+1+1) 0 f.r),(8,.ref H1.length nx1 0 (rl f.r)),(58,b5e f.bks),(59,I f.n),(60,I b),(12,.ptr H4.length nx4 0),(13,.ref (H4.length+1) (nx4+1) 0 (rl f.r)),(14,I ((bk.ins.length:Int)-1-y.i))],y.H,y.nx⟩)
   (fun y=>y.i≤bk.ins.length∧CS f L Hb y.H (nx+1+1) g y.m H1.length nx1 y.iw∧CVA f L y.m y.iw (fun c i=>c<b∨(c=b∧bk.ins.length≤i+y.i))∧y.H[H4.length]? = some ⟨nx4,56,1,bkL bk⟩∧y.H[H4.length+1]? = some ⟨nx4+1,108,1,a0c (atL bk out y.i)⟩) (fun y=>bk.ins.length-y.i) ⟨0,_,g,m,iw,_⟩
   (Wk.mk (by simp[a0a,hw0,hlo]) ⟨[],(List.append_nil _).symm⟩ (Nat.le_refl _)) ⟨Nat.zero_le _,h1,⟨u3.ap,fun c hc i hi hp=>u3.st c hc i hi (hp.resolve_right fun e=>by obtain ⟨rfl,e2⟩:=e;rw[hbkd]at hi;simp only at e2;omega),fun c hc i hi hp=>u3.ca c hc i hi (hp.resolve_right fun e=>by obtain ⟨rfl,e2⟩:=e;rw[hbkd]at hi;simp only at e2;omega)⟩,h2,by rw[b5n];exact h3⟩ ?_
  rintro ⟨k,H6,g6,m,iw,nx6⟩ ⟨r1,r2,r3,r4,r5⟩;simp only at r1 r2 r3 r4 r5;by_cases hk2:k<bk.ins.length
  case neg =>
   obtain rfl:k=bk.ins.length:=by omega
   simp only[go_sem,List.length_range,eq_false (show ¬ (0:Int)≤(bk.ins.length:Int)-1-bk.ins.length by omega)];rw[a0e (by omega) (by omega)];exact ⟨⟨b+1,H6,g,m,iw,nx6⟩,⟨by simp only;omega,r2,⟨r3.ap,fun c hc i hi hp=>r3.st c hc i hi (by simp only at hp;by_cases e:c=b;exact .inr ⟨e,by omega⟩;exact .inl (by omega)),fun c hc i hi hp=>r3.ca c hc i hi (by simp only at hp;by_cases e:c=b;exact .inr ⟨e,by omega⟩;exact .inl (by omega))⟩⟩,by simp only;omega,Wk.mk (by simp[a0a]) ⟨[],(List.append_nil _).symm⟩ (Nat.le_refl _)⟩
  have e1:((bk.ins.length:Int)-1-k).toNat=bk.ins.length-k-1:=by omega
  have hmt:=a0q (show bk.ins.length-k-1<bk.ins.length by omega);have hrt:=hrg.1 _ hmt;have hbg:=a5L bk out (show bk.ins.length-k-1<bk.ins.length by omega);rw[show bk.ins.length-k-1+1=bk.ins.length-k by omega]at hbg;have hxl:=b8j bk out k;rw[hlo]at hxl;obtain ⟨x,hxd⟩:∃ x,atL bk out k=x:=⟨_,rfl⟩
  replace hbg:(a5E bk out).getD (bk.ins.length-k-1) default=x:=hbg.trans hxd;rw[hxd]at r5 hxl;obtain ⟨t,hti⟩:∃ t,bk.ins.getD (bk.ins.length-k-1) default=t:=⟨_,rfl⟩
  rw[hti,hlo]at hrt;have hstep0:=CVA.step hf hs r3 r2.ml r2.ln r2.il hb (i0:=bk.ins.length-k-1) (by rw[hbkd];omega) x (by rw[hbkd,hout];exact hbg.symm) (P':=fun c i=>c<b∨(c=b∧bk.ins.length≤i+(k+1))) (fun c i hp=>by
   rcases hp with hp | ⟨hp1,hp2⟩
   ·exact .inl (.inl hp)
   ·by_cases e:i=bk.ins.length-k-1
    ·exact .inr ⟨hp1,e⟩
    ·exact .inl (.inr ⟨hp1,by omega⟩)) t (by rw[hbkd];exact hti)
  have c6:=r2.app [(⟨nx6,95,1,a8s t⟩:VObj)];have k6:=a0p r4 [(⟨nx6,95,1,a8s t⟩:VObj)];have b6:=a0p r5 [(⟨nx6,95,1,a8s t⟩:VObj)];have t6:(H6++[(⟨nx6,95,1,a8s t⟩:VObj)])[H6.length]? = some ⟨nx6,95,1,a8s t⟩:=by simp
  have htg:∀ c<f.r,(g c).1≠H6.length:=fun c hc=>by have:=(List.getElem?_eq_some_iff.1 (r2.rw c hc)).1;omega
  have htW:H1.length≠H6.length:=by have:=(List.getElem?_eq_some_iff.1 r2.w).1;omega
  have htB:H4.length+1≠H6.length:=by have:=(List.getElem?_eq_some_iff.1 r5).1;omega
  by_cases ho:t.op=10
  ·rw[if_pos ho]at hstep0;simp only[go_sem,List.length_range,r4,t6,c7c,c7C,e1,hti,eq_true ho,eq_true (show (0:Int)≤(bk.ins.length:Int)-1-k by omega)]
   repeat ((with_reducible refine And.intro ?_ ?_);· first | omega | (simp;omega))
   have hil:=r2.il;refine a5K iw x _ _ H1.length nx1 (H4.length+1) (nx4+1) (rl f.r) (by rw[hil]) (by omega) (by omega) c6.w b6 hBW _ ?_;have hol6:(orL iw x).length=f.r:=by rw[a2j];exact hil
   have c7:=c6.setW (orL iw x) hol6;have hkW:H1.length≠H4.length:=fun e=>by have:=c6.w;rw[e,k6]at this;simp at this
   have k7:=(List.getElem?_set_ne hkW (a:=(⟨nx1,108,1,a0c (orL iw x)⟩:VObj))).trans k6;have b7:=(List.getElem?_set_ne hBW (a:=(⟨nx1,108,1,a0c (orL iw x)⟩:VObj))).trans b6;have q7:=(List.getElem?_set_ne htW (a:=(⟨nx1,108,1,a0c (orL iw x)⟩:VObj))).trans t6;simp only[go_sem,List.length_range,q7];refine VCall.of_contract (b2Y t) (SleL.pure rfl) fun y hy=>?_;subst hy;have htb7:=c7.tb;by_cases hd:0≤a0n t
   ·have hsT:a0m t:=by
     unfold a0n at hd;by_cases h:a0m t
     ·exact h
     ·rw[if_neg h]at hd;omega
    have hsd:a0n t=t.d:=if_pos hsT;have hdl:=hrt.2 hsT;obtain ⟨d,hdd⟩:∃ d:Nat,t.d=(d:Int):=⟨t.d.toNat,by omega⟩
    have hdr:d<f.r:=by omega
    have hmd:=c7.ln d hdr;simp only[go_sem,List.length_range,hsd,hdd,htb7,a4q,eq_true (show (0:Int)≤(d:Int) by omega)]
    repeat ((with_reducible refine And.intro ?_ ?_);· first | omega | (simp;omega))
    refine a5K (m.getD d []) x _ _ (g d).1 (g d).2 (H4.length+1) (nx4+1) (rl f.r) (by rw[hmd]) (by omega) (by omega) (c7.rw d hdr) b7 (hBg d hdr) _ ?_;have hol:(orL (m.getD d []) x).length=f.r:=by rw[a2j];exact hmd
    have hc7:=c7.setR hdr (orL (m.getD d []) x) hol;have hkg:(g d).1≠H4.length:=fun e=>by have:=c7.rw d hdr;rw[e,k7]at this;simp at this
    have hK7:=(List.getElem?_set_ne hkg (a:=(⟨(g d).2,108,1,a0c (orL (m.getD d []) x)⟩:VObj))).trans k7;have hB7:=(List.getElem?_set_ne (hBg d hdr) (a:=(⟨(g d).2,108,1,a0c (orL (m.getD d []) x)⟩:VObj))).trans b7;simp only[go_sem,List.length_range,hsd,hdd];refine b5r x d _ _ (H4.length+1) (nx4+1) (rl f.r) (by rw[hxl]) (by omega) (by omega) hB7 _ fun r=>?_;have hcl':a0u t x=x.set d false:=by unfold a0u;rw[if_pos hd,hsd,hdd,Int.toNat_natCast]
    rw[Int.toNat_natCast,← hcl'];have hu1:=hc7.other hBk hBt hBg hBW (⟨nx4+1,108,1,a0c (a0u t x)⟩:VObj);have hu2:=(List.getElem?_set_ne (of_eq_false hn1) (a:=(⟨nx4+1,108,1,a0c (a0u t x)⟩:VObj))).trans hK7;have hu3:=a0N (x:=(⟨nx4+1,108,1,a0c (a0u t x)⟩:VObj)) hB7;rw[if_pos hsT,hdd,Int.toNat_natCast]at hstep0;have hstep:=hstep0;have q8:=(List.getElem?_set_ne htB (a:=(⟨nx4+1,108,1,a0c (a0u t x)⟩:VObj))).trans ((List.getElem?_set_ne (htg d hdr) (a:=(⟨(g d).2,108,1,a0c (orL (m.getD d []) x)⟩:VObj))).trans q7);simp only[go_sem,List.length_range,q8];have hul:=a2T t;refine VCall.of_contract (a5D t).old (SleL.pure rfl) fun y hy=>?_;subst hy;simp only[go_sem,List.length_range]
    refine a0r (fun y:CQ=>⟨[(2,.ptr H.length nx 0),(3,.ptr (H.length+1) (nx+1) 0),(6,.ref Hb.length (nx+1+1) 0 f.r),(8,.ref H1.length nx1 0 (rl f.r)),(58,b5e f.bks),(59,I f.n),(60,I b),(12,.ptr H4.length nx4 0),(13,.ref (H4.length+1) (nx4+1) 0 (rl f.r)),(14,I ((bk.ins.length:Int)-1-k)),(111,a2t (a0l t)),(112,I (a0l t).length),(113,I y.i)],y.H,y.nx⟩)
     (fun y=>y.i≤(a0l t).length∧CS f L Hb y.H (nx+1+1) g (m.set d (orL (m.getD d []) x)) H1.length nx1 (orL iw x)∧y.H[H4.length]? = some ⟨nx4,56,1,bkL bk⟩∧y.H[H4.length+1]? = some ⟨nx4+1,108,1,a0c (a3W (a0u t x) ((a0l t).take y.i))⟩) (fun y=>(a0l t).length-y.i) ⟨0,_,g,[],[],_⟩
     (Wk.mk (by simp[a0a]) ⟨[],(List.append_nil _).symm⟩ (Nat.le_refl _)) ⟨Nat.zero_le _,hu1,hu2,hu3⟩ ?_
    rintro ⟨j,H8,g8,m8,iw8,nx8⟩ ⟨a1,a2,a3,a4⟩;simp only at a1 a2 a3 a4;by_cases hj:j<(a0l t).length
    ·obtain ⟨g1,g2⟩:=hrt.1 _ (a0q hj);have htk:=a2U (a0u t x) (a0l t) hj;have hyl:(a3W (a0u t x) ((a0l t).take j)).length=f.r:=by rw[a2c,a1J];exact hxl
     simp only[go_sem,List.length_range,eq_true (show (j:Int)<((a0l t).length:Int) by omega)]
     repeat ((with_reducible refine And.intro ?_ ?_);· first | omega | (simp;omega))
     refine a8w (a3W (a0u t x) ((a0l t).take j)) ((a0l t).getD j default) H8 nx8 (H4.length+1) (nx4+1) (rl f.r) (by rw[hyl]) (by omega) (by omega) a4 _ fun r=>?_;rw[← htk];simp only[go_sem,List.length_range];rw[a0e (by omega) (by omega)];exact ⟨⟨j+1,_,g,[],[],nx8⟩,⟨by simp only;omega,a2.other hBk hBt hBg hBW _,by rw[List.getElem?_set_ne (of_eq_false hn1)];exact a3,a0N a4⟩,by simp only;omega,Wk.mk (by simp[a0a]) ⟨[],(List.append_nil _).symm⟩ (Nat.le_refl _)⟩
    ·simp only[go_sem,List.length_range,eq_false (show ¬ (j:Int)<((a0l t).length:Int) by omega)];rw[List.take_of_length_le (by omega)]at a4;have hst:=a3X bk out hk2;rw[hti,hxd]at hst;have hbk:a3W (a0u t x) (a0l t)=atL bk out (k+1):=hst;rw[hbk]at a4;rw[a0e (by omega) (by omega)];exact ⟨⟨k+1,H8,g,(m.set d (orL (m.getD d []) x)),(orL iw x),nx8⟩,⟨by simp only;omega,a2,hstep,a3,a4⟩,by simp only;omega,Wk.mk (by simp[a0a];omega) ⟨[],(List.append_nil _).symm⟩ (Nat.le_refl _)⟩
   ·have hsT:¬ a0m t:=fun h=>by
     apply hd;have:=hrt.2 h;unfold a0n;rw[if_pos h];omega
    have hcl':a0u t x=x:=by unfold a0u;rw[if_neg hd]
    rw[if_neg hsT]at hstep0;have hstep:=hstep0;have hu1:=c7;have hu2:=k7;have hu3:=(b7).trans (show some (⟨nx4+1,108,1,a0c x⟩:VObj)=some ⟨nx4+1,108,1,a0c (a3W (a0u t x) ((a0l t).take 0))⟩ by rw[hcl'];rfl);simp only[go_sem,List.length_range,eq_false hd,q7];have hul:=a2T t;refine VCall.of_contract (a5D t).old (SleL.pure rfl) fun y hy=>?_;subst hy;simp only[go_sem,List.length_range];refine a0r (fun y:CQ=>⟨[(2,.ptr H.length nx 0),(3,.ptr (H.length+1) (nx+1) 0),(6,.ref Hb.length (nx+1+1) 0 f.r),(8,.ref H1.length nx1 0 (rl f.r)),(58,b5e f.bks),(59,I f.n),(60,I b),(12,.ptr H4.length nx4 0),(13,.ref (H4.length+1) (nx4+1) 0 (rl f.r)),(14,I ((bk.ins.length:Int)-1-k)),(111,a2t (a0l t)),(112,I (a0l t).length),(113,I y.i)],y.H,y.nx⟩)
     (fun y=>y.i≤(a0l t).length∧CS f L Hb y.H (nx+1+1) g m H1.length nx1 (orL iw x)∧y.H[H4.length]? = some ⟨nx4,56,1,bkL bk⟩∧y.H[H4.length+1]? = some ⟨nx4+1,108,1,a0c (a3W (a0u t x) ((a0l t).take y.i))⟩) (fun y=>(a0l t).length-y.i) ⟨0,_,g,[],[],_⟩
     (Wk.mk (by simp[a0a]) ⟨[],(List.append_nil _).symm⟩ (Nat.le_refl _)) ⟨Nat.zero_le _,hu1,hu2,hu3⟩ ?_
    rintro ⟨j,H8,g8,m8,iw8,nx8⟩ ⟨a1,a2,a3,a4⟩;simp only at a1 a2 a3 a4;by_cases hj:j<(a0l t).length
    ·obtain ⟨g1,g2⟩:=hrt.1 _ (a0q hj);have htk:=a2U (a0u t x) (a0l t) hj;have hyl:(a3W (a0u t x) ((a0l t).take j)).length=f.r:=by rw[a2c,a1J];exact hxl
     simp only[go_sem,List.length_range,eq_true (show (j:Int)<((a0l t).length:Int) by omega)]
     repeat ((with_reducible refine And.intro ?_ ?_);· first | omega | (simp;omega))
     refine a8w (a3W (a0u t x) ((a0l t).take j)) ((a0l t).getD j default) H8 nx8 (H4.length+1) (nx4+1) (rl f.r) (by rw[hyl]) (by omega) (by omega) a4 _ fun r=>?_;rw[← htk];simp only[go_sem,List.length_range];rw[a0e (by omega) (by omega)];exact ⟨⟨j+1,_,g,[],[],nx8⟩,⟨by simp only;omega,a2.other hBk hBt hBg hBW _,by rw[List.getElem?_set_ne (of_eq_false hn1)];exact a3,a0N a4⟩,by simp only;omega,Wk.mk (by simp[a0a]) ⟨[],(List.append_nil _).symm⟩ (Nat.le_refl _)⟩
    ·simp only[go_sem,List.length_range,eq_false (show ¬ (j:Int)<((a0l t).length:Int) by omega)];rw[List.take_of_length_le (by omega)]at a4;have hst:=a3X bk out hk2;rw[hti,hxd]at hst;have hbk:a3W (a0u t x) (a0l t)=atL bk out (k+1):=hst;rw[hbk]at a4;rw[a0e (by omega) (by omega)];exact ⟨⟨k+1,H8,g,m,(orL iw x),nx8⟩,⟨by simp only;omega,a2,hstep,a3,a4⟩,by simp only;omega,Wk.mk (by simp[a0a];omega) ⟨[],(List.append_nil _).symm⟩ (Nat.le_refl _)⟩
  ·rw[if_neg ho]at hstep0;simp only[go_sem,List.length_range,r4,t6,c7c,c7C,e1,hti,eq_false ho,eq_true (show (0:Int)≤(bk.ins.length:Int)-1-k by omega)]
   repeat ((with_reducible refine And.intro ?_ ?_);· first | omega | (simp;omega))
   have q7:=t6;refine VCall.of_contract (b2Y t) (SleL.pure rfl) fun y hy=>?_;subst hy;have htb7:=c6.tb;by_cases hd:0≤a0n t
   ·have hsT:a0m t:=by
     unfold a0n at hd;by_cases h:a0m t
     ·exact h
     ·rw[if_neg h]at hd;omega
    have hsd:a0n t=t.d:=if_pos hsT;have hdl:=hrt.2 hsT;obtain ⟨d,hdd⟩:∃ d:Nat,t.d=(d:Int):=⟨t.d.toNat,by omega⟩
    have hdr:d<f.r:=by omega
    have hmd:=c6.ln d hdr;simp only[go_sem,List.length_range,hsd,hdd,htb7,a4q,eq_true (show (0:Int)≤(d:Int) by omega)]
    repeat ((with_reducible refine And.intro ?_ ?_);· first | omega | (simp;omega))
    refine a5K (m.getD d []) x _ _ (g d).1 (g d).2 (H4.length+1) (nx4+1) (rl f.r) (by rw[hmd]) (by omega) (by omega) (c6.rw d hdr) b6 (hBg d hdr) _ ?_;have hol:(orL (m.getD d []) x).length=f.r:=by rw[a2j];exact hmd
    have hc7:=c6.setR hdr (orL (m.getD d []) x) hol;have hkg:(g d).1≠H4.length:=fun e=>by have:=c6.rw d hdr;rw[e,k6]at this;simp at this
    have hK7:=(List.getElem?_set_ne hkg (a:=(⟨(g d).2,108,1,a0c (orL (m.getD d []) x)⟩:VObj))).trans k6;have hB7:=(List.getElem?_set_ne (hBg d hdr) (a:=(⟨(g d).2,108,1,a0c (orL (m.getD d []) x)⟩:VObj))).trans b6;simp only[go_sem,List.length_range,hsd,hdd];refine b5r x d _ _ (H4.length+1) (nx4+1) (rl f.r) (by rw[hxl]) (by omega) (by omega) hB7 _ fun r=>?_;have hcl':a0u t x=x.set d false:=by unfold a0u;rw[if_pos hd,hsd,hdd,Int.toNat_natCast]
    rw[Int.toNat_natCast,← hcl'];have hu1:=hc7.other hBk hBt hBg hBW (⟨nx4+1,108,1,a0c (a0u t x)⟩:VObj);have hu2:=(List.getElem?_set_ne (of_eq_false hn1) (a:=(⟨nx4+1,108,1,a0c (a0u t x)⟩:VObj))).trans hK7;have hu3:=a0N (x:=(⟨nx4+1,108,1,a0c (a0u t x)⟩:VObj)) hB7;rw[if_pos hsT,hdd,Int.toNat_natCast]at hstep0;have hstep:=hstep0;have q8:=(List.getElem?_set_ne htB (a:=(⟨nx4+1,108,1,a0c (a0u t x)⟩:VObj))).trans ((List.getElem?_set_ne (htg d hdr) (a:=(⟨(g d).2,108,1,a0c (orL (m.getD d []) x)⟩:VObj))).trans q7);simp only[go_sem,List.length_range,q8];have hul:=a2T t;refine VCall.of_contract (a5D t).old (SleL.pure rfl) fun y hy=>?_;subst hy;simp only[go_sem,List.length_range]
    refine a0r (fun y:CQ=>⟨[(2,.ptr H.length nx 0),(3,.ptr (H.length+1) (nx+1) 0),(6,.ref Hb.length (nx+1+1) 0 f.r),(8,.ref H1.length nx1 0 (rl f.r)),(58,b5e f.bks),(59,I f.n),(60,I b),(12,.ptr H4.length nx4 0),(13,.ref (H4.length+1) (nx4+1) 0 (rl f.r)),(14,I ((bk.ins.length:Int)-1-k)),(111,a2t (a0l t)),(112,I (a0l t).length),(113,I y.i)],y.H,y.nx⟩)
     (fun y=>y.i≤(a0l t).length∧CS f L Hb y.H (nx+1+1) g (m.set d (orL (m.getD d []) x)) H1.length nx1 iw∧y.H[H4.length]? = some ⟨nx4,56,1,bkL bk⟩∧y.H[H4.length+1]? = some ⟨nx4+1,108,1,a0c (a3W (a0u t x) ((a0l t).take y.i))⟩) (fun y=>(a0l t).length-y.i) ⟨0,_,g,[],[],_⟩
     (Wk.mk (by simp[a0a]) ⟨[],(List.append_nil _).symm⟩ (Nat.le_refl _)) ⟨Nat.zero_le _,hu1,hu2,hu3⟩ ?_
    rintro ⟨j,H8,g8,m8,iw8,nx8⟩ ⟨a1,a2,a3,a4⟩;simp only at a1 a2 a3 a4;by_cases hj:j<(a0l t).length
    ·obtain ⟨g1,g2⟩:=hrt.1 _ (a0q hj);have htk:=a2U (a0u t x) (a0l t) hj;have hyl:(a3W (a0u t x) ((a0l t).take j)).length=f.r:=by rw[a2c,a1J];exact hxl
     simp only[go_sem,List.length_range,eq_true (show (j:Int)<((a0l t).length:Int) by omega)]
     repeat ((with_reducible refine And.intro ?_ ?_);· first | omega | (simp;omega))
     refine a8w (a3W (a0u t x) ((a0l t).take j)) ((a0l t).getD j default) H8 nx8 (H4.length+1) (nx4+1) (rl f.r) (by rw[hyl]) (by omega) (by omega) a4 _ fun r=>?_;rw[← htk];simp only[go_sem,List.length_range];rw[a0e (by omega) (by omega)];exact ⟨⟨j+1,_,g,[],[],nx8⟩,⟨by simp only;omega,a2.other hBk hBt hBg hBW _,by rw[List.getElem?_set_ne (of_eq_false hn1)];exact a3,a0N a4⟩,by simp only;omega,Wk.mk (by simp[a0a]) ⟨[],(List.append_nil _).symm⟩ (Nat.le_refl _)⟩
    ·simp only[go_sem,List.length_range,eq_false (show ¬ (j:Int)<((a0l t).length:Int) by omega)];rw[List.take_of_length_le (by omega)]at a4;have hst:=a3X bk out hk2;rw[hti,hxd]at hst;have hbk:a3W (a0u t x) (a0l t)=atL bk out (k+1):=hst;rw[hbk]at a4;rw[a0e (by omega) (by omega)];exact ⟨⟨k+1,H8,g,(m.set d (orL (m.getD d []) x)),iw,nx8⟩,⟨by simp only;omega,a2,hstep,a3,a4⟩,by simp only;omega,Wk.mk (by simp[a0a];omega) ⟨[],(List.append_nil _).symm⟩ (Nat.le_refl _)⟩
   ·have hsT:¬ a0m t:=fun h=>by
     apply hd;have:=hrt.2 h;unfold a0n;rw[if_pos h];omega
    have hcl':a0u t x=x:=by unfold a0u;rw[if_neg hd]
    rw[if_neg hsT]at hstep0;have hstep:=hstep0;have hu1:=c6;have hu2:=k6;have hu3:=(b6).trans (show some (⟨nx4+1,108,1,a0c x⟩:VObj)=some ⟨nx4+1,108,1,a0c (a3W (a0u t x) ((a0l t).take 0))⟩ by rw[hcl'];rfl);simp only[go_sem,List.length_range,eq_false hd,q7];have hul:=a2T t;refine VCall.of_contract (a5D t).old (SleL.pure rfl) fun y hy=>?_;subst hy;simp only[go_sem,List.length_range];refine a0r (fun y:CQ=>⟨[(2,.ptr H.length nx 0),(3,.ptr (H.length+1) (nx+1) 0),(6,.ref Hb.length (nx+1+1) 0 f.r),(8,.ref H1.length nx1 0 (rl f.r)),(58,b5e f.bks),(59,I f.n),(60,I b),(12,.ptr H4.length nx4 0),(13,.ref (H4.length+1) (nx4+1) 0 (rl f.r)),(14,I ((bk.ins.length:Int)-1-k)),(111,a2t (a0l t)),(112,I (a0l t).length),(113,I y.i)],y.H,y.nx⟩)
     (fun y=>y.i≤(a0l t).length∧CS f L Hb y.H (nx+1+1) g m H1.length nx1 iw∧y.H[H4.length]? = some ⟨nx4,56,1,bkL bk⟩∧y.H[H4.length+1]? = some ⟨nx4+1,108,1,a0c (a3W (a0u t x) ((a0l t).take y.i))⟩) (fun y=>(a0l t).length-y.i) ⟨0,_,g,[],[],_⟩
     (Wk.mk (by simp[a0a]) ⟨[],(List.append_nil _).symm⟩ (Nat.le_refl _)) ⟨Nat.zero_le _,hu1,hu2,hu3⟩ ?_
    rintro ⟨j,H8,g8,m8,iw8,nx8⟩ ⟨a1,a2,a3,a4⟩;simp only at a1 a2 a3 a4;by_cases hj:j<(a0l t).length
    ·obtain ⟨g1,g2⟩:=hrt.1 _ (a0q hj);have htk:=a2U (a0u t x) (a0l t) hj;have hyl:(a3W (a0u t x) ((a0l t).take j)).length=f.r:=by rw[a2c,a1J];exact hxl
     simp only[go_sem,List.length_range,eq_true (show (j:Int)<((a0l t).length:Int) by omega)]
     repeat ((with_reducible refine And.intro ?_ ?_);· first | omega | (simp;omega))
     refine a8w (a3W (a0u t x) ((a0l t).take j)) ((a0l t).getD j default) H8 nx8 (H4.length+1) (nx4+1) (rl f.r) (by rw[hyl]) (by omega) (by omega) a4 _ fun r=>?_;rw[← htk];simp only[go_sem,List.length_range];rw[a0e (by omega) (by omega)];exact ⟨⟨j+1,_,g,[],[],nx8⟩,⟨by simp only;omega,a2.other hBk hBt hBg hBW _,by rw[List.getElem?_set_ne (of_eq_false hn1)];exact a3,a0N a4⟩,by simp only;omega,Wk.mk (by simp[a0a]) ⟨[],(List.append_nil _).symm⟩ (Nat.le_refl _)⟩
    ·simp only[go_sem,List.length_range,eq_false (show ¬ (j:Int)<((a0l t).length:Int) by omega)];rw[List.take_of_length_le (by omega)]at a4;have hst:=a3X bk out hk2;rw[hti,hxd]at hst;have hbk:a3W (a0u t x) (a0l t)=atL bk out (k+1):=hst;rw[hbk]at a4;rw[a0e (by omega) (by omega)];exact ⟨⟨k+1,H8,g,m,iw,nx8⟩,⟨by simp only;omega,a2,hstep,a3,a4⟩,by simp only;omega,Wk.mk (by simp[a0a];omega) ⟨[],(List.append_nil _).symm⟩ (Nat.le_refl _)⟩
 ·simp only[go_sem,List.length_range,hK5,hlen4,eq_false he,hw0];have h1:=hc5;have h2:=hK5;have h3:H5[H4.length+1]? = some (⟨nx4+1,108,1,a0c (a8Q bk out)⟩:VObj):=by rw[b9h he];exact hB5
  refine a0r (fun y:CQ=>⟨[(2,.ptr H.length nx 0),(3,.ptr (H.length+1) (nx+1) 0),(6,.ref Hb.length (nx+1+1) 0 f.r),(8,.ref H1.length nx1 0 (rl f.r)),(58,b5e f.bks),(59,I f.n),(60,I b),(12,.ptr H4.length nx4 0),(13,.ref (H4.length+1) (nx4+1) 0 (rl f.r)),(14,I ((bk.ins.length:Int)-1-y.i))],y.H,y.nx⟩)
   (fun y=>y.i≤bk.ins.length∧CS f L Hb y.H (nx+1+1) g y.m H1.length nx1 y.iw∧CVA f L y.m y.iw (fun c i=>c<b∨(c=b∧bk.ins.length≤i+y.i))∧y.H[H4.length]? = some ⟨nx4,56,1,bkL bk⟩∧y.H[H4.length+1]? = some ⟨nx4+1,108,1,a0c (atL bk out y.i)⟩) (fun y=>bk.ins.length-y.i) ⟨0,_,g,m,iw,_⟩
   (Wk.mk (by simp[a0a,hw0,hlo]) ⟨[],(List.append_nil _).symm⟩ (Nat.le_refl _)) ⟨Nat.zero_le _,h1,⟨u3.ap,fun c hc i hi hp=>u3.st c hc i hi (hp.resolve_right fun e=>by obtain ⟨rfl,e2⟩:=e;rw[hbkd]at hi;simp only at e2;omega),fun c hc i hi hp=>u3.ca c hc i hi (hp.resolve_right fun e=>by obtain ⟨rfl,e2⟩:=e;rw[hbkd]at hi;simp only at e2;omega)⟩,h2,by rw[b5n];exact h3⟩ ?_
  rintro ⟨k,H6,g6,m,iw,nx6⟩ ⟨r1,r2,r3,r4,r5⟩;simp only at r1 r2 r3 r4 r5;by_cases hk2:k<bk.ins.length
  case neg =>
   obtain rfl:k=bk.ins.length:=by omega
   simp only[go_sem,List.length_range,eq_false (show ¬ (0:Int)≤(bk.ins.length:Int)-1-bk.ins.length by omega)];rw[a0e (by omega) (by omega)];exact ⟨⟨b+1,H6,g,m,iw,nx6⟩,⟨by simp only;omega,r2,⟨r3.ap,fun c hc i hi hp=>r3.st c hc i hi (by simp only at hp;by_cases e:c=b;exact .inr ⟨e,by omega⟩;exact .inl (by omega)),fun c hc i hi hp=>r3.ca c hc i hi (by simp only at hp;by_cases e:c=b;exact .inr ⟨e,by omega⟩;exact .inl (by omega))⟩⟩,by simp only;omega,Wk.mk (by simp[a0a]) ⟨[],(List.append_nil _).symm⟩ (Nat.le_refl _)⟩
  have e1:((bk.ins.length:Int)-1-k).toNat=bk.ins.length-k-1:=by omega
  have hmt:=a0q (show bk.ins.length-k-1<bk.ins.length by omega);have hrt:=hrg.1 _ hmt;have hbg:=a5L bk out (show bk.ins.length-k-1<bk.ins.length by omega);rw[show bk.ins.length-k-1+1=bk.ins.length-k by omega]at hbg;have hxl:=b8j bk out k;rw[hlo]at hxl;obtain ⟨x,hxd⟩:∃ x,atL bk out k=x:=⟨_,rfl⟩
  replace hbg:(a5E bk out).getD (bk.ins.length-k-1) default=x:=hbg.trans hxd;rw[hxd]at r5 hxl;obtain ⟨t,hti⟩:∃ t,bk.ins.getD (bk.ins.length-k-1) default=t:=⟨_,rfl⟩
  rw[hti,hlo]at hrt;have hstep0:=CVA.step hf hs r3 r2.ml r2.ln r2.il hb (i0:=bk.ins.length-k-1) (by rw[hbkd];omega) x (by rw[hbkd,hout];exact hbg.symm) (P':=fun c i=>c<b∨(c=b∧bk.ins.length≤i+(k+1))) (fun c i hp=>by
   rcases hp with hp | ⟨hp1,hp2⟩
   ·exact .inl (.inl hp)
   ·by_cases e:i=bk.ins.length-k-1
    ·exact .inr ⟨hp1,e⟩
    ·exact .inl (.inr ⟨hp1,by omega⟩)) t (by rw[hbkd];exact hti)
  have c6:=r2.app [(⟨nx6,95,1,a8s t⟩:VObj)];have k6:=a0p r4 [(⟨nx6,95,1,a8s t⟩:VObj)];have b6:=a0p r5 [(⟨nx6,95,1,a8s t⟩:VObj)];have t6:(H6++[(⟨nx6,95,1,a8s t⟩:VObj)])[H6.length]? = some ⟨nx6,95,1,a8s t⟩:=by simp
  have htg:∀ c<f.r,(g c).1≠H6.length:=fun c hc=>by have:=(List.getElem?_eq_some_iff.1 (r2.rw c hc)).1;omega
  have htW:H1.length≠H6.length:=by have:=(List.getElem?_eq_some_iff.1 r2.w).1;omega
  have htB:H4.length+1≠H6.length:=by have:=(List.getElem?_eq_some_iff.1 r5).1;omega
  by_cases ho:t.op=10
  ·rw[if_pos ho]at hstep0;simp only[go_sem,List.length_range,r4,t6,c7c,c7C,e1,hti,eq_true ho,eq_true (show (0:Int)≤(bk.ins.length:Int)-1-k by omega)]
   repeat ((with_reducible refine And.intro ?_ ?_);· first | omega | (simp;omega))
   have hil:=r2.il;refine a5K iw x _ _ H1.length nx1 (H4.length+1) (nx4+1) (rl f.r) (by rw[hil]) (by omega) (by omega) c6.w b6 hBW _ ?_;have hol6:(orL iw x).length=f.r:=by rw[a2j];exact hil
   have c7:=c6.setW (orL iw x) hol6;have hkW:H1.length≠H4.length:=fun e=>by have:=c6.w;rw[e,k6]at this;simp at this
   have k7:=(List.getElem?_set_ne hkW (a:=(⟨nx1,108,1,a0c (orL iw x)⟩:VObj))).trans k6;have b7:=(List.getElem?_set_ne hBW (a:=(⟨nx1,108,1,a0c (orL iw x)⟩:VObj))).trans b6;have q7:=(List.getElem?_set_ne htW (a:=(⟨nx1,108,1,a0c (orL iw x)⟩:VObj))).trans t6;simp only[go_sem,List.length_range,q7];refine VCall.of_contract (b2Y t) (SleL.pure rfl) fun y hy=>?_;subst hy;have htb7:=c7.tb;by_cases hd:0≤a0n t
   ·have hsT:a0m t:=by
     unfold a0n at hd;by_cases h:a0m t
     ·exact h
     ·rw[if_neg h]at hd;omega
    have hsd:a0n t=t.d:=if_pos hsT;have hdl:=hrt.2 hsT;obtain ⟨d,hdd⟩:∃ d:Nat,t.d=(d:Int):=⟨t.d.toNat,by omega⟩
    have hdr:d<f.r:=by omega
    have hmd:=c7.ln d hdr;simp only[go_sem,List.length_range,hsd,hdd,htb7,a4q,eq_true (show (0:Int)≤(d:Int) by omega)]
    repeat ((with_reducible refine And.intro ?_ ?_);· first | omega | (simp;omega))
    refine a5K (m.getD d []) x _ _ (g d).1 (g d).2 (H4.length+1) (nx4+1) (rl f.r) (by rw[hmd]) (by omega) (by omega) (c7.rw d hdr) b7 (hBg d hdr) _ ?_;have hol:(orL (m.getD d []) x).length=f.r:=by rw[a2j];exact hmd
    have hc7:=c7.setR hdr (orL (m.getD d []) x) hol;have hkg:(g d).1≠H4.length:=fun e=>by have:=c7.rw d hdr;rw[e,k7]at this;simp at this
    have hK7:=(List.getElem?_set_ne hkg (a:=(⟨(g d).2,108,1,a0c (orL (m.getD d []) x)⟩:VObj))).trans k7;have hB7:=(List.getElem?_set_ne (hBg d hdr) (a:=(⟨(g d).2,108,1,a0c (orL (m.getD d []) x)⟩:VObj))).trans b7;simp only[go_sem,List.length_range,hsd,hdd];refine b5r x d _ _ (H4.length+1) (nx4+1) (rl f.r) (by rw[hxl]) (by omega) (by omega) hB7 _ fun r=>?_;have hcl':a0u t x=x.set d false:=by unfold a0u;rw[if_pos hd,hsd,hdd,Int.toNat_natCast]
    rw[Int.toNat_natCast,← hcl'];have hu1:=hc7.other hBk hBt hBg hBW (⟨nx4+1,108,1,a0c (a0u t x)⟩:VObj);have hu2:=(List.getElem?_set_ne (of_eq_false hn1) (a:=(⟨nx4+1,108,1,a0c (a0u t x)⟩:VObj))).trans hK7;have hu3:=a0N (x:=(⟨nx4+1,108,1,a0c (a0u t x)⟩:VObj)) hB7;rw[if_pos hsT,hdd,Int.toNat_natCast]at hstep0;have hstep:=hstep0;have q8:=(List.getElem?_set_ne htB (a:=(⟨nx4+1,108,1,a0c (a0u t x)⟩:VObj))).trans ((List.getElem?_set_ne (htg d hdr) (a:=(⟨(g d).2,108,1,a0c (orL (m.getD d []) x)⟩:VObj))).trans q7);simp only[go_sem,List.length_range,q8];have hul:=a2T t;refine VCall.of_contract (a5D t).old (SleL.pure rfl) fun y hy=>?_;subst hy;simp only[go_sem,List.length_range]
    refine a0r (fun y:CQ=>⟨[(2,.ptr H.length nx 0),(3,.ptr (H.length+1) (nx+1) 0),(6,.ref Hb.length (nx+1+1) 0 f.r),(8,.ref H1.length nx1 0 (rl f.r)),(58,b5e f.bks),(59,I f.n),(60,I b),(12,.ptr H4.length nx4 0),(13,.ref (H4.length+1) (nx4+1) 0 (rl f.r)),(14,I ((bk.ins.length:Int)-1-k)),(111,a2t (a0l t)),(112,I (a0l t).length),(113,I y.i)],y.H,y.nx⟩)
     (fun y=>y.i≤(a0l t).length∧CS f L Hb y.H (nx+1+1) g (m.set d (orL (m.getD d []) x)) H1.length nx1 (orL iw x)∧y.H[H4.length]? = some ⟨nx4,56,1,bkL bk⟩∧y.H[H4.length+1]? = some ⟨nx4+1,108,1,a0c (a3W (a0u t x) ((a0l t).take y.i))⟩) (fun y=>(a0l t).length-y.i) ⟨0,_,g,[],[],_⟩
     (Wk.mk (by simp[a0a]) ⟨[],(List.append_nil _).symm⟩ (Nat.le_refl _)) ⟨Nat.zero_le _,hu1,hu2,hu3⟩ ?_
    rintro ⟨j,H8,g8,m8,iw8,nx8⟩ ⟨a1,a2,a3,a4⟩;simp only at a1 a2 a3 a4;by_cases hj:j<(a0l t).length
    ·obtain ⟨g1,g2⟩:=hrt.1 _ (a0q hj);have htk:=a2U (a0u t x) (a0l t) hj;have hyl:(a3W (a0u t x) ((a0l t).take j)).length=f.r:=by rw[a2c,a1J];exact hxl
     simp only[go_sem,List.length_range,eq_true (show (j:Int)<((a0l t).length:Int) by omega)]
     repeat ((with_reducible refine And.intro ?_ ?_);· first | omega | (simp;omega))
     refine a8w (a3W (a0u t x) ((a0l t).take j)) ((a0l t).getD j default) H8 nx8 (H4.length+1) (nx4+1) (rl f.r) (by rw[hyl]) (by omega) (by omega) a4 _ fun r=>?_;rw[← htk];simp only[go_sem,List.length_range];rw[a0e (by omega) (by omega)];exact ⟨⟨j+1,_,g,[],[],nx8⟩,⟨by simp only;omega,a2.other hBk hBt hBg hBW _,by rw[List.getElem?_set_ne (of_eq_false hn1)];exact a3,a0N a4⟩,by simp only;omega,Wk.mk (by simp[a0a]) ⟨[],(List.append_nil _).symm⟩ (Nat.le_refl _)⟩
    ·simp only[go_sem,List.length_range,eq_false (show ¬ (j:Int)<((a0l t).length:Int) by omega)];rw[List.take_of_length_le (by omega)]at a4;have hst:=a3X bk out hk2;rw[hti,hxd]at hst;have hbk:a3W (a0u t x) (a0l t)=atL bk out (k+1):=hst;rw[hbk]at a4;rw[a0e (by omega) (by omega)];exact ⟨⟨k+1,H8,g,(m.set d (orL (m.getD d []) x)),(orL iw x),nx8⟩,⟨by simp only;omega,a2,hstep,a3,a4⟩,by simp only;omega,Wk.mk (by simp[a0a];omega) ⟨[],(List.append_nil _).symm⟩ (Nat.le_refl _)⟩
   ·have hsT:¬ a0m t:=fun h=>by
     apply hd;have:=hrt.2 h;unfold a0n;rw[if_pos h];omega
    have hcl':a0u t x=x:=by unfold a0u;rw[if_neg hd]
    rw[if_neg hsT]at hstep0;have hstep:=hstep0;have hu1:=c7;have hu2:=k7;have hu3:=(b7).trans (show some (⟨nx4+1,108,1,a0c x⟩:VObj)=some ⟨nx4+1,108,1,a0c (a3W (a0u t x) ((a0l t).take 0))⟩ by rw[hcl'];rfl);simp only[go_sem,List.length_range,eq_false hd,q7];have hul:=a2T t;refine VCall.of_contract (a5D t).old (SleL.pure rfl) fun y hy=>?_;subst hy;simp only[go_sem,List.length_range];refine a0r (fun y:CQ=>⟨[(2,.ptr H.length nx 0),(3,.ptr (H.length+1) (nx+1) 0),(6,.ref Hb.length (nx+1+1) 0 f.r),(8,.ref H1.length nx1 0 (rl f.r)),(58,b5e f.bks),(59,I f.n),(60,I b),(12,.ptr H4.length nx4 0),(13,.ref (H4.length+1) (nx4+1) 0 (rl f.r)),(14,I ((bk.ins.length:Int)-1-k)),(111,a2t (a0l t)),(112,I (a0l t).length),(113,I y.i)],y.H,y.nx⟩)
     (fun y=>y.i≤(a0l t).length∧CS f L Hb y.H (nx+1+1) g m H1.length nx1 (orL iw x)∧y.H[H4.length]? = some ⟨nx4,56,1,bkL bk⟩∧y.H[H4.length+1]? = some ⟨nx4+1,108,1,a0c (a3W (a0u t x) ((a0l t).take y.i))⟩) (fun y=>(a0l t).length-y.i) ⟨0,_,g,[],[],_⟩
     (Wk.mk (by simp[a0a]) ⟨[],(List.append_nil _).symm⟩ (Nat.le_refl _)) ⟨Nat.zero_le _,hu1,hu2,hu3⟩ ?_
    rintro ⟨j,H8,g8,m8,iw8,nx8⟩ ⟨a1,a2,a3,a4⟩;simp only at a1 a2 a3 a4;by_cases hj:j<(a0l t).length
    ·obtain ⟨g1,g2⟩:=hrt.1 _ (a0q hj);have htk:=a2U (a0u t x) (a0l t) hj;have hyl:(a3W (a0u t x) ((a0l t).take j)).length=f.r:=by rw[a2c,a1J];exact hxl
     simp only[go_sem,List.length_range,eq_true (show (j:Int)<((a0l t).length:Int) by omega)]
     repeat ((with_reducible refine And.intro ?_ ?_);· first | omega | (simp;omega))
     refine a8w (a3W (a0u t x) ((a0l t).take j)) ((a0l t).getD j default) H8 nx8 (H4.length+1) (nx4+1) (rl f.r) (by rw[hyl]) (by omega) (by omega) a4 _ fun r=>?_;rw[← htk];simp only[go_sem,List.length_range];rw[a0e (by omega) (by omega)];exact ⟨⟨j+1,_,g,[],[],nx8⟩,⟨by simp only;omega,a2.other hBk hBt hBg hBW _,by rw[List.getElem?_set_ne (of_eq_false hn1)];exact a3,a0N a4⟩,by simp only;omega,Wk.mk (by simp[a0a]) ⟨[],(List.append_nil _).symm⟩ (Nat.le_refl _)⟩
    ·simp only[go_sem,List.length_range,eq_false (show ¬ (j:Int)<((a0l t).length:Int) by omega)];rw[List.take_of_length_le (by omega)]at a4;have hst:=a3X bk out hk2;rw[hti,hxd]at hst;have hbk:a3W (a0u t x) (a0l t)=atL bk out (k+1):=hst;rw[hbk]at a4;rw[a0e (by omega) (by omega)];exact ⟨⟨k+1,H8,g,m,(orL iw x),nx8⟩,⟨by simp only;omega,a2,hstep,a3,a4⟩,by simp only;omega,Wk.mk (by simp[a0a];omega) ⟨[],(List.append_nil _).symm⟩ (Nat.le_refl _)⟩
  ·rw[if_neg ho]at hstep0;simp only[go_sem,List.length_range,r4,t6,c7c,c7C,e1,hti,eq_false ho,eq_true (show (0:Int)≤(bk.ins.length:Int)-1-k by omega)]
   repeat ((with_reducible refine And.intro ?_ ?_);· first | omega | (simp;omega))
   have q7:=t6;refine VCall.of_contract (b2Y t) (SleL.pure rfl) fun y hy=>?_;subst hy;have htb7:=c6.tb;by_cases hd:0≤a0n t
   ·have hsT:a0m t:=by
     unfold a0n at hd;by_cases h:a0m t
     ·exact h
     ·rw[if_neg h]at hd;omega
    have hsd:a0n t=t.d:=if_pos hsT;have hdl:=hrt.2 hsT;obtain ⟨d,hdd⟩:∃ d:Nat,t.d=(d:Int):=⟨t.d.toNat,by omega⟩
    have hdr:d<f.r:=by omega
    have hmd:=c6.ln d hdr;simp only[go_sem,List.length_range,hsd,hdd,htb7,a4q,eq_true (show (0:Int)≤(d:Int) by omega)]
    repeat ((with_reducible refine And.intro ?_ ?_);· first | omega | (simp;omega))
    refine a5K (m.getD d []) x _ _ (g d).1 (g d).2 (H4.length+1) (nx4+1) (rl f.r) (by rw[hmd]) (by omega) (by omega) (c6.rw d hdr) b6 (hBg d hdr) _ ?_;have hol:(orL (m.getD d []) x).length=f.r:=by rw[a2j];exact hmd
    have hc7:=c6.setR hdr (orL (m.getD d []) x) hol;have hkg:(g d).1≠H4.length:=fun e=>by have:=c6.rw d hdr;rw[e,k6]at this;simp at this
    have hK7:=(List.getElem?_set_ne hkg (a:=(⟨(g d).2,108,1,a0c (orL (m.getD d []) x)⟩:VObj))).trans k6;have hB7:=(List.getElem?_set_ne (hBg d hdr) (a:=(⟨(g d).2,108,1,a0c (orL (m.getD d []) x)⟩:VObj))).trans b6;simp only[go_sem,List.length_range,hsd,hdd];refine b5r x d _ _ (H4.length+1) (nx4+1) (rl f.r) (by rw[hxl]) (by omega) (by omega) hB7 _ fun r=>?_;have hcl':a0u t x=x.set d false:=by unfold a0u;rw[if_pos hd,hsd,hdd,Int.toNat_natCast]
    rw[Int.toNat_natCast,← hcl'];have hu1:=hc7.other hBk hBt hBg hBW (⟨nx4+1,108,1,a0c (a0u t x)⟩:VObj);have hu2:=(List.getElem?_set_ne (of_eq_false hn1) (a:=(⟨nx4+1,108,1,a0c (a0u t x)⟩:VObj))).trans hK7;have hu3:=a0N (x:=(⟨nx4+1,108,1,a0c (a0u t x)⟩:VObj)) hB7;rw[if_pos hsT,hdd,Int.toNat_natCast]at hstep0;have hstep:=hstep0;have q8:=(List.getElem?_set_ne htB (a:=(⟨nx4+1,108,1,a0c (a0u t x)⟩:VObj))).trans ((List.getElem?_set_ne (htg d hdr) (a:=(⟨(g d).2,108,1,a0c (orL (m.getD d []) x)⟩:VObj))).trans q7);simp only[go_sem,List.length_range,q8];have hul:=a2T t;refine VCall.of_contract (a5D t).old (SleL.pure rfl) fun y hy=>?_;subst hy;simp only[go_sem,List.length_range]
    refine a0r (fun y:CQ=>⟨[(2,.ptr H.length nx 0),(3,.ptr (H.length+1) (nx+1) 0),(6,.ref Hb.length (nx+1+1) 0 f.r),(8,.ref H1.length nx1 0 (rl f.r)),(58,b5e f.bks),(59,I f.n),(60,I b),(12,.ptr H4.length nx4 0),(13,.ref (H4.length+1) (nx4+1) 0 (rl f.r)),(14,I ((bk.ins.length:Int)-1-k)),(111,a2t (a0l t)),(112,I (a0l t).length),(113,I y.i)],y.H,y.nx⟩)
     (fun y=>y.i≤(a0l t).length∧CS f L Hb y.H (nx+1+1) g (m.set d (orL (m.getD d []) x)) H1.length nx1 iw∧y.H[H4.length]? = some ⟨nx4,56,1,bkL bk⟩∧y.H[H4.length+1]? = some ⟨nx4+1,108,1,a0c (a3W (a0u t x) ((a0l t).take y.i))⟩) (fun y=>(a0l t).length-y.i) ⟨0,_,g,[],[],_⟩
     (Wk.mk (by simp[a0a]) ⟨[],(List.append_nil _).symm⟩ (Nat.le_refl _)) ⟨Nat.zero_le _,hu1,hu2,hu3⟩ ?_
    rintro ⟨j,H8,g8,m8,iw8,nx8⟩ ⟨a1,a2,a3,a4⟩;simp only at a1 a2 a3 a4;by_cases hj:j<(a0l t).length
    ·obtain ⟨g1,g2⟩:=hrt.1 _ (a0q hj);have htk:=a2U (a0u t x) (a0l t) hj;have hyl:(a3W (a0u t x) ((a0l t).take j)).length=f.r:=by rw[a2c,a1J];exact hxl
     simp only[go_sem,List.length_range,eq_true (show (j:Int)<((a0l t).length:Int) by omega)]
     repeat ((with_reducible refine And.intro ?_ ?_);· first | omega | (simp;omega))
     refine a8w (a3W (a0u t x) ((a0l t).take j)) ((a0l t).getD j default) H8 nx8 (H4.length+1) (nx4+1) (rl f.r) (by rw[hyl]) (by omega) (by omega) a4 _ fun r=>?_;rw[← htk];simp only[go_sem,List.length_range];rw[a0e (by omega) (by omega)];exact ⟨⟨j+1,_,g,[],[],nx8⟩,⟨by simp only;omega,a2.other hBk hBt hBg hBW _,by rw[List.getElem?_set_ne (of_eq_false hn1)];exact a3,a0N a4⟩,by simp only;omega,Wk.mk (by simp[a0a]) ⟨[],(List.append_nil _).symm⟩ (Nat.le_refl _)⟩
    ·simp only[go_sem,List.length_range,eq_false (show ¬ (j:Int)<((a0l t).length:Int) by omega)];rw[List.take_of_length_le (by omega)]at a4;have hst:=a3X bk out hk2;rw[hti,hxd]at hst;have hbk:a3W (a0u t x) (a0l t)=atL bk out (k+1):=hst;rw[hbk]at a4;rw[a0e (by omega) (by omega)];exact ⟨⟨k+1,H8,g,(m.set d (orL (m.getD d []) x)),iw,nx8⟩,⟨by simp only;omega,a2,hstep,a3,a4⟩,by simp only;omega,Wk.mk (by simp[a0a];omega) ⟨[],(List.append_nil _).symm⟩ (Nat.le_refl _)⟩
   ·have hsT:¬ a0m t:=fun h=>by
     apply hd;have:=hrt.2 h;unfold a0n;rw[if_pos h];omega
    have hcl':a0u t x=x:=by unfold a0u;rw[if_neg hd]
    rw[if_neg hsT]at hstep0;have hstep:=hstep0;have hu1:=c6;have hu2:=k6;have hu3:=(b6).trans (show some (⟨nx4+1,108,1,a0c x⟩:VObj)=some ⟨nx4+1,108,1,a0c (a3W (a0u t x) ((a0l t).take 0))⟩ by rw[hcl'];rfl);simp only[go_sem,List.length_range,eq_false hd,q7];have hul:=a2T t;refine VCall.of_contract (a5D t).old (SleL.pure rfl) fun y hy=>?_;subst hy;simp only[go_sem,List.length_range];refine a0r (fun y:CQ=>⟨[(2,.ptr H.length nx 0),(3,.ptr (H.length+1) (nx+1) 0),(6,.ref Hb.length (nx+1+1) 0 f.r),(8,.ref H1.length nx1 0 (rl f.r)),(58,b5e f.bks),(59,I f.n),(60,I b),(12,.ptr H4.length nx4 0),(13,.ref (H4.length+1) (nx4+1) 0 (rl f.r)),(14,I ((bk.ins.length:Int)-1-k)),(111,a2t (a0l t)),(112,I (a0l t).length),(113,I y.i)],y.H,y.nx⟩)
     (fun y=>y.i≤(a0l t).length∧CS f L Hb y.H (nx+1+1) g m H1.length nx1 iw∧y.H[H4.length]? = some ⟨nx4,56,1,bkL bk⟩∧y.H[H4.length+1]? = some ⟨nx4+1,108,1,a0c (a3W (a0u t x) ((a0l t).take y.i))⟩) (fun y=>(a0l t).length-y.i) ⟨0,_,g,[],[],_⟩
     (Wk.mk (by simp[a0a]) ⟨[],(List.append_nil _).symm⟩ (Nat.le_refl _)) ⟨Nat.zero_le _,hu1,hu2,hu3⟩ ?_
    rintro ⟨j,H8,g8,m8,iw8,nx8⟩ ⟨a1,a2,a3,a4⟩;simp only at a1 a2 a3 a4;by_cases hj:j<(a0l t).length
    ·obtain ⟨g1,g2⟩:=hrt.1 _ (a0q hj);have htk:=a2U (a0u t x) (a0l t) hj;have hyl:(a3W (a0u t x) ((a0l t).take j)).length=f.r:=by rw[a2c,a1J];exact hxl
     simp only[go_sem,List.length_range,eq_true (show (j:Int)<((a0l t).length:Int) by omega)]
     repeat ((with_reducible refine And.intro ?_ ?_);· first | omega | (simp;omega))
     refine a8w (a3W (a0u t x) ((a0l t).take j)) ((a0l t).getD j default) H8 nx8 (H4.length+1) (nx4+1) (rl f.r) (by rw[hyl]) (by omega) (by omega) a4 _ fun r=>?_;rw[← htk];simp only[go_sem,List.length_range];rw[a0e (by omega) (by omega)];exact ⟨⟨j+1,_,g,[],[],nx8⟩,⟨by simp only;omega,a2.other hBk hBt hBg hBW _,by rw[List.getElem?_set_ne (of_eq_false hn1)];exact a3,a0N a4⟩,by simp only;omega,Wk.mk (by simp[a0a]) ⟨[],(List.append_nil _).symm⟩ (Nat.le_refl _)⟩
    ·simp only[go_sem,List.length_range,eq_false (show ¬ (j:Int)<((a0l t).length:Int) by omega)];rw[List.take_of_length_le (by omega)]at a4;have hst:=a3X bk out hk2;rw[hti,hxd]at hst;have hbk:a3W (a0u t x) (a0l t)=atL bk out (k+1):=hst;rw[hbk]at a4;rw[a0e (by omega) (by omega)];exact ⟨⟨k+1,H8,g,m,iw,nx8⟩,⟨by simp only;omega,a2,hstep,a3,a4⟩,by simp only;omega,Wk.mk (by simp[a0a];omega) ⟨[],(List.append_nil _).symm⟩ (Nat.le_refl _)⟩
theorem c5P:∀ (k:Nat) (l:List Int),(∀ j:Nat,1≤j→j≤k→-(j:Int) ∈ l)→k≤l.length
 | 0,_,_=>Nat.zero_le _
 | k+1,l,h=>by
  have h1:=h (k+1) (by omega) (Nat.le_refl _);have h2:=c5P k (l.erase (-((k+1:Nat):Int))) fun j h3 h4=>(List.mem_erase_of_ne (by omega)).2 (h j h3 (by omega));rw[List.length_erase_of_mem h1]at h2;have:=List.length_pos_of_mem h1;omega
def clB (m:List (List Bool)) (v u:Nat):Bool:=gB (m.getD v []) u || gB (m.getD u []) v
structure Col (r n:Nat) (m:List (List Bool)) (iw:List Bool) (v:Nat) (pl:List Int):Prop where
 len:pl.length=r
 ok:∀ u<v,(1≤gP pl u∧gP pl u≤n)∨(-((u:Int)+1)≤gP pl u∧gP pl u≤-1)
 ne:∀ u<v,∀ w<u,clB m u w=true→gP pl u≠gP pl w
 wd:∀ u<v,gB iw u=true→gP pl u<0
def gN (l:List Int) (j:Nat):Int:=l.getD j default
structure Mrk (r n:Nat) (m:List (List Bool)) (pl:List Int) (v u:Nat) (ur uw:List Int):Prop where
 rl:ur.length=n+1
 wl:uw.length=r+2
 rg:∀ w<u,clB m v w=true→0<gP pl w→gN ur (gP pl w).toNat=v+1
 wg:∀ w<u,clB m v w=true→gP pl w<0→gN uw (-(gP pl w)).toNat=v+1
 by_:∀ j,1≤j→gN uw j=v+1→∃ w<u,gP pl w = -(j:Int)
 le:∀ j,gN uw j≤v+1∧gN ur j≤v+1
theorem b4u (l:List Int) (i j:Nat) (x:Int) (hi:i<l.length):gN (l.set i x) j=if i=j then x else gN l j:=by
 unfold gN;rw[List.getD,List.getElem?_set];by_cases h:i=j
 ·subst h;rw[if_pos rfl,if_pos hi,if_pos rfl];rfl
 ·rw[if_neg h,if_neg h];rfl
theorem b9l (l:List Int) (i j:Nat) (x:Int) (hi:i<l.length):gP (l.set i x) j=if i=j then x else gP l j:=b4u l i j x hi
theorem Mrk.begin {r n:Nat} {m:List (List Bool)} {pl:List Int} {v:Nat} {ur uw:List Int} (h1:ur.length=n+1) (h2:uw.length=r+2) (h3:∀ j,gN uw j≤v∧gN ur j≤v):Mrk r n m pl v 0 ur uw :=
 ⟨h1,h2,fun w hw=>absurd hw (Nat.not_lt_zero w),fun w hw=>absurd hw (Nat.not_lt_zero w),fun j _ e=>by have:=(h3 j).1;omega,fun j=>by have:=h3 j;omega⟩
theorem Mrk.skip {r n:Nat} {m:List (List Bool)} {pl:List Int} {v u:Nat} {ur uw:List Int} (h:Mrk r n m pl v u ur uw) (hc:clB m v u=false):Mrk r n m pl v (u+1) ur uw:=by
 refine ⟨h.rl,h.wl,fun w hw e=>?_,fun w hw e=>?_,fun j hj e=>?_,h.le⟩
 ·by_cases e2:w=u
  ·subst e2;rw[hc]at e;cases e
  ·exact h.rg w (by omega) e
 ·by_cases e2:w=u
  ·subst e2;rw[hc]at e;cases e
  ·exact h.wg w (by omega) e
 ·obtain ⟨w,h1,h2⟩:=h.by_ j hj e;exact ⟨w,by omega,h2⟩
theorem Mrk.reg {r n:Nat} {m:List (List Bool)} {pl:List Int} {v u:Nat} {ur uw:List Int} (h:Mrk r n m pl v u ur uw) (h1:1≤gP pl u) (h2:gP pl u≤n):Mrk r n m pl v (u+1) (ur.set (gP pl u).toNat ((v:Int)+1)) uw:=by
 have hlt:(gP pl u).toNat<ur.length:=by rw[h.rl];omega
 refine ⟨by rw[List.length_set];exact h.rl,h.wl,fun w hw e e2=>?_,fun w hw e e2=>?_,fun j hj e=>?_,fun j=>?_⟩
 ·rw[b4u _ _ _ _ hlt];split
  ·rfl
  ·by_cases e3:w=u
   ·subst e3;rename_i h5;exact absurd rfl h5
   ·exact h.rg w (by omega) e e2
 ·by_cases e3:w=u
  ·subst e3;omega
  ·exact h.wg w (by omega) e e2
 ·obtain ⟨w,h3,h4⟩:=h.by_ j hj e;exact ⟨w,by omega,h4⟩
 ·rw[b4u _ _ _ _ hlt];have:=h.le j;split<;>omega
theorem Mrk.word {r n:Nat} {m:List (List Bool)} {pl:List Int} {v u:Nat} {ur uw:List Int} (h:Mrk r n m pl v u ur uw) (hur:u<r) (h1 : -((u:Int)+1)≤gP pl u) (h2:gP pl u≤-1):Mrk r n m pl v (u+1) ur (uw.set (-(gP pl u)).toNat ((v:Int)+1)):=by
 have hlt:(-(gP pl u)).toNat<uw.length:=by rw[h.wl];omega
 refine ⟨h.rl,by rw[List.length_set];exact h.wl,fun w hw e e2=>?_,fun w hw e e2=>?_,fun j hj e=>?_,fun j=>?_⟩
 ·by_cases e3:w=u
  ·subst e3;omega
  ·exact h.rg w (by omega) e e2
 ·rw[b4u _ _ _ _ hlt];split
  ·rfl
  ·by_cases e3:w=u
   ·subst e3;rename_i h5;exact absurd rfl h5
   ·exact h.wg w (by omega) e e2
 ·rw[b4u _ _ _ _ hlt]at e;split at e
  ·rename_i h5;exact ⟨u,by omega,by omega⟩
  ·obtain ⟨w,h3,h4⟩:=h.by_ j hj e;exact ⟨w,by omega,h4⟩
 ·rw[b4u _ _ _ _ hlt];have:=h.le j;split<;>omega
def c7F (ur uw:List Int) (mark:Int) (word:Bool) (p:Int):Prop :=
 (word=false∧1≤p∧p.toNat<ur.length∧gN ur p.toNat≠mark)∨(∃ k:Nat,p = -(k:Int)∧1≤k∧k<uw.length∧gN uw k≠mark∧∀ j,1≤j→j<k→gN uw j=mark)
theorem Mrk.hole {r n:Nat} {m:List (List Bool)} {pl:List Int} {v:Nat} {ur uw:List Int} (h:Mrk r n m pl v v ur uw) (hv:v<r):∃ k,1≤k∧k≤v+1∧gN uw k≠v+1:=by
 rcases Classical.em (∃ k,1≤k∧k≤v+1∧gN uw k≠v+1) with h1 | h1
 ·exact h1
 ·have h2:∀ j:Nat,1≤j→j≤v+1→-(j:Int) ∈ (List.range v).map (gP pl):=fun j h3 h4=>by
   have h5:gN uw j=v+1:=by
    by_cases e:gN uw j=v+1
    ·exact e
    ·exact absurd ⟨j,h3,h4,e⟩ h1
   obtain ⟨w,hw,e⟩:=h.by_ j h3 h5;exact List.mem_map.2 ⟨w,List.mem_range.2 hw,e⟩
  have:=c5P (v+1) _ h2;rw[List.length_map,List.length_range]at this;omega
theorem Col.step {r n:Nat} {m:List (List Bool)} {iw:List Bool} {v:Nat} {pl:List Int} {ur uw:List Int} (h:Col r n m iw v pl) (hv:v<r) (hm:Mrk r n m pl v v ur uw) {p:Int} (hp:c7F ur uw ((v:Int)+1) (gB iw v) p):Col r n m iw (v+1) (pl.set v p):=by
 have hlt:v<pl.length:=by rw[h.len];exact hv
 have hok:(1≤p∧p≤n)∨(-((v:Int)+1)≤p∧p≤-1):=by
  rcases hp with ⟨_,h1,h2,_⟩ | ⟨k,h1,h2,h3,h4,h5⟩
  ·rw[hm.rl]at h2;left;omega
  ·right;have h6:∀ j:Nat,1≤j→j≤k-1→-(j:Int) ∈ (List.range v).map (gP pl):=fun j g1 g2=>by
    obtain ⟨w,hw,e⟩:=hm.by_ j g1 (h5 j g1 (by omega));exact List.mem_map.2 ⟨w,List.mem_range.2 hw,e⟩
   have:=c5P (k-1) _ h6;simp at this;omega
 have hcl:∀ w<v,clB m v w=true→p≠gP pl w:=fun w hw hc e=>by
  rcases h.ok w hw with h1 | h1
  ·have h2:=hm.rg w hw hc (by omega);rcases hp with ⟨_,_,_,h3⟩ | ⟨k,h3,h4,_⟩
   ·rw[e]at h3;exact h3 h2
   ·omega
  ·have h2:=hm.wg w hw hc (by omega);rcases hp with ⟨_,h3,_,_⟩ | ⟨k,h3,h4,h5,h6,_⟩
   ·omega
   ·have:(-(gP pl w)).toNat=k:=by omega
    rw[this]at h2;exact h6 h2
 refine ⟨by rw[List.length_set];exact h.len,fun u hu=>?_,fun u hu w hw hc=>?_,fun u hu e=>?_⟩
 ·rw[b9l _ _ _ _ hlt];by_cases e:v=u
  ·subst e;rw[if_pos rfl];exact hok
  ·rw[if_neg e];exact h.ok u (by omega)
 ·rw[b9l _ _ _ _ hlt,b9l _ _ _ _ hlt];by_cases e:v=u
  ·subst e;rw[if_pos rfl,if_neg (by omega)];exact hcl w hw hc
  ·rw[if_neg e,if_neg (by omega)];exact h.ne u (by omega) w hw hc
 ·rw[b9l _ _ _ _ hlt];by_cases e2:v=u
  ·subst e2;rw[if_pos rfl];rcases hp with ⟨h1,_⟩ | ⟨k,h1,h2,_⟩
   ·rw[e]at h1;cases h1
   ·omega
  ·rw[if_neg e2];exact h.wd u (by omega) e
theorem c2b {f:BF} {L:LD} (hf:Fine f) (hcl:ClosedP f L) {m:List (List Bool)} {iw:List Bool} (hv:CVA f L m iw (fun _ _=>True)) {n:Int} {pl:List Int} (h:Col f.r n.toNat m iw f.r pl):AllocP f L pl n:=by
 have hr4:=hf.r1;have hr0:=hf.r0;have hr:f.r≤4000:=by unfold BF.r;omega
 have key:∀ u<f.r,∀ v<f.r,u≠v→(gB (m.getD v []) u=true∨gB (m.getD u []) v=true)→gP pl u≠gP pl v:=fun u hu v hvr hne hc=>by
  rcases Nat.lt_or_ge u v with h1 | h1
  ·exact fun e=>h.ne v hvr u h1 (by unfold clB;rcases hc with e | e<;>rw[e]<;>simp) e.symm
  ·exact h.ne u hu v (by omega) (by unfold clB;rcases hc with e | e<;>rw[e]<;>simp)
 refine ⟨hcl,h.len,fun v hvr=>?_,fun u hu v hvr hne a b=>key u hu v hvr hne (.inl (hv.ap u hu v hvr a b)),fun b hb i hi hs v hvr hth hne=>?_,fun b hb i hi ho v hvr hth=>h.wd v hvr (hv.ca b hb i hi trivial ho v hvr hth)⟩
 ·rcases h.ok v hvr with h1 | h1
  ·left;omega
  ·right;omega
 ·have hd:=(hf.ins _ (BF.mem hb) _ (a0q hi)).2 hs;exact key v hvr _ (by unfold BF.r;omega) hne (.inl (hv.st b hb i hi trivial hs v hvr hth))
set_option maxRecDepth 10000
open Go.V
def apF (uw:List Int) (mark:Int) (k:Nat):Prop:=∀ j,1≤j→j<k→gN uw j=mark
theorem c7G (ur uw:List Int) (mark:Int) (word:Bool) (hl:ur.length≤2000000∧uw.length≤2000000) (hh:∃ k,1≤k∧k<uw.length∧gN uw k≠mark) (H:List VObj) (nx k1 s1 k2 s2 n1 n2:Nat) (hn1:n1=ur.length) (hn2:n2=uw.length)
 (h1:H[k1]? = some ⟨s1,3,1,ur.map I⟩) (h2:H[k2]? = some ⟨s2,3,1,uw.map I⟩) (C:AV→List VObj→Nat→Prop) (hC:∀ p,c7F ur uw mark word p→C (I p) H nx) :
 VCall Tryz.prog 19 [.ref k1 s1 0 n1,.ref k2 s2 0 n2,I mark,B word] H nx C:=by
 refine VCall.of_body a1g b6w (by simp) ?_;subst hn1;subst hn2;obtain ⟨K,hK1,hK2,hK3⟩:=hh;cases word
 ·simp only[go_sem,a7r];refine a0r (fun p:Nat=>⟨[(0,.ref k1 s1 0 ur.length),(1,.ref k2 s2 0 uw.length),(2,I mark),(9,I p)],H,nx⟩) (fun p=>1≤p∧p≤ur.length+1) (fun p=>ur.length+1-p) 1 (Wk.mk (by simp[a0a]) ⟨[],by simp⟩ (Nat.le_refl _)) ⟨Nat.le_refl _,by omega⟩ ?_;rintro p ⟨g1,g2⟩;by_cases hp:p<ur.length
  ·have e0:ur.getD p default=gN ur p:=rfl;by_cases h:gN ur p=mark
   ·simp only[go_sem,h1,e0,eq_true (show (p:Int)<(ur.length:Int) by omega),eq_true h]
    repeat ((with_reducible refine And.intro ?_ ?_);· omega)
    rw[a0e (by omega) (by omega)];exact ⟨p+1,⟨by omega,by omega⟩,by omega,Wk.mk (by simp[a0a]) ⟨[],by simp⟩ (Nat.le_refl _)⟩
   ·simp only[go_sem,h1,e0,eq_true (show (p:Int)<(ur.length:Int) by omega),eq_false h]
    repeat ((with_reducible refine And.intro ?_ ?_);· omega)
    exact hC _ (.inl ⟨rfl,by omega,by omega,h⟩)
  ·simp only[go_sem,h1,eq_false (show ¬ (p:Int)<(ur.length:Int) by omega)];refine a0r (fun k:Nat=>⟨[(1,.ref k2 s2 0 uw.length),(2,I mark),(10,I k)],H,nx⟩) (fun k=>1≤k∧k≤K∧apF uw mark k) (fun k=>K-k) 1 (Wk.mk (by simp[a0a]) ⟨[],by simp⟩ (Nat.le_refl _)) ⟨Nat.le_refl _,hK1,fun j g1 g2=>by omega⟩ ?_;rintro k ⟨g1,g2,g3⟩;have e0:uw.getD k default=gN uw k:=rfl;by_cases h:gN uw k=mark
   ·have hkK:k≠K:=fun e=>by subst e;exact hK3 h
    simp only[go_sem,h2,e0,eq_true h]
    repeat ((with_reducible refine And.intro ?_ ?_);· omega)
    rw[a0e (by omega) (by omega)];refine ⟨k+1,⟨by omega,by omega,fun j q1 q2=>?_⟩,by omega,Wk.mk (by simp[a0a]) ⟨[],by simp⟩ (Nat.le_refl _)⟩;by_cases e:j=k
    ·rw[e];exact h
    ·exact g3 j q1 (by omega)
   ·simp only[go_sem,h2,e0,eq_false h,Int.zero_sub]
    repeat ((with_reducible refine And.intro ?_ ?_);· omega)
    rw[a0e (by omega) (by omega)];exact hC _ (.inr ⟨k,rfl,g1,by omega,h,g3⟩)
 ·simp only[go_sem,a7r];refine a0r (fun k:Nat=>⟨[(1,.ref k2 s2 0 uw.length),(2,I mark),(10,I k)],H,nx⟩) (fun k=>1≤k∧k≤K∧apF uw mark k) (fun k=>K-k) 1 (Wk.mk (by simp[a0a]) ⟨[],by simp⟩ (Nat.le_refl _)) ⟨Nat.le_refl _,hK1,fun j g1 g2=>by omega⟩ ?_;rintro k ⟨g1,g2,g3⟩;have e0:uw.getD k default=gN uw k:=rfl;by_cases h:gN uw k=mark
  ·have hkK:k≠K:=fun e=>by subst e;exact hK3 h
   simp only[go_sem,h2,e0,eq_true h]
   repeat ((with_reducible refine And.intro ?_ ?_);· omega)
   rw[a0e (by omega) (by omega)];refine ⟨k+1,⟨by omega,by omega,fun j q1 q2=>?_⟩,by omega,Wk.mk (by simp[a0a]) ⟨[],by simp⟩ (Nat.le_refl _)⟩;by_cases e:j=k
   ·rw[e];exact h
   ·exact g3 j q1 (by omega)
  ·simp only[go_sem,h2,e0,eq_false h,Int.zero_sub]
   repeat ((with_reducible refine And.intro ?_ ?_);· omega)
   rw[a0e (by omega) (by omega)];exact hC _ (.inr ⟨k,rfl,g1,by omega,h,g3⟩)
set_option maxRecDepth 10000
open Go.V
section
variable {α:Type} {A:List α} {a b c x:α}
theorem b7D:(A++[a]++[b]++[c])[A.length]? = some a:=by simp
theorem b7E:(A++[a]++[b]++[c])[A.length+1]? = some b:=by simp
theorem b7F:(A++[a]++[b]++[c])[A.length+1+1]? = some c:=by rw[List.getElem?_append_right (by simp)];simp
theorem b8l:(A++[a]++[b]++[c]).set A.length x=A++[x]++[b]++[c]:=by simp
theorem b8m:(A++[a]++[b]++[c]).set (A.length+1) x=A++[a]++[x]++[c]:=by simp
theorem b8n:(A++[a]++[b]++[c]).set (A.length+1+1) x=A++[a]++[b]++[x]:=by rw[List.set_append_right _ _ (by simp)];simp
theorem c9E:(A++[a]++[b])[A.length]? = some a:=by simp
end
theorem b8o:IntKind.i64.wrap 0=0:=rfl
structure FQA where
 v:Nat
 pl:List Int
 ur:List Int
 uw:List Int
theorem c2c (l:List Int) (i:Nat) (x:Int):(l.map I).set i (.val (.int .i64 x))=(l.set i x).map I:=a0I I l i x
theorem c7H (n:Nat):(List.replicate n [AV.val (.int .i64 0)]).flatten=(List.replicate n (0:Int)).map I:=by rw[a3S];simp
theorem c7I (n j:Nat):gN (List.replicate n 0) j=0:=by
 unfold gN;simp only[List.getD,List.getElem?_replicate];split<;>rfl
set_option maxHeartbeats 4000000 in
theorem c7J (f:BF) (L:LD) (n:Int) (hf:Fine f) (hcl:ClosedP f L) (hr:f.r≤64) (hn:n≤1000000):Contract Tryz.prog 6 [bfA f,c3m L,I n] (fun r=>∃ pl,r=alA pl∧AllocP f L pl n):=by
 refine Contract.of_call (VCall.of_body a1g c0e (by simp) ?_);have hmx:(2000000:Nat)≤maxLen:=by decide
 have hr0:=hf.r0;have hregs:f.regs=(f.r:Int):=by unfold BF.r;omega
 simp only[go_sem,List.length_range,b8o,↓b7D,↓b7E,↓b7F,↓b8l,↓b8m,↓b8n,b4p];refine c2a f L hf hcl hr _ _ _ fun H1 nx1 Hb st g m kW sW iw kp cs cv=>?_;have h0:=kp 0 _ rfl;have h1:=kp 1 _ rfl;have h2:=kp 2 _ rfl;have h0a:=a0p h0;have h0b:=fun (x y:VObj)=>a0p (a0p h0 [x]) [y];have hlen:3≤H1.length:=kp.lt;have e1:IntKind.i64.wrap ((f.r:Int)+2)=((f.r+2:Nat):Int):=by rw[a0e (by omega) (by omega)];omega
 obtain ⟨N,hN⟩:∃ N,n.toNat=N:=⟨_,rfl⟩
 have e2:IntKind.i64.wrap ((if (0:Int) > n then 0 else n)+1)=((N+1:Nat):Int):=by split<;>(rw[a0e (by omega) (by omega)];omega)
 have e3:IntKind.i64.wrap ((if n<(0:Int) then 0 else n)+1)=((N+1:Nat):Int):=by split<;>(rw[a0e (by omega) (by omega)];omega)
 by_cases hneg:n<0
 all_goals
  first
  | (have e4:IntKind.i64.wrap ((0:Int)+1)=((N+1:Nat):Int):=by rw[a0e (by omega) (by omega)];omega
     simp only[go_sem,List.length_range,b8o,↓b7D,↓b7E,↓b7F,↓b8l,↓b8m,↓b8n,h0,h0a,h0b,hregs,e1,e2,e3,e4,c7H,eq_true hneg,gt_iff_lt,c9E])
  | (have e4:IntKind.i64.wrap (n+1)=((N+1:Nat):Int):=by rw[a0e (by omega) (by omega)];omega
     simp only[go_sem,List.length_range,b8o,↓b7D,↓b7E,↓b7F,↓b8l,↓b8m,↓b8n,h0,h0a,h0b,hregs,e1,e2,e3,e4,c7H,eq_false hneg,gt_iff_lt,c9E])
  repeat ((with_reducible refine And.intro ?_ ?_);· first | omega | (simp;omega))
  refine a0r (fun q:FQA=>⟨[(6,.ptr 2 2 0),(7,.ref Hb.length st 0 f.r),(8,.ref kW sW 0 (rl f.r)),(9,.ref H1.length nx1 0 f.r),(10,.ref (H1.length+1) (nx1+1) 0 (N+1)),(11,.ref (H1.length+1+1) (nx1+1+1) 0 (f.r+2)),(34,I f.r),(35,I q.v)],H1++[(⟨nx1,3,1,List.map I q.pl⟩:VObj)]++[(⟨nx1+1,3,1,List.map I q.ur⟩:VObj)]++[(⟨nx1+1+1,3,1,List.map I q.uw⟩:VObj)],nx1+1+1+1⟩)
   (fun q=>q.v≤f.r∧Col f.r N m iw q.v q.pl∧q.ur.length=N+1∧q.uw.length=f.r+2∧∀ j,gN q.uw j≤q.v∧gN q.ur j≤q.v) (fun q=>f.r-q.v) ⟨0,List.replicate f.r 0,List.replicate (N+1) 0,List.replicate (f.r+2) 0⟩
   (Wk.mk (by simp[a0a]) ⟨[],(List.append_nil _).symm⟩ (Nat.le_refl _)) ⟨Nat.zero_le _,⟨by simp,fun u hu=>absurd hu (Nat.not_lt_zero u),fun u hu=>absurd hu (Nat.not_lt_zero u),fun u hu=>absurd hu (Nat.not_lt_zero u)⟩,by simp,by simp,fun j=>by simp only[c7I];omega⟩ ?_
  rintro ⟨v,pl,ur,uw⟩ ⟨hv,hcol,hurl,huwl,hle⟩;simp only at hv hcol hurl huwl hle;by_cases hvr:v<f.r
  case neg =>
   obtain rfl:v=f.r:=by omega
   have q2':∀ x y z w:VObj,((H1++[x]++[y]++[z]).set 2 w)[2]? = some w:=fun x y z w=>by rw[List.getElem?_set_self (by simp)]
   simp only[go_sem,List.length_range,b8o,↓b7D,↓b7E,↓b7F,↓b8l,↓b8m,↓b8n,eq_false (show ¬ (f.r:Int)<(f.r:Int) by omega),fun x y z=>a0p (a0p (a0p h2 [x]) [y]) [z],q2'];refine ⟨_,Frz.agg ⟨_,_,rfl,a3R (ty:=3) (l:=pl) (Nat.zero_le _) ?_ hcol.len.symm,rfl⟩,pl,rfl,c2b hf hcl cv (n:=n) (by rw[hN];exact hcol)⟩;rw[List.getElem?_set_ne (by omega)];exact b7D
  have e5:IntKind.i64.wrap ((v:Int)+1)=(v:Int)+1:=a0e (by omega) (by omega);simp only[go_sem,List.length_range,b8o,↓b7D,↓b7E,↓b7F,↓b8l,↓b8m,↓b8n,eq_true (show (v:Int)<(f.r:Int) by omega),e5];refine a0r (fun q:FQA=>⟨[(6,.ptr 2 2 0),(7,.ref Hb.length st 0 f.r),(8,.ref kW sW 0 (rl f.r)),(9,.ref H1.length nx1 0 f.r),(10,.ref (H1.length+1) (nx1+1) 0 (N+1)),(11,.ref (H1.length+1+1) (nx1+1+1) 0 (f.r+2)),(34,I f.r),(35,I v),(12,I v),(13,I ((v:Int)+1)),(14,I q.v)],H1++[(⟨nx1,3,1,List.map I q.pl⟩:VObj)]++[(⟨nx1+1,3,1,List.map I q.ur⟩:VObj)]++[(⟨nx1+1+1,3,1,List.map I q.uw⟩:VObj)],nx1+1+1+1⟩)
   (fun q=>q.v≤v∧q.pl=pl∧Mrk f.r N m pl v q.v q.ur q.uw) (fun q=>v-q.v) ⟨0,pl,ur,uw⟩
   (Wk.mk (by simp[a0a]) ⟨[],(List.append_nil _).symm⟩ (Nat.le_refl _)) ⟨Nat.zero_le _,rfl,Mrk.begin hurl huwl hle⟩ ?_
  rintro ⟨u,pl',ur,uw⟩ ⟨hu,hpl',hm⟩;simp only at hu hpl' hm;subst hpl';have hll:=hcol.len;have hrl:=hm.rl;have hwl:=hm.wl;have htb:=fun x y z=>a0p (a0p (a0p cs.tb [x]) [y]) [z];by_cases huv:u<v
  ·have hrw:=fun (b:Nat) (hb:b<f.r) (x y z:VObj)=>a0p (a0p (a0p (cs.rw b hb) [x]) [y]) [z];have hln:=cs.ln;simp only[go_sem,List.length_range,b8o,↓b7D,↓b7E,↓b7F,↓b8l,↓b8m,↓b8n,htb,a4q,eq_true (show (u:Int)<(v:Int) by omega)]
   repeat ((with_reducible refine And.intro ?_ ?_);· first | omega | (simp;omega))
   refine c3E (m.getD v []) u _ _ (g v).1 (g v).2 (rl f.r) (by rw[hln v hvr]) (by rw[hln v hvr];exact hr) (by rw[hln v hvr];omega) (hrw v hvr _ _ _) _ ?_;cases hg1:gB (m.getD v []) u
   ·simp only[go_sem,List.length_range,b8o,↓b7D,↓b7E,↓b7F,↓b8l,↓b8m,↓b8n,htb,a4q]
    repeat ((with_reducible refine And.intro ?_ ?_);· first | omega | (simp;omega))
    refine c3E (m.getD u []) v _ _ (g u).1 (g u).2 (rl f.r) (by rw[hln u (by omega)]) (by rw[hln u (by omega)];exact hr) (by rw[hln u (by omega)];omega) (hrw u (by omega) _ _ _) _ ?_;cases hg2:gB (m.getD u []) v
    ·simp only[go_sem,List.length_range,b8o,↓b7D,↓b7E,↓b7F,↓b8l,↓b8m,↓b8n];rw[a0e (n:=(u:Int)+1) (by omega) (by omega)];exact ⟨⟨u+1,pl',ur,uw⟩,⟨by simp only;omega,rfl,hm.skip (by unfold clB;rw[hg1,hg2];rfl)⟩,by simp only;omega,Wk.mk (by simp[a0a]) ⟨[],(List.append_nil _).symm⟩ (Nat.le_refl _)⟩
    ·have hpu:pl'.getD u default=gP pl' u:=rfl;have hulen:u<pl'.length:=by rw[hcol.len];omega
     have hok:=hcol.ok u (by omega);by_cases hp:0<gP pl' u
     ·have hm2:=hm.reg (show 1≤gP pl' u by omega) (by omega);simp only[go_sem,List.length_range,b8o,↓b7D,↓b7E,↓b7F,↓b8l,↓b8m,↓b8n,hpu,eq_true hp,c2c]
      repeat ((with_reducible refine And.intro ?_ ?_);· first | omega | (simp;omega))
      rw[a0e (n:=(u:Int)+1) (by omega) (by omega)];exact ⟨⟨u+1,pl',ur.set (gP pl' u).toNat ((v:Int)+1),uw⟩,⟨by simp only;omega,rfl,hm2⟩,by simp only;omega,Wk.mk (by simp[a0a]) ⟨[],(List.append_nil _).symm⟩ (Nat.le_refl _)⟩
     ·have hm2:=hm.word (show u<f.r by omega) (by omega) (by omega);have hneg2:IntKind.i64.wrap (0-gP pl' u) = -(gP pl' u):=by rw[a0e (by omega) (by omega)];omega
      simp only[go_sem,List.length_range,b8o,↓b7D,↓b7E,↓b7F,↓b8l,↓b8m,↓b8n,hpu,eq_false hp,hneg2,c2c]
      repeat ((with_reducible refine And.intro ?_ ?_);· first | omega | (simp;omega))
      rw[a0e (n:=(u:Int)+1) (by omega) (by omega)];exact ⟨⟨u+1,pl',ur,uw.set (-(gP pl' u)).toNat ((v:Int)+1)⟩,⟨by simp only;omega,rfl,hm2⟩,by simp only;omega,Wk.mk (by simp[a0a]) ⟨[],(List.append_nil _).symm⟩ (Nat.le_refl _)⟩
   ·have hpu:pl'.getD u default=gP pl' u:=rfl;have hulen:u<pl'.length:=by rw[hcol.len];omega
    have hok:=hcol.ok u (by omega);by_cases hp:0<gP pl' u
    ·have hm2:=hm.reg (show 1≤gP pl' u by omega) (by omega);simp only[go_sem,List.length_range,b8o,↓b7D,↓b7E,↓b7F,↓b8l,↓b8m,↓b8n,hpu,eq_true hp,c2c]
     repeat ((with_reducible refine And.intro ?_ ?_);· first | omega | (simp;omega))
     rw[a0e (n:=(u:Int)+1) (by omega) (by omega)];exact ⟨⟨u+1,pl',ur.set (gP pl' u).toNat ((v:Int)+1),uw⟩,⟨by simp only;omega,rfl,hm2⟩,by simp only;omega,Wk.mk (by simp[a0a]) ⟨[],(List.append_nil _).symm⟩ (Nat.le_refl _)⟩
    ·have hm2:=hm.word (show u<f.r by omega) (by omega) (by omega);have hneg2:IntKind.i64.wrap (0-gP pl' u) = -(gP pl' u):=by rw[a0e (by omega) (by omega)];omega
     simp only[go_sem,List.length_range,b8o,↓b7D,↓b7E,↓b7F,↓b8l,↓b8m,↓b8n,hpu,eq_false hp,hneg2,c2c]
     repeat ((with_reducible refine And.intro ?_ ?_);· first | omega | (simp;omega))
     rw[a0e (n:=(u:Int)+1) (by omega) (by omega)];exact ⟨⟨u+1,pl',ur,uw.set (-(gP pl' u)).toNat ((v:Int)+1)⟩,⟨by simp only;omega,rfl,hm2⟩,by simp only;omega,Wk.mk (by simp[a0a]) ⟨[],(List.append_nil _).symm⟩ (Nat.le_refl _)⟩
  obtain rfl:u=v:=by omega
  have hole:=hm.hole hvr;obtain ⟨K,hK1,hK2,hK3⟩:=hole;have hil:=cs.il;simp only[go_sem,List.length_range,b8o,↓b7D,↓b7E,↓b7F,↓b8l,↓b8m,↓b8n,eq_false (show ¬ (u:Int)<(u:Int) by omega)];refine c3E iw u _ _ kW sW (rl f.r) (by rw[hil]) (by omega) (by omega) (a0p (a0p (a0p cs.w _) _) _) _ ?_;simp only[go_sem,List.length_range,b8o,↓b7D,↓b7E,↓b7F,↓b8l,↓b8m,↓b8n];refine c7G ur uw ((u:Int)+1) (gB iw u) (by omega) ⟨K,hK1,by omega,hK3⟩ _ _ _ _ _ _ _ _ hrl.symm hwl.symm b7E b7F _ fun p hp=>?_;have hlt:u<pl'.length:=by omega
  simp only[go_sem,List.length_range,b8o,↓b7D,↓b7E,↓b7F,↓b8l,↓b8m,↓b8n,c2c]
  repeat ((with_reducible refine And.intro ?_ ?_);· first | omega | (simp;omega))
  rw[a0e (n:=(u:Int)+1) (by omega) (by omega)];exact ⟨⟨u+1,pl'.set u p,ur,uw⟩,⟨by simp only;omega,hcol.step hvr hm hp,hrl,hwl,fun j=>by have:=hm.le j;simp only;omega⟩,by simp only;omega,Wk.mk (by simp[a0a]) ⟨[],(List.append_nil _).symm⟩ (Nat.le_refl _)⟩
structure PV where
 I:List (List Bool)
 O:List (List Bool)
 m:Bool
def c9F (f:BF) (I O:List (List Bool)) (b:Nat):List Bool:=a3D (f.bk b) (a7S f I O b)
def c7K (f:BF) (p:PV) (b:Nat):PV:=⟨p.I.set b (orL (p.I.getD b []) (c9F f p.I p.O b)),p.O.set b (a7S f p.I p.O b),p.m || decide (orL (p.I.getD b []) (c9F f p.I p.O b)≠p.I.getD b [])⟩
structure RInv (f:BF) (I O:List (List Bool)):Prop where
 sz:SizedP f ⟨I,O⟩
 un:b8h f ⟨I,O⟩
section
variable {f:BF}
theorem RInv.olen (hf:Fine f) {I O:List (List Bool)} (h:RInv f I O) {b:Nat} (hb:b<f.n):(a7S f I O b).length=f.r:=a9B (σ:=⟨I,O,[]⟩) hf h.sz hb
theorem RInv.step (hf:Fine f) {p:PV} (h:RInv f p.I p.O) {b:Nat} (hb:b<f.n):RInv f (c7K f p b).I (c7K f p b).O:=by
 have hbO:b<p.O.length:=by rw[show p.O.length=f.n from h.sz.o];exact hb
 have hil:(p.I.getD b []).length=f.r:=h.sz.il hb;have hs1:=h.sz.setO (b:=b) (h.olen hf hb);refine ⟨hs1.setI (by rw[a2j,hil]),b9e hf hs1 (b6V hf h.sz h.un hb) hb fun v hv e=>?_⟩;rw[b5j _ _ (by rw[hil];exact hv),Bool.or_eq_true]at e;rcases e with e | e
 ·exact .inl e
 ·refine .inr ?_;rw[a5H hbO,if_pos rfl];exact e
end
set_option maxRecDepth 10000
open Go.V
structure MT (n r:Nat) (H:List VObj) (k s:Nat) (g:Nat→Nat × Nat) (m:List (List Bool)):Prop where
 l:H[k]? = some ⟨s,68,1,(List.range n).map fun b=>.ref (g b).1 (g b).2 0 r⟩
 r:∀ b<n,H[(g b).1]? = some ⟨(g b).2,4,1,(m.getD b []).map B⟩
 d:∀ b<n,∀ c<n,(g b).1=(g c).1→b=c
theorem MT.app {n r:Nat} {H:List VObj} {k s:Nat} {g:Nat→Nat × Nat} {m:List (List Bool)} (h:MT n r H k s g m) (R:List VObj):MT n r (H++R) k s g m :=
 ⟨a0p h.l R,fun b hb=>a0p (h.r b hb) R,h.d⟩
set_option maxRecDepth 10000
open Go.V
theorem b5t (r:Nat) (hr:r≤64) (H:List VObj) (nx:Nat) (C:AV→List VObj→Nat→Prop)
 (hC:C (.ref H.length nx 0 (rl r)) (H++[⟨nx,108,1,a0c (List.replicate r false)⟩]) (nx+1)):VCall Tryz.prog 44 [I r] H nx C:=by
 refine VCall.of_body a1g b6C (by simp) ?_;have e1:IntKind.i64.wrap ((r:Int)+63)=r+63:=a0e (by omega) (by omega);have e2:((r:Int)+63).tdiv 64=rl r:=by
  unfold rl;split
  ·rename_i h;subst h;rfl
  ·rw[Int.tdiv_eq_ediv_of_nonneg (by omega)];omega
 have e3:IntKind.i64.wrap (rl r:Int)=rl r:=by unfold rl;split<;>rfl
 have e4:rl r≤1:=by unfold rl;split<;>decide
 simp only[go_sem,b1C,e1,e2,e3]
 repeat ((with_reducible refine And.intro ?_ ?_);· first | omega | decide)
 rw[show (List.replicate (rl r) [AV.val (.int .u64 0)]).flatten=a0c (List.replicate r false) by
  unfold rl a0c;by_cases h:r=0
  ·subst h;rfl
  ·rw[if_neg h,if_neg (by simpa using h),b8g];rfl]
 exact hC
section
variable (l:List Bool) (i:Int) (H:List VObj) (nx k s m:Nat) (hm:m=rl l.length) (hl:l.length≤64) (hi:0≤i∧i<l.length) (ho:H[k]? = some ⟨s,108,1,a0c l⟩) (C:AV→List VObj→Nat→Prop)
include hm hl hi ho
theorem c5Q (hC:∀ r,C r (H.set k ⟨s,108,1,a0c (l.set i.toNat true)⟩) nx):VCall Tryz.prog 60 [.ref k s 0 m,I i] H nx C:=by
 refine VCall.of_body a1g b3F (by simp) ?_;subst hm;obtain ⟨j,rfl⟩:∃ j:Nat,i=j:=⟨i.toNat,by omega⟩
 have hj:j<l.length:=by omega
 have hne:l.length≠0:=by omega
 have e1:((j:Int)).tdiv 64=0:=by rw[Int.tdiv_eq_ediv_of_nonneg (by omega)];omega
 have e2:((j:Int)).tmod 64=j:=by rw[Int.tmod_eq_emod_of_nonneg (by omega)];omega
 have e3:=c3D (show j<64 by omega);have e4:IntKind.i64.wrap 0=0:=rfl;have e5:IntKind.i64.wrap (j:Int)=j:=a0e (by omega) (by omega);have e6:=c8Q (a5G hl) (show 2 ^ j<2 ^ 64 from Nat.pow_lt_pow_right (by decide) (by omega));rw[c1K hj]at e6;have hC':=hC;rw[a0H (by simpa using hne),Int.toNat_natCast]at hC';rw[a0H hne]at ho;simp only[go_sem,a8l,e1,e2,e3,e4,e5,ho,a4p hne]
 repeat ((with_reducible refine And.intro ?_ ?_);· first | omega | decide)
 have h7:∀ r,C r (H.set k ⟨s,108,1,[U64 (IntKind.u64.wrap ((BitVec.ofInt 64 (wd l:Int) ||| BitVec.ofInt 64 ((2 ^ j:Nat):Int)).toNat:Nat))]⟩) nx:=fun r=>by rw[e6];exact hC' _
 exact h7 _
theorem c3J (hC:∀ r,C r (H.set k ⟨s,108,1,a0c (l.set i.toNat false)⟩) nx):VCall Tryz.prog 62 [.ref k s 0 m,I i] H nx C:=by
 refine VCall.of_body a1g b0l (by simp) ?_;subst hm;obtain ⟨j,rfl⟩:∃ j:Nat,i=j:=⟨i.toNat,by omega⟩
 have hj:j<l.length:=by omega
 have hne:l.length≠0:=by omega
 have e1:((j:Int)).tdiv 64=0:=by rw[Int.tdiv_eq_ediv_of_nonneg (by omega)];omega
 have e2:((j:Int)).tmod 64=j:=by rw[Int.tmod_eq_emod_of_nonneg (by omega)];omega
 have e3:=c3D (show j<64 by omega);have e4:IntKind.i64.wrap 0=0:=rfl;have e5:IntKind.i64.wrap (j:Int)=j:=a0e (by omega) (by omega);have e6:=b5o (b:=(List.replicate l.length false).set j true) hl (by simpa using hl);rw[← c4P hj,c1W hj]at e6;have hC':=hC;rw[a0H (by simpa using hne),Int.toNat_natCast]at hC';rw[a0H hne]at ho;simp only[go_sem,a5l,e1,e2,e3,e4,e5,ho,a4p hne]
 repeat ((with_reducible refine And.intro ?_ ?_);· first | omega | decide)
 have h7:∀ r,C r (H.set k ⟨s,108,1,[U64 (IntKind.u64.wrap ((BitVec.ofInt 64 (wd l:Int) &&& ~~~BitVec.ofInt 64 ((2 ^ j:Nat):Int)).toNat:Nat))]⟩) nx:=fun r=>by rw[e6];exact hC' _
 exact h7 _
end
set_option maxRecDepth 10000
open Go.V
theorem c2d (ins:List Tac) (l:List Bool) {k:Nat} (hk:k<ins.length):a9z (ins.drop (ins.length-(k+1))) l =
 if 0≤a0n (ins.getD (ins.length-k-1) default) then (a9z (ins.drop (ins.length-k)) l).set (a0n (ins.getD (ins.length-k-1) default)).toNat true else a9z (ins.drop (ins.length-k)) l:=by
 rw[show ins.length-(k+1)=ins.length-k-1 by omega];have e : ins.getD (ins.length - k - 1) default = ins[ins.length - k - 1]'(by omega) := by simp [List.getD, List.getElem?_eq_getElem (show ins.length - k - 1 < ins.length by omega)]
 rw[e]
 conv=>lhs;rw[List.drop_eq_getElem_cons (show ins.length-k-1<ins.length by omega),show ins.length-k-1+1=ins.length-k by omega]
 rfl
abbrev toL (b:Bk) (r k:Nat):List Bool:=a9z (b.ins.drop (b.ins.length-k)) (List.replicate r false)
abbrev tcH (b:Bk) (r:Nat) (x y:List Bool) (R:VObj):List VObj:=[⟨0,56,1,bkL b⟩,⟨1,72,1,[.ref 3 3 0 (rl r)]⟩,⟨2,72,1,[.ref 4 4 0 (rl r)]⟩,⟨3,108,1,a0c x⟩,⟨4,108,1,a0c y⟩,⟨5,3,1,[I b.ins.length]⟩,R]
theorem c5R (b:Bk) (r:Nat) (hr:r≤64) (hn:b.ins.length≤1000000) (hv:b.e=2→0≤b.v∧b.v<r) (hrt:∀ t ∈ b.ins,RegT t r) :
 Contract Tryz.prog 43 [bkA b,I r] (fun x=>x = .tup [.imm 1 (a0c (a4v b r)),.imm 1 (a0c (b3e b r))]):=by
 refine Contract.of_call (VCall.of_bodyB a1g b6B (by simp) ?_);have hzl:(List.replicate r false).length=r:=by simp
 simp only[go_sem,b1B];refine b5t r hr _ _ _ ?_
 try refine ⟨b2l _ _,?_⟩
 simp only[go_sem];refine b5t r hr _ _ _ ?_
 try refine ⟨b2l _ _,?_⟩
 by_cases h:b.e=2
 all_goals
  first
  | (simp only[go_sem,eq_true (show b.e=2 from h)]
     refine c5Q (List.replicate r false) b.v _ _ 3 3 _ (by rw[hzl]) (by rw[hzl];exact hr) (by rw[hzl];exact hv h) rfl _ fun _=>?_;simp only[go_sem,b9g h])
  | simp only[go_sem,eq_false h]
  refine VCall.of_body a1g b7W (by simp) ?_;simp only[go_sem,b2S];intro R Bo E hz hY;refine c7y b.ins.length 6 6 5 5 (fun k H nx=>H=tcH b r (atL b (List.replicate r false) k) (toL b r k) R∧nx=7) _ _ _ hn (fun k H nx hI=>by rw[hI.1];rfl) (fun k H nx C' hk hI hC'=>?_)
   ⟨by simp only[b5n,tcH,toL,Nat.sub_zero,List.drop_length];first | rfl | (rw[b9h h];rfl),rfl⟩ fun x H nx hI=>?_
  ·obtain ⟨rfl,rfl⟩:=hI;refine hY _ _ _ _ rfl rfl ?_;clear hY;have e1:((b.ins.length:Int)-1-k).toNat=b.ins.length-k-1:=by omega
   have hrt:=hrt _ (a0q (show b.ins.length-k-1<b.ins.length by omega));simp only[go_sem,e1,List.zip_cons_cons,List.zip_nil_left]
   repeat ((with_reducible refine And.intro ?_ ?_);· omega)
   refine VCall.of_contract (b2Y _) (SleL.pure rfl) fun r hr'=>?_;subst hr';have hst:=a3X b (List.replicate r false) hk;have hdn:=c2d b.ins (List.replicate r false) hk;have hlx:(atL b (List.replicate r false) k).length=r:=by rw[b8j,hzl]
   have hly:(toL b r k).length=r:=by rw[toL,a7F,hzl]
   generalize hgt:b.ins.getD (b.ins.length-k-1) default=t at hrt hst hdn ⊢;generalize hgx:atL b (List.replicate r false) k=x at hst hlx ⊢;rw[show a9z (List.drop (b.ins.length-k) b.ins) (List.replicate r false)=toL b r k from rfl]at hdn;generalize hgy:toL b r k=y at hdn hly ⊢;have hs1:0≤a0n t→a0n t<r:=fun h=>by rcases hrt.sets with e | e<;>omega
   by_cases h0:0≤a0n t
   all_goals
    first
    | (simp only[go_sem,e1,eq_true (show 0≤a0n t from h0)]
       refine c3J x (a0n t) _ _ 3 3 _ (by rw[hlx]) (by rw[hlx];exact hr) (by rw[hlx];exact ⟨h0,hs1 h0⟩) rfl _ fun _=>?_;simp only[go_sem,c1S h0];refine c5Q y (a0n t) _ _ 4 4 _ (by rw[hly]) (by rw[hly];exact hr) (by rw[hly];exact ⟨h0,hs1 h0⟩) rfl _ fun _=>?_;rw[if_pos h0]at hdn;rw[← hdn];simp only[go_sem,e1,hgt])
    | (rw[if_neg h0]at hdn
       rw[← hdn];simp only[go_sem,e1,eq_false h0,hgt])
    repeat ((with_reducible refine And.intro ?_ ?_);· omega)
    refine VCall.of_contractN (a5D t) ?_ fun r hr'=>?_
    ·exact ⟨_,_,rfl,Frz.pure rfl,rfl⟩
    subst hr';simp only[go_sem];have hcl:(a0u t x).length=r:=by rw[a1J,hlx]
    refine a0r (fun j:Nat=>⟨[(2,.ptr 0 0 0),(4,.ptr 1 1 0),(5,.ptr 2 2 0),(45,a2t (a0l t)),(46,I (a0l t).length),(47,I j)],tcH b r (a3W (a0u t x) ((a0l t).take j)) (a9z (List.drop (b.ins.length-(k+1)) b.ins) (List.replicate r false)) Bo,7⟩)
     (fun j=>j≤(a0l t).length) (fun j=>(a0l t).length-j) 0 (Wk.mk (by simp[a0a]) ⟨[],by first | rfl | (rw[c1T h0];rfl)⟩ (Nat.le_refl _)) (by omega) ?_
    intro j hj;have hu2:=a2T t;by_cases hlt:j<(a0l t).length
    ·have hu:=hrt.1 _ (a0q hlt);simp only[go_sem,eq_true (show (j:Int)<(a0l t).length by omega)]
     repeat ((with_reducible refine And.intro ?_ ?_);· omega)
     refine c5Q (a3W (a0u t x) ((a0l t).take j)) _ _ _ 3 3 _ (by rw[a2c,hcl]) (by rw[a2c,hcl];exact hr) (by rw[a2c,hcl];exact hu) rfl _ fun _=>?_;rw[← a2U _ _ hlt];simp only[go_sem];rw[a0e (by omega) (by omega)];exact ⟨j+1,by omega,by omega,Wk.mk (by simp[a0a]) ⟨[],rfl⟩ (Nat.le_refl _)⟩
    ·simp only[go_sem,eq_false (show ¬ (j:Int)<(a0l t).length by omega)];refine hC' _ _ ⟨?_,rfl⟩;rw[List.take_of_length_le (by omega),← hst];rfl
  ·obtain ⟨rfl,rfl⟩:=hI;refine ⟨rfl,?_⟩;clear hY;rw[c5J,show toL b r b.ins.length=b3e b r by simp[toL,b3e]];simp only[go_sem];refine and_self_iff.2 ⟨_,Frz.tup (ys:=[_,_]) ?_,rfl⟩;exact ⟨_,_,rfl,b5q (l:=a4v b r) (Nat.zero_le _) rfl (by simp[a4v,a3e]),_,_,rfl,b5q (l:=b3e b r) (Nat.zero_le _) rfl (by simp[b3e,a7F]),rfl⟩
theorem c9k {l:List Bool} {v:Nat} (hv:v<64) (hl:l.length≤64):(IntKind.u64.wrap ((BitVec.ofInt 64 ((wd l:Int).fdiv (2 ^ min v 64)) &&& BitVec.ofInt 64 1).toNat:Nat) == (1:Int))=gB l v:=by
 rw[Nat.min_eq_left (by omega),Int.fdiv_eq_ediv_of_nonneg _ (by exact Int.le_of_lt (Int.pow_pos (by decide)))];have e:((wd l:Int) / 2 ^ v)=((wd l >>> v:Nat):Int):=by rw[Nat.shiftRight_eq_div_pow];simp
 have hlt:wd l >>> v<2 ^ 64:=Nat.lt_of_le_of_lt (Nat.shiftRight_le _ _) (a5G hl);rw[e,b4t,show BitVec.ofInt 64 1=BitVec.ofNat 64 1 from rfl,BitVec.toNat_and,BitVec.toNat_ofNat,BitVec.toNat_ofNat,Nat.mod_eq_of_lt hlt,show 1 % 2 ^ 64=1 by decide,Nat.and_one_is_mod];have h2:=a7E l v;rw[Nat.testBit_eq_decide_div_mod_eq,← Nat.shiftRight_eq_div_pow]at h2;rw[b3f (Nat.lt_of_lt_of_le (Nat.mod_lt _ (by decide)) (by decide)),← h2];rcases Nat.mod_two_eq_zero_or_one (wd l >>> v) with g | g<;>rw[g]<;>rfl
set_option maxRecDepth 10000
open Go.V
theorem c7L {l:List Bool} {v:Nat} (hv:v<64) (hl:l.length≤64):(IntKind.u64.wrap ((BitVec.ofInt IntKind.u64.bits ((wd l:Int).fdiv (2 ^ min v IntKind.u64.bits)) &&& BitVec.ofInt IntKind.u64.bits 1).toNat:Nat) == (1:Int))=gB l v:=c9k hv hl
theorem b9m (l:List Bool) (hl:l.length≤64):ContractN Tryz.prog 23 [.imm 1 (a0c l),I l.length] (fun r=>r=a7m l):=by
 refine ContractN.of_call (VCall.of_body a1g b0j (by simp) ?_);simp only[go_sem,a5i,c9c]
 repeat ((with_reducible refine And.intro ?_ ?_);· omega)
 refine a0r (fun k:Nat=>⟨[(0,.imm 1 (a0c l)),(5,.ref 0 0 0 l.length),(10,I l.length),(11,I k)],[⟨0,4,1,(b6Y l k).map B⟩],1⟩) (fun k=>k≤l.length) (fun k=>l.length-k) 0
  (Wk.mk (by simp[a0a]) ⟨[],by rw[b6Z];rfl⟩ (Nat.le_refl _)) (by omega) ?_
 intro k hk;by_cases hlt:k<l.length
 ·have hne:l.length≠0:=by omega
  have e1:((k:Int)).tdiv 64=0:=by rw[Int.tdiv_eq_ediv_of_nonneg (by omega)];omega
  have e2:((k:Int)).tmod 64=k:=by rw[Int.tmod_eq_emod_of_nonneg (by omega)];omega
  have e4:IntKind.i64.wrap 0=0:=rfl;have e5:=c7L (l:=l) (v:=k) (by omega) hl;have e6:IntKind.i64.wrap (k:Int)=k:=a0e (by omega) (by omega)
  simp only[↓a6l,↓b0H,↓b0I,↓a6y,↓b0J,↓a4x,↓a6m,↓b0K,↓a6n,↓a4z,↓a2B,↓a2C,↓a4A,↓a6p,↓a2D,↓a4B,↓a6q,↓a6r,↓a0a,↓a4C,↓a4D,↓a3t,↓a3u,↓a3r,↓a4y,↓a6o,↓a3s,↓b0P,↓a4G,↓a3w,↓b0Q,↓a4H,↓b0R,↓a6z,↓a6A,↓a4I,↓a6B,↓a6C,↓a6D,↓a4J,↓a6E,↓a6F,↓b0S,↓a4K,↓b0T,↓a6G,↓b0U,↓a6H,↓a6I,↓a6J,↓a6K,↓a6L,↓a6M,↓a6N,↓a6O,↓a6P,↓a6Q,↓a6R,↓a6S,↓a4L,undef,K.xtra,EOp.adds,a2A,↓a8D,↓b7O,↓VR.wp,↓VRs,a6d,b3R,c0M,unR,c0L,b2r,b7H,a1f,a0F,a5w,a3m,a1i,evs,a0V,AV.cells,AV.one,AV.laid,Value.oneCell',Nat.reduceEqDiff,Nat.reduceAdd,Nat.reduceMul,↓reduceIte,↓dreduceIte,true_and,and_true,List.cons_append,List.nil_append,List.length_map,List.length_cons,List.length_nil,List.getElem?_cons_zero,List.getElem?_cons_succ,List.map_cons,List.map_nil,Bool.not_true,Bool.not_false,forall_const,reduceCtorEq,false_implies,List.all_cons,List.all_nil,Bool.and_true,Bool.and_self,↓a4F,↓a3v,↓a6s,↓a6t,↓a1j,↓a2E,decide_eq_true_eq,decide_eq_false_iff_not,Int.toNat_natCast,bne_iff_ne,ne_eq,Bool.not_eq_true',Bool.not_eq_false',bne_eq_false_iff_eq,beq_iff_eq,beq_eq_false_iff_ne,implies_true,List.getD_cons_zero,List.getD_cons_succ,Bool.false_eq_true,false_or,or_false,true_or,or_true,Int.natCast_nonneg,Int.toNat_zero,Int.toNat_one,List.set_cons_zero,List.set_cons_succ,List.take_zero,List.take_succ_cons,List.take_nil,List.drop_zero,List.drop_succ_cons,List.drop_nil,List.append_nil,Nat.zero_add,Nat.add_zero,Nat.mul_one,Nat.zero_mul,↓b6m,↓a6T,↓b6n,↓b0V,↓b0W,↓a6U,↓b0X,↓b0Y,↓b0Z,↓a6V,↓b1a,↓b1b,↓b6o,↓a6W,↓b6p,↓b1c,↓b6q,↓b1d,↓b1e,↓b1f,↓b1g,↓b1h,↓b1i,↓b1j,↓b1k,↓b1l,↓a6X,↓a4M,↓a4N,↓a6Y,↓a6Z,↓a7a,↓a3x,↓a4O,b1m,a7b,a4P,a3y,cv,Nat.reduceLeDiff,Nat.reduceLT,Nat.le_refl,Nat.reduceSub,Int.reduceToNat,Int.reduceLE,Int.reduceLT,not_true_eq_false,not_false_eq_true,decide_true,decide_false,Bool.true_eq_false,↓b0L,↓b0M,↓b0N,↓b0O,↓a6u,↓a6v,↓a6w,↓a6x,a2O,a0E,a0x,a8g,Old,b7M,↓a4Q,↓a7g,↓b1n,↓b1o,↓b1p,↓b6r,↓b6s,↓a7h,↓a7i,↓a7l,↓b1q,↓a7j,↓a7k,↓b1r,↓b1s,↓b1t,↓b1u,↓b1v,↓a7c,↓a7d,↓a4R,↓a7e,↓a7f,↓a3Q,↓a3z,↓a2F,b1w,a2G,a3A,a2H,a4S,c4H,Bool.not_eq_true,Bool.not_eq_false,Classical.not_not,b0m,b0n,List.length_map,eq_true (show (k:Int)<l.length by omega),e1,e2,e4,e6,a0H hne,e5,c3A,a7T,b9j _ hlt]
  repeat ((with_reducible refine And.intro ?_ ?_);· first | omega | decide)
  rw[a0e (by omega) (by omega)];exact ⟨k+1,by omega,by omega,Wk.mk (by simp[a0a,a0H hne]) ⟨[],rfl⟩ (Nat.le_refl _)⟩
 ·obtain rfl:k=l.length:=by omega
  simp only[go_sem,eq_false (show ¬ (l.length:Int)<l.length by omega),b9k];exact ⟨_,c0c rfl rfl,rfl⟩
set_option maxRecDepth 10000
open Go.V
abbrev c5S (f:BF):List AV:=f.bks.map fun b=>.imm 1 (a0c (a4v b f.r))
abbrev c7M (f:BF):List AV:=f.bks.map fun b=>.imm 1 (a0c (b3e b f.r))
structure Ids where
 kS:Nat
 sS:Nat
 kI:Nat
 sI:Nat
 kO:Nat
 sO:Nat
 kW:Nat
 sW:Nat
 kA:Nat
 sA:Nat
 kR:Nat
 sR:Nat
 kT:Nat
 sT:Nat
 pi:Nat→Nat × Nat
 ri:Nat→Nat × Nat
 ro:Nat→Nat × Nat
def a4r (n:Nat) (wt:List Nat):List Bool:=(List.range n).map fun b=>decide (b ∈ wt)
abbrev c5T (f:BF) (q:Ids) (wv:AV):List AV:=[a7G f,.ref q.kA q.sA 0 f.n,.ref q.kR q.sR 0 f.n,.ref q.kT q.sT 0 f.n,.ref q.kI q.sI 0 f.n,.ref q.kO q.sO 0 f.n,wv,.ref q.kW q.sW 0 f.n]
abbrev a5M (n r:Nat) (g:Nat→Nat × Nat):List AV:=(List.range n).map fun b=>.ref (g b).1 (g b).2 0 (rl r)
abbrev b2b (l:List Nat):List AV:=l.map fun b=>I (b:Nat)
def WtV (n:Nat) (pi:Nat→Nat × Nat) (H:List VObj) (wv:AV) (wt:List Nat):Prop:=(wv=a0T∧wt=[])∨∃ k s rest,wv = .ref k s 0 wt.length∧H[k]? = some ⟨s,3,1,b2b (wt++rest)⟩∧∀ c<n,(pi c).1≠k
structure HS (f:BF) (H:List VObj) (q:Ids) (wv:AV) (σ:SV):Prop where
 so:H[q.kS]? = some ⟨q.sS,70,1,c5T f q wv⟩
 li:H[q.kI]? = some ⟨q.sI,72,1,a5M f.n f.r q.ri⟩
 lo:H[q.kO]? = some ⟨q.sO,72,1,a5M f.n f.r q.ro⟩
 ri:∀ b<f.n,H[(q.ri b).1]? = some ⟨(q.ri b).2,108,1,a0c (σ.I.getD b [])⟩
 ro:∀ b<f.n,H[(q.ro b).1]? = some ⟨(q.ro b).2,108,1,a0c (σ.O.getD b [])⟩
 w:H[q.kW]? = some ⟨q.sW,4,1,(a4r f.n σ.wt).map B⟩
 wt:WtV f.n q.pi H wv σ.wt
 la:H[q.kA]? = some ⟨q.sA,28,1,(List.range f.n).map fun b=>.ref (q.pi b).1 (q.pi b).2 0 (a3f f b).length⟩
 lr:H[q.kR]? = some ⟨q.sR,72,1,c5S f⟩
 lt:H[q.kT]? = some ⟨q.sT,72,1,c7M f⟩
 pr:∀ b<f.n,H[(q.pi b).1]? = some ⟨(q.pi b).2,3,1,b2b (a3f f b)⟩
 dI:∀ b<f.n,∀ c<f.n,(q.ri b).1=(q.ri c).1→b=c
 dO:∀ b<f.n,∀ c<f.n,(q.ro b).1=(q.ro c).1→b=c
 dIO:∀ b<f.n,∀ c<f.n,(q.ri b).1≠(q.ro c).1
theorem WtV.one {n:Nat} {pi:Nat→Nat × Nat} {H:List VObj} {wv:AV} {wt:List Nat} (h:WtV n pi H wv wt):wv.one=true:=by
 rcases h with ⟨h,_⟩ | ⟨_,_,_,h,_⟩<;>rw[h]<;>rfl
theorem a4s {n b:Nat} {wt:List Nat} (h:b<n):gB (a4r n wt) b=decide (b ∈ wt):=by
 unfold a4r;rw[gB,List.getD];simp[h]
theorem a5r (n:Nat) (wt:List Nat):(a4r n wt).length=n:=by simp[a4r]
theorem b7d {n b:Nat} {wt:List Nat} (h:b<n):(a4r n wt).set b true=a4r n (wt++[b]):=a7C (by simp[a4r]) fun v hv=>by
 have hv':v<n:=by simpa [a4r] using hv
 rw[a8u _ _ _ _ (by rw[a5r];exact hv'),a4s hv',a4s hv'];by_cases e:b=v
 ·subst e;simp
 ·rw[if_neg e];have:¬ v=b:=fun h=>e h.symm;simp[this]
theorem HS.keep {f:BF} {H H':List VObj} {q:Ids} {wv wv':AV} {σ:SV} {wt':List Nat} (h:HS f H q wv σ) (k:KeepT [70,4,3] H H')
 (so:H'[q.kS]? = some ⟨q.sS,70,1,c5T f q wv'⟩) (w:H'[q.kW]? = some ⟨q.sW,4,1,(a4r f.n wt').map B⟩) (wt:WtV f.n q.pi H' wv' wt') (pr:∀ b<f.n,H'[(q.pi b).1]? = H[(q.pi b).1]?):HS f H' q wv' ⟨σ.I,σ.O,wt'⟩ :=
 ⟨so,k _ _ h.li (by simp),k _ _ h.lo (by simp),fun b hb=>k _ _ (h.ri b hb) (by simp),fun b hb=>k _ _ (h.ro b hb) (by simp),w,wt,k _ _ h.la (by simp),k _ _ h.lr (by simp),k _ _ h.lt (by simp),fun b hb=>(pr b hb).trans (h.pr b hb),h.dI,h.dO,h.dIO⟩
theorem c4R {f:BF} {H:List VObj} {q:Ids} {wv:AV} {σ:SV} (h:HS f H q wv σ) (nx b:Nat) (hb:b<f.n) (hn:f.n≤500) (hl:σ.wt.length≤500) (C:AV→List VObj→Nat→Prop)
 (hC:∀ r H' nx' wv',HS f H' q wv' ⟨σ.I,σ.O,b2a σ.wt b⟩→KeepT [70,4,3] H H'→C r H' nx') :
 VCall Tryz.prog 22 [.ptr q.kS q.sS 0,I b] H nx C:=by
 refine VCall.of_body a1g a9n (by simp) ?_;have hmx:(200000:Nat)≤maxLen:=by decide
 have hso:=h.so;have hw:=h.w;have e1:=a2L hw hso (by simp);have e1':=a2L hso hw (by simp);have l1:=a1l hso;have l2:=a1l hw;by_cases hm:b ∈ σ.wt
 ·have hg:gB (a4r f.n σ.wt) b=true:=by rw[a4s hb,decide_eq_true hm]
  simp only[go_sem,a1R,hso,hw,b0p,hg,a5r]
  repeat ((with_reducible refine And.intro ?_ ?_);· omega)
  refine hC _ H _ wv ?_ (KeepT.refl _ _);rw[show b2a σ.wt b=σ.wt from if_pos hm];exact h
 ·have hg:gB (a4r f.n σ.wt) b=false:=by rw[a4s hb,decide_eq_false hm]
  have hws:b2a σ.wt b=σ.wt++[b]:=if_neg hm;rw[hws]at hC;rcases h.wt with ⟨rfl,hwt⟩ | ⟨k,s,rest,rfl,hk,hkp⟩
  ·have n1:=a2p hso;have n2:=a2p hw;simp only[go_sem,a1R,hso,hw,b0p,hg,a5r,c3A,b7d hb,e1,e1',l1,l2,List.getElem?_set,List.getElem?_append,List.length_set,List.length_append,Nat.lt_irrefl,Nat.sub_self]
   repeat ((with_reducible refine And.intro ?_ ?_);· first | omega | exact ⟨rfl,rfl,rfl⟩)
   have m1:=eq_true (show q.kS<H.length+1 by have:=of_eq_true l1;omega);have m2:=eq_true (show q.kW<H.length+1 by have:=of_eq_true l2;omega);have m3:=eq_true (show q.kS<H.length+1+1 by have:=of_eq_true l1;omega);have m4:=b5p hso;have m5:=eq_false (show ¬ q.kS=H.length+1 by have:=of_eq_true l1;omega);have kp:∀ (x y:VObj) (oW oS:VObj),KeepT [70,4,3] H ((H.set q.kW oW++[x]++[y]).set q.kS oS):=fun x y oW oS =>
    (((KeepT.set hw (by simp)).trans (KeepT.app _ _ _)).trans (KeepT.app _ _ _)).trans (KeepT.set (ob:=⟨q.sS,70,1,c5T f q a0T⟩) (by simp only[List.getElem?_set,List.getElem?_append,List.length_set,List.length_append,Nat.lt_irrefl,Nat.sub_self,List.length_cons,List.length_nil,↓reduceIte,List.getElem?_cons_zero,Nat.zero_add,m1,m2,m3,m4,l1,l2,e1,e1',hso,hw]) (by simp))
   refine hC _ _ _ (.ref (H.length+1) (nx+1) 0 1) (h.keep (wt':=σ.wt++[b]) (kp _ _ _ _) ?_ ?_ (.inr ⟨H.length+1,nx+1,[],by rw[hwt];rfl,?_,fun c hc e=>by have:=of_eq_true (a1l (h.pr c hc));omega⟩) fun c hc=>?_) (kp _ _ _ _)
   ·simp only[List.getElem?_set,List.getElem?_append,List.length_set,List.length_append,Nat.lt_irrefl,Nat.sub_self,List.length_cons,List.length_nil,↓reduceIte,List.getElem?_cons_zero,Nat.zero_add,m1,m2,m3,m4,l1,l2,e1,e1',hso,hw]
   ·simp only[List.getElem?_set,List.getElem?_append,List.length_set,List.length_append,Nat.lt_irrefl,Nat.sub_self,List.length_cons,List.length_nil,↓reduceIte,List.getElem?_cons_zero,Nat.zero_add,m1,m2,m3,m4,l1,l2,e1,e1',hso,hw]
   ·simp only[List.getElem?_set,List.getElem?_append,List.length_set,List.length_append,Nat.lt_irrefl,Nat.sub_self,List.length_cons,List.length_nil,↓reduceIte,List.getElem?_cons_zero,Nat.zero_add,m1,m2,m3,m4,l1,l2,e1,e1',hso,hw,m5];rw[hwt];rfl
   ·have hp:=h.pr c hc;have p1:=a2L hw hp (by simp);have p2:=a2L hso hp (by simp);have p3:=a1l hp;have p4:=eq_true (show (q.pi c).1<H.length+1 by have:=of_eq_true p3;omega);simp only[List.getElem?_set,List.getElem?_append,List.length_set,List.length_append,List.length_cons,List.length_nil,↓reduceIte,Nat.zero_add,p1,p2,p3,p4]
  ·have e2:=a2L hk hso (by simp);have e3:=a2L hk hw (by simp);have e2':=a2L hso hk (by simp);have e3':=a2L hw hk (by simp);have l3:=a1l hk;simp only[go_sem,a1R,hso,hw,hk,b0p,hg,a5r,c3A,b7d hb,e1,e1',l1,l2,e2,e2',e3,e3',l3,List.getElem?_set,List.getElem?_append,List.length_set,List.length_append,Nat.lt_irrefl,Nat.sub_self]
   repeat ((with_reducible refine And.intro ?_ ?_);· first | omega | exact ⟨rfl,rfl,rfl⟩)
   have m1:=eq_true (show q.kS<H.length+1 by have:=of_eq_true l1;omega);have m2:=eq_true (show q.kW<H.length+1 by have:=of_eq_true l2;omega);have m3:=eq_true (show k<H.length+1 by have:=of_eq_true l3;omega);have kp:∀ (x y:VObj) (oW oS:VObj),KeepT [70,4,3] H (((H.set q.kW oW++[x]).set k y).set q.kS oS):=fun x y oW oS =>
    (((KeepT.set hw (by simp)).trans (KeepT.app _ _ _)).trans (KeepT.set (ob:=⟨s,3,1,b2b (σ.wt++rest)⟩) (by simp only[List.getElem?_set,List.getElem?_append,List.length_set,List.length_append,Nat.lt_irrefl,Nat.sub_self,List.length_cons,List.length_nil,↓reduceIte,List.getElem?_cons_zero,m1,m2,m3,l1,l2,l3,e1,e1',e2,e2',e3,e3',hso,hw,hk]) (by simp))).trans
     (KeepT.set (ob:=⟨q.sS,70,1,c5T f q (.ref k s 0 σ.wt.length)⟩) (by simp only[List.getElem?_set,List.getElem?_append,List.length_set,List.length_append,Nat.lt_irrefl,Nat.sub_self,List.length_cons,List.length_nil,↓reduceIte,List.getElem?_cons_zero,m1,m2,m3,l1,l2,l3,e1,e1',e2,e2',e3,e3',hso,hw,hk]) (by simp))
   refine hC _ _ _ (.ref k (nx+1) 0 (σ.wt.length+1)) (h.keep (wt':=σ.wt++[b]) (kp _ _ _ _) ?_ ?_ (.inr ⟨k,nx+1,[],by simp,?_,hkp⟩) fun c hc=>?_) (kp _ _ _ _)
   ·simp only[List.getElem?_set,List.getElem?_append,List.length_set,List.length_append,Nat.lt_irrefl,Nat.sub_self,List.length_cons,List.length_nil,↓reduceIte,List.getElem?_cons_zero,m1,m2,m3,l1,l2,l3,e1,e1',e2,e2',e3,e3',hso,hw,hk]
   ·simp only[List.getElem?_set,List.getElem?_append,List.length_set,List.length_append,Nat.lt_irrefl,Nat.sub_self,List.length_cons,List.length_nil,↓reduceIte,List.getElem?_cons_zero,m1,m2,m3,l1,l2,l3,e1,e1',e2,e2',e3,e3',hso,hw,hk]
   ·simp only[List.getElem?_set,List.getElem?_append,List.length_set,List.length_append,Nat.lt_irrefl,Nat.sub_self,List.length_cons,List.length_nil,↓reduceIte,List.getElem?_cons_zero,m1,m2,m3,l1,l2,l3,e1,e1',e2,e2',e3,e3',hso,hw,hk];simp[b2b]
   ·have hp:=h.pr c hc;have p1:=a2L hw hp (by simp);have p2:=a2L hso hp (by simp);have p3:=a1l hp;have p5:=eq_false (show ¬ k=(q.pi c).1 from fun e=>hkp c hc e.symm);simp only[List.getElem?_set,List.getElem?_append,List.length_set,List.length_append,List.length_cons,List.length_nil,↓reduceIte,Nat.zero_add,p1,p2,p3,p5]
set_option maxRecDepth 10000
open Go.V
theorem a3g {n r b:Nat} {g:Nat→Nat × Nat} {C:AV→Prop}:a0D (a5M n r g) b false 1 C .mk=(b<n∧C (.ref (g b).1 (g b).2 0 (rl r))):=by
 rw[a1j (fun _=>rfl)];apply propext;rw[List.length_range];refine ⟨fun ⟨h1,h2⟩=>⟨h1,?_⟩,fun ⟨h1,h2⟩=>⟨h1,?_⟩⟩
 ·rw[a2q h1]at h2;exact h2
 ·rw[a2q h1];exact h2
theorem b7e {l:List Bk} {g:Bk→List AV} {b:Nat} {C:AV→Prop}:a0D (l.map fun k=>AV.imm 1 (g k)) b false 1 C .mk=(b<l.length∧C (.imm 1 (g (l.getD b default)))):=a1j fun _=>rfl
section
variable {f:BF} {H:List VObj} {q:Ids} {wv:AV} {σ:SV}
theorem WtV.keep {n:Nat} {pi:Nat→Nat × Nat} {H H':List VObj} {wv:AV} {wt:List Nat} {ts:List Nat} (h:WtV n pi H wv wt) (k:KeepT ts H H') (ht:3 ∉ ts):WtV n pi H' wv wt:=by
 rcases h with h | ⟨i,s,rest,h1,h2,h3⟩
 ·exact .inl h
 ·exact .inr ⟨i,s,rest,h1,k _ _ h2 ht,h3⟩
theorem HS.setO (h:HS f H q wv σ) (hs:SizedP f σ.L) {b:Nat} (hb:b<f.n) (l:List Bool):HS f (H.set (q.ro b).1 ⟨(q.ro b).2,108,1,a0c l⟩) q wv ⟨σ.I,σ.O.set b l,σ.wt⟩:=by
 have k:KeepT [108] H (H.set (q.ro b).1 ⟨(q.ro b).2,108,1,a0c l⟩):=KeepT.set (h.ro b hb) (by simp);have hO:b<σ.O.length:=by rw[show σ.O.length=f.n from hs.o];exact hb
 refine ⟨k _ _ h.so (by simp),k _ _ h.li (by simp),k _ _ h.lo (by simp),fun c hc=>?_,fun c hc=>?_,k _ _ h.w (by simp),h.wt.keep k (by simp),k _ _ h.la (by simp),k _ _ h.lr (by simp),k _ _ h.lt (by simp),fun c hc=>k _ _ (h.pr c hc) (by simp),h.dI,h.dO,h.dIO⟩
 ·rw[a0O (fun e=>h.dIO c hc b hb e.symm)];exact h.ri c hc
 ·show _=some (VObj.mk _ _ _ (a0c ((σ.O.set b l).getD c [])));rw[a5H hO];by_cases e:b=c
  ·subst e;rw[if_pos rfl];exact a0N (h.ro b hb)
  ·rw[if_neg e,a0O (fun g=>e (h.dO b hb c hc g))];exact h.ro c hc
theorem HS.setI (h:HS f H q wv σ) (hs:SizedP f σ.L) {b:Nat} (hb:b<f.n) (l:List Bool):HS f (H.set (q.ri b).1 ⟨(q.ri b).2,108,1,a0c l⟩) q wv ⟨σ.I.set b l,σ.O,σ.wt⟩:=by
 have k:KeepT [108] H (H.set (q.ri b).1 ⟨(q.ri b).2,108,1,a0c l⟩):=KeepT.set (h.ri b hb) (by simp);have hI:b<σ.I.length:=by rw[show σ.I.length=f.n from hs.i];exact hb
 refine ⟨k _ _ h.so (by simp),k _ _ h.li (by simp),k _ _ h.lo (by simp),fun c hc=>?_,fun c hc=>?_,k _ _ h.w (by simp),h.wt.keep k (by simp),k _ _ h.la (by simp),k _ _ h.lr (by simp),k _ _ h.lt (by simp),fun c hc=>k _ _ (h.pr c hc) (by simp),h.dI,h.dO,h.dIO⟩
 ·show _=some (VObj.mk _ _ _ (a0c ((σ.I.set b l).getD c [])));rw[a5H hI];by_cases e:b=c
  ·subst e;rw[if_pos rfl];exact a0N (h.ri b hb)
  ·rw[if_neg e,a0O (fun g=>e (h.dI b hb c hc g))];exact h.ri c hc
 ·rw[a0O (fun e=>h.dIO b hb c hc e)];exact h.ro c hc
theorem c7N {a b:List Bool} (hl:a.length=b.length) (ha:a.length≤64):IntKind.u64.wrap ((BitVec.ofInt IntKind.u64.bits (wd a:Int) ||| BitVec.ofInt IntKind.u64.bits (wd b:Int)).toNat:Nat)=((wd (orL a b):Nat):Int):=by
 rw[← c7w hl];exact c8Q (a5G ha) (a5G (by omega))
theorem c7O {a b:List Bool} (ha:a.length≤64) (hb:b.length≤64):IntKind.u64.wrap ((BitVec.ofInt IntKind.u64.bits (wd a:Int) &&& ~~~BitVec.ofInt IntKind.u64.bits (wd b:Int)).toNat:Nat)=((wd (c0K a b):Nat):Int):=b5o ha hb
theorem c7P (rd out st:List Bool) (hl:rd.length=out.length):orL rd (c0K out st)=c4N rd out st:=a7C (by simp[orL,c4N,hl]) fun v hv=>by
 rw[a2j]at hv;rw[b5j _ _ hv,c4O _ _ _ (by omega),c1V _ _ (by omega)]
theorem c7Q (hf:Fine f) (h:HS f H q wv σ) (hs:SizedP f σ.L) (hr:f.r≤64) (nx b:Nat) (hb:b<f.n) (C:AV→List VObj→Nat→Prop)
 (hC:∀ H',HS f H' q wv (a8d f σ b)→KeepT [108] H H'→C (B (a5c f σ b)) H' nx):VCall Tryz.prog 21 [.ptr q.kS q.sS 0,I b] H nx C:=by
 refine VCall.of_body a1g a9m (by simp) ?_;have hso:=h.so;have hlo:=h.lo;have hli:=h.li;have hob:=h.ro b hb;have hib:=h.ri b hb;have hbn:b<f.bks.length:=hb;have hbk:f.bks.getD b default=f.bk b:=rfl;have hrg:=a2q hb;have e1:=a2L hob hso (by simp);have e2:=a2L hob hlo (by simp);have e3:=a2L hob hli (by simp);have e4:((q.ro b).1=(q.ri b).1)=False:=eq_false fun e=>h.dIO b hb b hb e.symm;have l1:=a1l hob;have l2:=a1l hib;have hol:(σ.O.getD b []).length=f.r:=hs.ol hb;have hil:(σ.I.getD b []).length=f.r:=hs.il hb;have hto:=hf.to _ (BF.mem hb);have hnl:=b3a (f.bk b);have hlen:(f.bks.map fun b=>a2t (nxt b)).length=f.n:=by simp[BF.n]
 simp only[go_sem,a4T,hso,hlo,a3g,hrg,List.length_range,hbk]
 repeat ((with_reducible refine And.intro ?_ ?_);· omega)
 refine a0r (fun j:Nat=>⟨[(0,.ptr q.kS q.sS 0),(1,I b),(5,.ref (q.ro b).1 (q.ro b).2 0 (rl f.r)),(6,B false),(26,a2t (nxt (f.bk b))),(27,I (nxt (f.bk b)).length),(28,I j)],
  H.set (q.ro b).1 ⟨(q.ro b).2,108,1,a0c (c0j σ.I (σ.O.getD b []) ((nxt (f.bk b)).take j))⟩,nx⟩) (fun j=>j≤(nxt (f.bk b)).length) (fun j=>(nxt (f.bk b)).length-j) 0
  (Wk.mk (by simp[a0a]) ⟨[],by rw[List.append_nil];exact (b0q hob).symm⟩ (Nat.le_refl _)) (by omega) ?_
 intro j hj;by_cases hlt:j<(nxt (f.bk b)).length
 ·have hk:=hto _ (a0q hlt);have hgt:=c1X σ.I (σ.O.getD b []) _ hlt;have hgl:=b5k σ.I ((nxt (f.bk b)).take j) (σ.O.getD b []);generalize hkk:(nxt (f.bk b)).getD j default=k at hk hgt ⊢;have hkn:k.toNat<f.n:=by unfold BF.n;omega
  have hik:=h.ri k.toNat hkn;have hkl:(σ.I.getD k.toNat []).length=f.r:=hs.il hkn;have hrk:=a2q hkn;have e5:((q.ro b).1=(q.ri k.toNat).1)=False:=eq_false fun e=>h.dIO _ hkn b hb e.symm;generalize hx:c0j σ.I (σ.O.getD b []) ((nxt (f.bk b)).take j)=x at hgt hgl ⊢;rw[hol]at hgl;simp only[go_sem,hso,hlo,hli,hik,a3g,hrk,List.length_range,hbk,hkk,eq_true (show (j:Int)<(nxt (f.bk b)).length by omega),List.getElem?_set,e1,e2,e3,e4,e5,l1]
  repeat ((with_reducible refine And.intro ?_ ?_);· omega)
  have hyl:=hkl;generalize hy:σ.I.getD k.toNat []=y at hik hyl hkl;have hgt':c0j σ.I (σ.O.getD b []) ((nxt (f.bk b)).take (j+1))=orL x y:=by rw[hgt];exact congrArg _ hy
  have hr1:rl f.r≤1:=by unfold rl;split<;>omega
  refine a0r (fun i:Nat=>⟨[(0,.ptr q.kS q.sS 0),(1,I b),(5,.ref (q.ro b).1 (q.ro b).2 0 (rl f.r)),(6,B false),(26,a2t (nxt (f.bk b))),(27,I (nxt (f.bk b)).length),(28,I j),(38,.ref (q.ri k.toNat).1 (q.ri k.toNat).2 0 (rl f.r)),(39,I (rl f.r)),(40,I i)],
   H.set (q.ro b).1 ⟨(q.ro b).2,108,1,a0c (if i=0 then x else orL x y)⟩,nx⟩) (fun i=>i≤rl f.r) (fun i=>rl f.r-i) 0
   (Wk.mk (by simp[a0a]) ⟨[],by simp⟩ (Nat.le_refl _)) (by omega) ?_
  intro i hi;by_cases h1:i<rl f.r
  ·have h0:f.r≠0:=fun e=>by unfold rl at h1;rw[if_pos e]at h1;omega
   have hi0:i=0:=by omega
   subst hi0;have e6:=c7N (a:=x) (b:=y) (by omega) (by omega);have e7:a0c x=[U64 (wd x)]:=a0H (by omega);have e8:a0c y=[U64 (wd y)]:=a0H (by omega);have e9:a0c (orL x y)=[U64 (wd (orL x y))]:=a0H (by rw[a2j];omega);rw[if_pos rfl,e7];rw[e8]at hik
   simp only[↓a6l,↓b0H,↓b0I,↓a6y,↓b0J,↓a4x,↓a6m,↓b0K,↓a6n,↓a4z,↓a2B,↓a2C,↓a4A,↓a6p,↓a2D,↓a4B,↓a6q,↓a6r,↓a0a,↓a4C,↓a4D,↓a3t,↓a3u,↓a3r,↓a4y,↓a6o,↓a3s,↓b0P,↓a4G,↓a3w,↓b0Q,↓a4H,↓b0R,↓a6z,↓a6A,↓a4I,↓a6B,↓a6C,↓a6D,↓a4J,↓a6E,↓a6F,↓b0S,↓a4K,↓b0T,↓a6G,↓b0U,↓a6H,↓a6I,↓a6J,↓a6K,↓a6L,↓a6M,↓a6N,↓a6O,↓a6P,↓a6Q,↓a6R,↓a6S,↓a4L,undef,K.xtra,EOp.adds,a2A,↓a8D,↓b7O,↓VR.wp,↓VRs,a6d,b3R,c0M,unR,c0L,b2r,b7H,a1f,a0F,a5w,a3m,a1i,evs,a0V,AV.cells,AV.one,AV.laid,Value.oneCell',Nat.reduceEqDiff,Nat.reduceAdd,Nat.reduceMul,↓reduceIte,↓dreduceIte,true_and,and_true,List.cons_append,List.nil_append,List.length_map,List.length_cons,List.length_nil,List.getElem?_cons_zero,List.getElem?_cons_succ,List.map_cons,List.map_nil,Bool.not_true,Bool.not_false,forall_const,reduceCtorEq,false_implies,List.all_cons,List.all_nil,Bool.and_true,Bool.and_self,↓a4F,↓a3v,↓a6s,↓a6t,↓a1j,↓a2E,decide_eq_true_eq,decide_eq_false_iff_not,Int.toNat_natCast,bne_iff_ne,ne_eq,Bool.not_eq_true',Bool.not_eq_false',bne_eq_false_iff_eq,beq_iff_eq,beq_eq_false_iff_ne,implies_true,List.getD_cons_zero,List.getD_cons_succ,Bool.false_eq_true,false_or,or_false,true_or,or_true,Int.natCast_nonneg,Int.toNat_zero,Int.toNat_one,List.set_cons_zero,List.set_cons_succ,List.take_zero,List.take_succ_cons,List.take_nil,List.drop_zero,List.drop_succ_cons,List.drop_nil,List.append_nil,Nat.zero_add,Nat.add_zero,Nat.mul_one,Nat.zero_mul,↓b6m,↓a6T,↓b6n,↓b0V,↓b0W,↓a6U,↓b0X,↓b0Y,↓b0Z,↓a6V,↓b1a,↓b1b,↓b6o,↓a6W,↓b6p,↓b1c,↓b6q,↓b1d,↓b1e,↓b1f,↓b1g,↓b1h,↓b1i,↓b1j,↓b1k,↓b1l,↓a6X,↓a4M,↓a4N,↓a6Y,↓a6Z,↓a7a,↓a3x,↓a4O,b1m,a7b,a4P,a3y,cv,Nat.reduceLeDiff,Nat.reduceLT,Nat.le_refl,Nat.reduceSub,Int.reduceToNat,Int.reduceLE,Int.reduceLT,not_true_eq_false,not_false_eq_true,decide_true,decide_false,Bool.true_eq_false,↓b0L,↓b0M,↓b0N,↓b0O,↓a6u,↓a6v,↓a6w,↓a6x,a2O,a0E,a0x,a8g,Old,b7M,↓a4Q,↓a7g,↓b1n,↓b1o,↓b1p,↓b6r,↓b6s,↓a7h,↓a7i,↓a7l,↓b1q,↓a7j,↓a7k,↓b1r,↓b1s,↓b1t,↓b1u,↓b1v,↓a7c,↓a7d,↓a4R,↓a7e,↓a7f,↓a3Q,↓a3z,↓a2F,b1w,a2G,a3A,a2H,a4S,c4H,Bool.not_eq_true,Bool.not_eq_false,Classical.not_not,hik,b0m,b0n,a4p h0,Int.natCast_zero,Nat.cast_one',List.getElem?_set,e1,e2,e3,e4,e5,l1,e6]
   repeat ((with_reducible refine And.intro ?_ ?_);· first | omega | decide)
   refine ⟨1,by omega,by omega,Wk.mk (by simp[a0a,a4p h0];decide) ⟨[],by simp[List.set_set,e9]⟩ (Nat.le_refl _)⟩
  ·obtain rfl:i=rl f.r:=by omega
   simp only[go_sem,eq_false (show ¬ (rl f.r:Int)<rl f.r by omega)];rw[a0e (by omega) (by omega)];refine ⟨j+1,by omega,by omega,Wk.mk (by simp[a0a]) ⟨[],?_⟩ (Nat.le_refl _)⟩;rw[hgt',List.append_nil];by_cases h0:f.r=0
   ·have e7:a0c x=[]:=if_pos (by omega);have e9:a0c (orL x y)=[]:=if_pos (by rw[a2j];omega);split
    ·rw[e7,e9]
    ·rfl
   ·rw[if_neg (by rw[a4p h0];decide)]
 ·obtain rfl:j=(nxt (f.bk b)).length:=by omega
  rw[List.take_of_length_le (Nat.le_refl _)];have hS1:=h.setO hs hb (a7S f σ.I σ.O b);have hnl':=a9B hf hs hb;have hwl:=c1N hf hb _ hnl';have hro:a4v (f.bk b) f.r=a4v (f.bk b) f.r:=rfl;have hgr:c0j σ.I (σ.O.getD b []) (nxt (f.bk b))=a7S f σ.I σ.O b:=rfl;rw[hgr];have hob1:=a0N (x:=⟨(q.ro b).2,108,1,a0c (a7S f σ.I σ.O b)⟩) hob;have kp1:KeepT [108] H (H.set (q.ro b).1 ⟨(q.ro b).2,108,1,a0c (a7S f σ.I σ.O b)⟩):=KeepT.set hob (by simp);generalize H.set (q.ro b).1 ⟨(q.ro b).2,108,1,a0c (a7S f σ.I σ.O b)⟩=H1 at hS1 hob1 kp1 ⊢;have hsz1:SizedP f (SV.L ⟨σ.I,σ.O.set b (a7S f σ.I σ.O b),σ.wt⟩):=hs.setO hnl';have hS2:=hS1.setI hsz1 hb (grown f σ b);have hso1:=hS1.so;have hlr1:=hS1.lr;have hlt1:=hS1.lt;have hli1:=hS1.li;have hib1:H1[(q.ri b).1]? = some ⟨(q.ri b).2,108,1,a0c (σ.I.getD b [])⟩:=hS1.ri b hb
  have kp2:KeepT [108] H1 (H1.set (q.ri b).1 ⟨(q.ri b).2,108,1,a0c (grown f σ b)⟩):=KeepT.set hib1 (by simp);have hgl:=b6W hf hs hb;have hr1:rl f.r≤1:=by unfold rl;split<;>omega
  have hgrow:c4N (a4v (f.bk b) f.r) (a7S f σ.I σ.O b) (b3e (f.bk b) f.r)=grown f σ b:=hwl;have hrdl:(a4v (f.bk b) f.r).length=f.r:=by unfold a4v;rw[a3e];simp
  have hstl:(b3e (f.bk b) f.r).length=f.r:=by unfold b3e;rw[a7F];simp
  have hosub:=c7P (a4v (f.bk b) f.r) (a7S f σ.I σ.O b) (b3e (f.bk b) f.r) (by omega);rw[hgrow]at hosub;have hnomore:a5c f σ b=false→σ.I.set b (grown f σ b)=σ.I:=fun e=>by
   have e':σ.I.getD b []=grown f σ b:=Classical.byContradiction fun g=>by rw[a5c,decide_eq_true g]at e;cases e
   have hbI:b<σ.I.length:=by rw[show σ.I.length=f.n from hs.i];exact hb
   refine b0q ?_;rw[← e',List.getElem?_eq_getElem hbI];simp[List.getD,List.getElem?_eq_getElem hbI]
  simp only[go_sem,hso1,hob1,eq_false (show ¬ ((nxt (f.bk b)).length:Int)<(nxt (f.bk b)).length by omega)];refine a0r (fun i:Nat=>⟨[(0,.ptr q.kS q.sS 0),(1,I b),(5,.ref (q.ro b).1 (q.ro b).2 0 (rl f.r)),(6,B (if i=0 then false else a5c f σ b)),(54,.ref (q.ro b).1 (q.ro b).2 0 (rl f.r)),(55,I (rl f.r)),(56,I i)],
   if i=0∨a5c f σ b=false then H1 else H1.set (q.ri b).1 ⟨(q.ri b).2,108,1,a0c (grown f σ b)⟩,nx⟩) (fun i=>i≤rl f.r) (fun i=>rl f.r-i) 0
   (Wk.mk (by simp[a0a]) ⟨[],by simp⟩ (Nat.le_refl _)) (by omega) ?_
  intro i hi;by_cases h1:i<rl f.r
  ·have h0:f.r≠0:=fun e=>by unfold rl at h1;rw[if_pos e]at h1;omega
   have hi0:i=0:=by omega
   subst hi0;have e6:=c7O (a:=a7S f σ.I σ.O b) (b:=b3e (f.bk b) f.r) (by omega) (by omega);have e6':=c7N (a:=a4v (f.bk b) f.r) (b:=c0K (a7S f σ.I σ.O b) (b3e (f.bk b) f.r)) (by rw[b2k];omega) (by omega);rw[hosub]at e6';have e7:a0c (a7S f σ.I σ.O b)=[U64 (wd (a7S f σ.I σ.O b))]:=a0H (by omega);have e8:a0c (σ.I.getD b [])=[U64 (wd (σ.I.getD b []))]:=a0H (by omega);have e9:a0c (grown f σ b)=[U64 (wd (grown f σ b))]:=a0H (by omega);have e10:a0c (a4v (f.bk b) f.r)=[U64 (wd (a4v (f.bk b) f.r))]:=a0H (by omega);have e11:a0c (b3e (f.bk b) f.r)=[U64 (wd (b3e (f.bk b) f.r))]:=a0H (by omega);rw[e7]at hob1;rw[e8]at hib1;rw[if_pos (show (0:Nat)=0 from rfl),if_pos (show (0:Nat)=0∨a5c f σ b=false from .inl rfl)];cases hm:a5c f σ b
   ·have e':σ.I.getD b []=grown f σ b:=Classical.byContradiction fun g=>by rw[a5c,decide_eq_true g]at hm;cases hm
    have ew:(wd (grown f σ b):Int)=wd (σ.I.getD b []):=by rw[e']
    simp only[↓a6l,↓b0H,↓b0I,↓a6y,↓b0J,↓a4x,↓a6m,↓b0K,↓a6n,↓a4z,↓a2B,↓a2C,↓a4A,↓a6p,↓a2D,↓a4B,↓a6q,↓a6r,↓a0a,↓a4C,↓a4D,↓a3t,↓a3u,↓a3r,↓a4y,↓a6o,↓a3s,↓b0P,↓a4G,↓a3w,↓b0Q,↓a4H,↓b0R,↓a6z,↓a6A,↓a4I,↓a6B,↓a6C,↓a6D,↓a4J,↓a6E,↓a6F,↓b0S,↓a4K,↓b0T,↓a6G,↓b0U,↓a6H,↓a6I,↓a6J,↓a6K,↓a6L,↓a6M,↓a6N,↓a6O,↓a6P,↓a6Q,↓a6R,↓a6S,↓a4L,undef,K.xtra,EOp.adds,a2A,↓a8D,↓b7O,↓VR.wp,↓VRs,a6d,b3R,c0M,unR,c0L,b2r,b7H,a1f,a0F,a5w,a3m,a1i,evs,a0V,AV.cells,AV.one,AV.laid,Value.oneCell',Nat.reduceEqDiff,Nat.reduceAdd,Nat.reduceMul,↓reduceIte,↓dreduceIte,true_and,and_true,List.cons_append,List.nil_append,List.length_map,List.length_cons,List.length_nil,List.getElem?_cons_zero,List.getElem?_cons_succ,List.map_cons,List.map_nil,Bool.not_true,Bool.not_false,forall_const,reduceCtorEq,false_implies,List.all_cons,List.all_nil,Bool.and_true,Bool.and_self,↓a4F,↓a3v,↓a6s,↓a6t,↓a1j,↓a2E,decide_eq_true_eq,decide_eq_false_iff_not,Int.toNat_natCast,bne_iff_ne,ne_eq,Bool.not_eq_true',Bool.not_eq_false',bne_eq_false_iff_eq,beq_iff_eq,beq_eq_false_iff_ne,implies_true,List.getD_cons_zero,List.getD_cons_succ,Bool.false_eq_true,false_or,or_false,true_or,or_true,Int.natCast_nonneg,Int.toNat_zero,Int.toNat_one,List.set_cons_zero,List.set_cons_succ,List.take_zero,List.take_succ_cons,List.take_nil,List.drop_zero,List.drop_succ_cons,List.drop_nil,List.append_nil,Nat.zero_add,Nat.add_zero,Nat.mul_one,Nat.zero_mul,↓b6m,↓a6T,↓b6n,↓b0V,↓b0W,↓a6U,↓b0X,↓b0Y,↓b0Z,↓a6V,↓b1a,↓b1b,↓b6o,↓a6W,↓b6p,↓b1c,↓b6q,↓b1d,↓b1e,↓b1f,↓b1g,↓b1h,↓b1i,↓b1j,↓b1k,↓b1l,↓a6X,↓a4M,↓a4N,↓a6Y,↓a6Z,↓a7a,↓a3x,↓a4O,b1m,a7b,a4P,a3y,cv,Nat.reduceLeDiff,Nat.reduceLT,Nat.le_refl,Nat.reduceSub,Int.reduceToNat,Int.reduceLE,Int.reduceLT,not_true_eq_false,not_false_eq_true,decide_true,decide_false,Bool.true_eq_false,↓b0L,↓b0M,↓b0N,↓b0O,↓a6u,↓a6v,↓a6w,↓a6x,a2O,a0E,a0x,a8g,Old,b7M,↓a4Q,↓a7g,↓b1n,↓b1o,↓b1p,↓b6r,↓b6s,↓a7h,↓a7i,↓a7l,↓b1q,↓a7j,↓a7k,↓b1r,↓b1s,↓b1t,↓b1u,↓b1v,↓a7c,↓a7d,↓a4R,↓a7e,↓a7f,↓a3Q,↓a3z,↓a2F,b1w,a2G,a3A,a2H,a4S,c4H,Bool.not_eq_true,Bool.not_eq_false,Classical.not_not,hso1,hob1,hlr1,hlt1,b7e,hli1,hib1,b0m,b0n,a3g,hrg,hbk,e10,e11,a4p h0,Nat.cast_zero',Int.natCast_zero,Nat.cast_one',e6,e6',ew,ne_eq,bne_self_eq_false,List.length_map]
    repeat ((with_reducible refine And.intro ?_ ?_);· first | omega | decide)
    refine ⟨1,by omega,by omega,Wk.mk (by simp[a0a,a4p h0,hm];decide) ⟨[],by simp[hm]⟩ (Nat.le_refl _)⟩
   ·have ew:¬ (wd (grown f σ b):Int)=wd (σ.I.getD b []):=fun e=>by
     have:=c7v (by omega) (show wd (grown f σ b)=wd (σ.I.getD b []) by omega);rw[a5c,decide_eq_false (by rw[this];simp)]at hm;cases hm
    simp only[↓a6l,↓b0H,↓b0I,↓a6y,↓b0J,↓a4x,↓a6m,↓b0K,↓a6n,↓a4z,↓a2B,↓a2C,↓a4A,↓a6p,↓a2D,↓a4B,↓a6q,↓a6r,↓a0a,↓a4C,↓a4D,↓a3t,↓a3u,↓a3r,↓a4y,↓a6o,↓a3s,↓b0P,↓a4G,↓a3w,↓b0Q,↓a4H,↓b0R,↓a6z,↓a6A,↓a4I,↓a6B,↓a6C,↓a6D,↓a4J,↓a6E,↓a6F,↓b0S,↓a4K,↓b0T,↓a6G,↓b0U,↓a6H,↓a6I,↓a6J,↓a6K,↓a6L,↓a6M,↓a6N,↓a6O,↓a6P,↓a6Q,↓a6R,↓a6S,↓a4L,undef,K.xtra,EOp.adds,a2A,↓a8D,↓b7O,↓VR.wp,↓VRs,a6d,b3R,c0M,unR,c0L,b2r,b7H,a1f,a0F,a5w,a3m,a1i,evs,a0V,AV.cells,AV.one,AV.laid,Value.oneCell',Nat.reduceEqDiff,Nat.reduceAdd,Nat.reduceMul,↓reduceIte,↓dreduceIte,true_and,and_true,List.cons_append,List.nil_append,List.length_map,List.length_cons,List.length_nil,List.getElem?_cons_zero,List.getElem?_cons_succ,List.map_cons,List.map_nil,Bool.not_true,Bool.not_false,forall_const,reduceCtorEq,false_implies,List.all_cons,List.all_nil,Bool.and_true,Bool.and_self,↓a4F,↓a3v,↓a6s,↓a6t,↓a1j,↓a2E,decide_eq_true_eq,decide_eq_false_iff_not,Int.toNat_natCast,bne_iff_ne,ne_eq,Bool.not_eq_true',Bool.not_eq_false',bne_eq_false_iff_eq,beq_iff_eq,beq_eq_false_iff_ne,implies_true,List.getD_cons_zero,List.getD_cons_succ,Bool.false_eq_true,false_or,or_false,true_or,or_true,Int.natCast_nonneg,Int.toNat_zero,Int.toNat_one,List.set_cons_zero,List.set_cons_succ,List.take_zero,List.take_succ_cons,List.take_nil,List.drop_zero,List.drop_succ_cons,List.drop_nil,List.append_nil,Nat.zero_add,Nat.add_zero,Nat.mul_one,Nat.zero_mul,↓b6m,↓a6T,↓b6n,↓b0V,↓b0W,↓a6U,↓b0X,↓b0Y,↓b0Z,↓a6V,↓b1a,↓b1b,↓b6o,↓a6W,↓b6p,↓b1c,↓b6q,↓b1d,↓b1e,↓b1f,↓b1g,↓b1h,↓b1i,↓b1j,↓b1k,↓b1l,↓a6X,↓a4M,↓a4N,↓a6Y,↓a6Z,↓a7a,↓a3x,↓a4O,b1m,a7b,a4P,a3y,cv,Nat.reduceLeDiff,Nat.reduceLT,Nat.le_refl,Nat.reduceSub,Int.reduceToNat,Int.reduceLE,Int.reduceLT,not_true_eq_false,not_false_eq_true,decide_true,decide_false,Bool.true_eq_false,↓b0L,↓b0M,↓b0N,↓b0O,↓a6u,↓a6v,↓a6w,↓a6x,a2O,a0E,a0x,a8g,Old,b7M,↓a4Q,↓a7g,↓b1n,↓b1o,↓b1p,↓b6r,↓b6s,↓a7h,↓a7i,↓a7l,↓b1q,↓a7j,↓a7k,↓b1r,↓b1s,↓b1t,↓b1u,↓b1v,↓a7c,↓a7d,↓a4R,↓a7e,↓a7f,↓a3Q,↓a3z,↓a2F,b1w,a2G,a3A,a2H,a4S,c4H,Bool.not_eq_true,Bool.not_eq_false,Classical.not_not,hso1,hob1,hlr1,hlt1,b7e,hli1,hib1,b0m,b0n,a3g,hrg,hbk,e10,e11,a4p h0,Nat.cast_zero',Int.natCast_zero,Nat.cast_one',e6,e6',eq_false ew,ne_eq,List.length_map]
    repeat ((with_reducible refine And.intro ?_ ?_);· first | omega | decide)
    refine ⟨1,by omega,by omega,Wk.mk (by simp[a0a,a4p h0,hm];decide) ⟨[],by simp[hm,e9]⟩ (Nat.le_refl _)⟩
  ·obtain rfl:i=rl f.r:=by omega
   simp only[go_sem,eq_false (show ¬ (rl f.r:Int)<rl f.r by omega)];cases hm:a5c f σ b
   ·rw[show (if rl f.r=0 then false else false)=false by split<;>rfl,if_pos (show rl f.r=0∨false=false from .inr rfl)];rw[hm]at hC;refine hC H1 ?_ kp1;unfold a8d;rw[hnomore hm];exact hS1
   ·have h0:rl f.r≠0:=fun e=>by
     have e0:f.r=0:=by unfold rl at e;split at e<;>omega
     have:=a7C (a:=σ.I.getD b []) (b:=grown f σ b) (by omega) fun v hv=>by omega
     rw[a5c,decide_eq_false (by rw[this];simp)]at hm;cases hm
    rw[if_neg h0,if_neg (show ¬ (rl f.r=0∨true=false) by simp[h0])];rw[hm]at hC;exact hC _ hS2 (kp1.trans kp2)
end
end Go.Proofs.YtkbhfokbhkmfgaaGreat
namespace Go.V
set_option linter.unusedSimpArgs false
set_option linter.unusedVariables false
section
variable {P:Program}
theorem b9n {w:World} {I J:Nat→Prop}:∀ {us:List Value} {vs:List Value},RL0 w I (us.map .val) vs→RL0 w J (us.map .val) vs
 | [],vs,h=>by simpa only [List.map_nil,RL0] using h
 | u::us,vs,h=>by
  simp only[List.map_cons,RL0]at h ⊢;obtain ⟨v,vs',rfl,h1,h2⟩:=h;exact ⟨v,vs',rfl,by simpa only [RV0] using h1,b9n h2⟩
theorem Contract.vals {f:Nat} {args:List AV} {C:AV→Prop} (h:Contract P f args C) (hC:∀ r,C r→(∃ u,r = .val u)∨∃ us:List Value,r = .agg (us.map .val)):ContractN P f args C :=
 ⟨h.1,fun I w vs hI hvs=>(h.2 I w vs hI hvs).mono fun e w' hp=>by
   obtain ⟨v,r,h1,h2,h3,h4⟩:=hp;refine ⟨v,r,h1,?_,h3,h4⟩;rcases hC r h4 with ⟨u,rfl⟩ | ⟨us,rfl⟩
   ·simpa only [RV0] using h2
   ·simp only[RV0]at h2 ⊢;obtain ⟨vs,e1,e2⟩:=h2;exact ⟨vs,e1,b9n e2⟩⟩
end
theorem b9o {α:Type} {z:Nat}:∀ {ls:List (List α)},(∀ l ∈ ls,l.length=z)→∀ {i j:Nat} {l:List α} {u:α},ls[i]? = some l→l[j]? = some u→ls.flatten[i*z+j]? = some u
 | [],_,i,j,l,u,h,_=>by simp at h
 | a::ls,hz,i,j,l,u,h,hu=>by
  have ha:=hz a (by simp);cases i with
  | zero =>
   simp at h;subst h;rw[List.flatten_cons,Nat.zero_mul,Nat.zero_add,List.getElem?_append_left (List.getElem?_eq_some_iff.1 hu).1];exact hu
  | succ i =>
   simp only[List.getElem?_cons_succ]at h;rw[List.flatten_cons,List.getElem?_append_right (by rw[ha,Nat.succ_mul];omega),ha,show (i+1)*z+j-z=i*z+j by rw[Nat.succ_mul];omega];exact b9o (fun l hl=>hz l (by simp[hl])) h hu
theorem RL.split {M:MM}:∀ {xs ys:List AV} {vs:List Value},RL M (xs++ys) vs→∃ v1 v2,vs=v1++v2∧RL M xs v1∧RL M ys v2
 | [],ys,vs,h=>⟨[],vs,rfl,by simp only[RL],h⟩
 | x::xs,ys,vs,h=>by
  simp only[List.cons_append,RL]at h;obtain ⟨v,vs',rfl,h1,h2⟩:=h;obtain ⟨v1,v2,rfl,h3,h4⟩:=RL.split h2;exact ⟨v::v1,v2,rfl,by simp only[RL];exact ⟨v,v1,rfl,h1,h3⟩,h4⟩
theorem RL.chunks {M:MM}:∀ {yss:List (List AV)} {vs:List Value},RL M yss.flatten vs→∃ vss:List (List Value),vs=vss.flatten∧vss.length=yss.length∧∀ (i:Nat) (l:List AV) (v:List Value),yss[i]? = some l→vss[i]? = some v→RL M l v
 | [],vs,h=>by
  simp only[List.flatten_nil,RL]at h;exact ⟨[],h,rfl,fun i l v h=>by simp at h⟩
 | y::yss,vs,h=>by
  rw[List.flatten_cons]at h;obtain ⟨v1,v2,rfl,h1,h2⟩:=RL.split h;obtain ⟨vss,rfl,h3,h4⟩:=RL.chunks h2;refine ⟨v1::vss,by simp,by simp[h3],fun i l v hl hv=>?_⟩;cases i with
  | zero=>simp at hl hv;subst hl;subst hv;exact h1
  | succ i=>exact h4 i l v (by simpa using hl) (by simpa using hv)
def FrzLL (n:Nat) (H:List VObj) (nx:Nat):List (List AV)→List (List AV)→Prop
 | [],zs=>zs=[]
 | y::ys,zs=>∃ z zs',zs=z::zs'∧FrzL n H nx y z∧FrzLL n H nx ys zs'
theorem FrzLL.pure {n:Nat} {H:List VObj} {nx:Nat}:∀ {yss:List (List AV)},(∀ l ∈ yss,l.all AV.pure=true)→FrzLL n H nx yss yss
 | [],_=>rfl
 | y::ys,h=>⟨y,ys,rfl,FrzL.pure (h y (by simp)),FrzLL.pure fun l hl=>h l (by simp[hl])⟩
theorem FrzLL.length {n:Nat} {H:List VObj} {nx:Nat}:∀ {yss zss:List (List AV)},FrzLL n H nx yss zss→zss.length=yss.length
 | [],_,h=>by simp only[FrzLL]at h;subst h;rfl
 | y::ys,_,h=>by
  simp only[FrzLL]at h;obtain ⟨z,zs',rfl,_,h3⟩:=h;simp[FrzLL.length h3]
theorem b7f {M:MM} {n:Nat} (hR:RH M):∀ {yss zss:List (List AV)} {vss:List (List Value)},vss.length=yss.length→(∀ (i:Nat) (l:List AV) (v:List Value),yss[i]? = some l→vss[i]? = some v→RL M l v)→FrzLL n M.H M.nx yss zss →
 RL0 M.w (Drop M n) (zss.map .agg) (vss.map fun l=>Value.agg l.toArray)
 | [],_,[],_,_,h=>by simp only[FrzLL]at h;subst h;simp only[List.map_nil,RL0]
 | [],_,v::vs,h,_,_=>by simp at h
 | y::ys,_,[],h,_,_=>by simp at h
 | y::ys,_,v::vs,h,h1,h2=>by
  simp only[FrzLL]at h2;obtain ⟨z,zs',rfl,h2,h3⟩:=h2;simp only[List.map_cons,RL0];refine ⟨_,_,rfl,?_,b7f hR (by simpa using h) (fun i l v hl hv=>h1 (i+1) l v (by simpa using hl) (by simpa using hv)) h3⟩;simp only[RV0];exact ⟨v,rfl,h2.rl hR rfl rfl (h1 0 y v (by simp) (by simp))⟩
theorem b7g {α:Type} {z:Nat}:∀ {ls:List (List α)},(∀ l ∈ ls,l.length=z)→ls.flatten.length=ls.length*z
 | [],_=>by simp
 | y::ys,h=>by rw[List.flatten_cons,List.length_append,b7g (fun l hl=>h l (by simp[hl])),h y (by simp),List.length_cons,Nat.succ_mul];omega
theorem Frz.refT {n:Nat} {H:List VObj} {nx id s len z:Nat} {ob:VObj} {yss zss:List (List AV)} (hid:n≤id) (ho:H[id]? = some ob) (hs:ob.s=s) (hz:ob.sz=z) (hcs:ob.cs=yss.flatten)
 (hy:∀ l ∈ yss,l.length=z) (hlen:len=yss.length) (hf:FrzLL n H nx yss zss):Frz n H nx (.ref id s 0 len) (.imm z (zss.map .agg)):=fun M hR hH hnx v r=>by
 subst hH;subst hnx;subst hlen;simp only[RV]at r;obtain ⟨hzz,r⟩:=r.2.2 ob ho hs;have hfl:yss.flatten.length=yss.length*z:=b7g hy;cases hm:M.m.getD id none with
 | none =>
  rw[hm]at r;obtain ⟨rfl,h1,h2⟩:=r;have:yss=[]:=List.length_eq_zero_iff.1 (by omega);subst this;simp only[FrzLL]at hf;subst hf;simp only[List.map_nil,RV0,RL0];exact ⟨none,0,0,[],rfl,rfl,Nat.le_refl _,by simp[maxLen],rfl,by simp,.inl rfl⟩
 | some g =>
  rw[hm]at r;obtain ⟨oo,cap,rfl,q2,q3,q4,q5,q6⟩:=r;obtain ⟨vs,g1,g2,g3⟩:=hR.cells ho hzz hm 0 (yss.length*z) (by rw[hcs,hfl];omega);rw[List.drop_zero,hcs,List.take_of_length_le (by omega)]at g2;obtain ⟨vss,rfl,h3,h4⟩:=RL.chunks g2;have hlv:∀ i v,vss[i]? = some v→∃ l,yss[i]? = some l∧RL M l v∧v.length=z:=fun i v hv=>by
   have hi:i<yss.length:=by have:=(List.getElem?_eq_some_iff.1 hv).1;omega
   have hl:=List.getElem?_eq_getElem hi;have:=h4 i _ v hl hv;exact ⟨_,hl,this,by rw[this.length];exact hy _ (List.getElem_mem hi)⟩
  have hmem:∀ v ∈ vss,v.length=z:=fun v hv=>by
   obtain ⟨i,hi⟩:=List.getElem?_of_mem hv;obtain ⟨_,_,_,e⟩:=hlv i v hi;exact e
  simp only[RV0];refine ⟨_,yss.length,cap,vss.map fun l=>Value.agg l.toArray,rfl,by simp[h3,hf.length],q2,q3,?_,fun u hu=>?_,?_⟩
  ·exact b7f hR h3 h4 hf
  ·obtain ⟨l,hl,rfl⟩:=List.mem_map.1 hu;simp[Value.cells,hmem l hl]
  ·by_cases hl:yss.length=0
   ·exact .inl hl
   ·refine .inr ⟨g,oo,rfl,⟨.inr ⟨(hR.lt hm).1,(hR.lt hm).2.1⟩,fun j hj e=>by have:=hR.inj j id g e hm;omega⟩,fun i u hu j x hx=>?_⟩;have hoo:oo=M.o id+0:=by rcases q5 with q5 | q5<;>omega
    rw[List.getElem?_map]at hu;cases hv:vss[i]? with
    | none=>rw[hv]at hu;cases hu
    | some l =>
     rw[hv]at hu;simp only[Option.map_some,Option.some.injEq]at hu;subst hu;have hx':l[j]? = some x:=by simpa [Value.cells] using hx
     have:=g3 _ _ (b9o hmem hv hx');rw[hoo,Nat.add_assoc];exact this
end Go.V
namespace Go.V
theorem Frz.ptr {n:Nat} {H:List VObj} {nx id s:Nat} {ob:VObj} {ys:List AV} (hid:n≤id) (ho:H[id]? = some ob) (hs:ob.s=s) (hz:ob.sz≠0) (h:FrzL n H nx ob.cs ys) :
 Frz n H nx (.ptr id s 0) (.ip (.agg ys)):=fun M hR hH hnx v r=>by
 subst hH;simp only[RV]at r;obtain ⟨hzz,g,hm,rfl⟩:=r.2.2 ob ho hs;obtain ⟨vs,g1,g2,g3⟩:=hR.cells ho hzz hm 0 ob.cs.length (by omega);simp only[List.drop_zero,List.take_length]at g2;have hrl:=h.rl hR rfl hnx g2;simp only[RV0];refine ⟨g,_,.agg vs.toArray,rfl,⟨.inr ⟨(hR.lt hm).1,(hR.lt hm).2.1⟩,fun j hj e=>by have:=hR.inj j id g e hm;omega⟩,⟨vs,rfl,hrl⟩,fun j u hu=>?_⟩;have:=g3 j u (by simpa [Value.cells] using hu);simpa using this
end Go.V
namespace Go.Proofs.YtkbhfokbhkmfgaaGreat
set_option linter.unusedSimpArgs false
set_option linter.unusedVariables false
set_option maxRecDepth 10000
open Go.V
theorem c5U {H:List VObj} {nx id s len:Nat} {ob:VObj} (l:List Tac) (ho:H[id]? = some ob) (hs:ob.s=s) (hz:ob.sz=8) (hcs:ob.cs=(l.map a8s).flatten) (hl:len=l.length):Frz 0 H nx (.ref id s 0 len) (inA l):=by
 have h:=Frz.refT (n:=0) (nx:=nx) (yss:=l.map a8s) (zss:=l.map a8s) (len:=len) (Nat.zero_le _) ho hs hz hcs (by intro q hq;obtain ⟨t,_,rfl⟩:=List.mem_map.1 hq;rfl) (by rw[List.length_map];exact hl) (FrzLL.pure (by intro q hq;obtain ⟨t,_,rfl⟩:=List.mem_map.1 hq;rfl));rw[List.map_map]at h;exact h
theorem c5V {H:List VObj} {nx id s len:Nat} {ob:VObj} (bs:List Bk) (xs:List AV) (hx:xs.length=bs.length) (hf:∀ i<bs.length,Frz 0 H nx (xs.getD i .dead) (inA (bs.getD i default).ins)) (ho:H[id]? = some ob) (hs:ob.s=s) (hz:ob.sz=5)
 (hcs:ob.cs=((xs.zip bs).map fun p=>[p.1,I p.2.e,I p.2.v,I p.2.to,I p.2.el]).flatten) (hl:len=bs.length):Frz 0 H nx (.ref id s 0 len) (b5e bs):=by
 have key:∀ (xs:List AV) (bs:List Bk),xs.length=bs.length→(∀ i<bs.length,Frz 0 H nx (xs.getD i .dead) (inA (bs.getD i default).ins))→FrzLL 0 H nx ((xs.zip bs).map fun p=>[p.1,I p.2.e,I p.2.v,I p.2.to,I p.2.el]) (bs.map bkL):=by
  intro xs
  induction xs with
  | nil=>intro bs h _;cases bs with
   | nil=>rfl
   | cons b bs=>simp at h
  | cons x xs ih=>intro bs h hf;cases bs with
   | nil=>simp at h
   | cons b bs =>
    refine ⟨_,_,rfl,⟨_,_,rfl,hf 0 (by simp),_,_,rfl,Frz.pure rfl,_,_,rfl,Frz.pure rfl,_,_,rfl,Frz.pure rfl,_,_,rfl,Frz.pure rfl,rfl⟩,ih bs (by simpa using h) fun i hi=>?_⟩;have:=hf (i+1) (by simp;omega);simpa using this
 have h:=Frz.refT (n:=0) (nx:=nx) (len:=len) (zss:=bs.map bkL) (Nat.zero_le _) ho hs hz hcs (by intro l hl;obtain ⟨p,_,rfl⟩:=List.mem_map.1 hl;rfl) (by rw[List.length_map,List.length_zip,hx,Nat.min_self];exact hl) (key xs bs hx hf);rw[List.map_map]at h;exact h
set_option maxRecDepth 10000
open Go.V
theorem b3h {env:List (Nat × AV)} {H:List VObj} {nx i:Nat} {ob:VObj} {cs':List AV} (ty sz:Nat) (hsz:sz≠0) (he:∀ p ∈ env,get env p.1=p.2) (ho:H[i]? = some ob) (hz:ob.sz≠0) (hl:ob.cs.length=cs'.length)
 (hc:∀ (j:Nat) x y,ob.cs[j]? = some x→cs'[j]? = some y→x=y∨(x = .val (.slice none 0 0)∧y = .ref H.length nx 0 0)):Wk ⟨env,H,nx⟩ ⟨env,H.set i ⟨ob.s,ob.ty,ob.sz,cs'⟩++[⟨nx,ty,sz,[]⟩],nx+1⟩:=by
 refine Wk.virt ty sz hsz (fun p hp=>.inl (he p hp)) ⟨H.set i ⟨ob.s,ob.ty,ob.sz,cs'⟩,rfl,by simp,fun j ob' h=>?_⟩ rfl;rw[List.getElem?_set]at h;by_cases e:i=j
 ·subst e;rw[if_pos rfl,if_pos (List.getElem?_eq_some_iff.1 ho).1]at h;cases h;exact ⟨ob,ho,rfl,rfl,rfl,hl,fun h=>absurd h hz,hc⟩
 ·rw[if_neg e]at h;exact ⟨ob',h,rfl,rfl,rfl,rfl,fun _=>rfl,fun _ x y hx hy=>.inl (by rw[hx]at hy;exact Option.some.inj hy)⟩
structure RQ where
 b:Nat
 s1:Nat
 s2:Nat
 nx:Nat
abbrev lvR (L:LD) (K s0:Nat) (x:RQ):List VObj:=[⟨s0,37,1,[.ref (K+1) x.s1 0 x.b,.ref (K+2) x.s2 0 x.b]⟩,⟨x.s1,68,1,(L.inn.take x.b).map a7m⟩,⟨x.s2,68,1,(L.out.take x.b).map a7m⟩]
theorem b7h {m:List (List Bool)} {b:Nat} (hb:b<m.length):List.take b ((m.take b).map a7m)++[a7m (m.getD b [])]=(m.take (b+1)).map a7m:=by
 rw[List.take_of_length_le (by simp;omega),List.take_add_one,List.map_append];simp[List.getD,List.getElem?_eq_getElem hb]
theorem c5W (L:LD) (H:List VObj) (nx:Nat) (env:List (Nat × AV)) (he:∀ p ∈ env,get env p.1=p.2):Wk ⟨env,H++[⟨nx,37,1,[a0T,a0T]⟩],nx+1⟩ ⟨env,H++lvR L H.length nx ⟨0,nx+1,nx+1+1,nx+1+1+1⟩,nx+1+1+1⟩:=by
 have h1:=b3h (env:=env) (H:=H++[⟨nx,37,1,[a0T,a0T]⟩]) (nx:=nx+1) (i:=H.length) (ob:=⟨nx,37,1,[a0T,a0T]⟩) (cs':=[.ref (H.length+1) (nx+1) 0 0,a0T]) 68 1 (by decide) he (by rw[a5J];rfl) (by simp) rfl (fun j x y hx hy=>by
  match j with
  | 0=>simp at hx hy;subst hx;subst hy;exact .inr ⟨rfl,by simp⟩
  | 1=>simp at hx hy;subst hx;subst hy;exact .inl rfl
  | j+2=>simp at hx)
 rw[a9C,List.append_assoc]at h1;have h2:=b3h (env:=env) (H:=H++[⟨nx,37,1,[.ref (H.length+1) (nx+1) 0 0,a0T]⟩,⟨nx+1,68,1,[]⟩]) (nx:=nx+1+1) (i:=H.length) (ob:=⟨nx,37,1,[.ref (H.length+1) (nx+1) 0 0,a0T]⟩)
  (cs':=[.ref (H.length+1) (nx+1) 0 0,.ref (H.length+2) (nx+1+1) 0 0]) 68 1 (by decide) he (by rw[a5J];rfl) (by simp) rfl (fun j x y hx hy=>by
  match j with
  | 0=>simp at hx hy;subst hx;subst hy;exact .inl rfl
  | 1=>simp at hx hy;subst hx;subst hy;exact .inr ⟨rfl,by simp⟩
  | j+2=>simp at hx)
 rw[a9C,List.append_assoc]at h2;exact h1.trans h2
set_option maxRecDepth 10000
open Go.V
def b7i (f:BF):Prop:=∀ (o0 o1:VObj) (C:AV→List VObj→Nat→Prop),o0.ty=34→o1.ty=37 →
 (∀ q H nx wv,HS f H q wv (a8v f)→H[0]? = some o0→H[1]? = some o1→C (.ptr q.kS q.sS 0) H nx)→VCall Tryz.prog 20 [bfA f] [o0,o1] 2 C
theorem c2e {n b:Nat} {w0:List Nat} (h:b<n) (hb:b ∉ w0):(a4r n (w0++[b])).set b false=a4r n w0:=a7C (by simp[a4r]) fun v hv=>by
 have hv':v<n:=by simpa [a4r] using hv
 rw[a8u _ _ _ _ (by rw[a5r];exact hv'),a4s hv',a4s hv'];by_cases e:b=v
 ·subst e;simp[hb]
 ·rw[if_neg e];have:¬ v=b:=fun h=>e h.symm;simp[this]
theorem b8p {n:Nat} {pi:Nat→Nat × Nat} {pl:Nat→List Nat} {b:Nat} {C:AV→Prop}:a0D ((List.range n).map fun b=>AV.ref (pi b).1 (pi b).2 0 (pl b).length) b false 1 C .mk=(b<n∧C (.ref (pi b).1 (pi b).2 0 (pl b).length)):=by
 rw[a1j (fun _=>rfl)];apply propext;rw[List.length_range];refine ⟨fun ⟨h1,h2⟩=>⟨h1,?_⟩,fun ⟨h1,h2⟩=>⟨h1,?_⟩⟩
 ·rw[a2q h1]at h2;exact h2
 ·rw[a2q h1];exact h2
theorem b4v {l:List Nat} {b:Nat} {C:AV→Prop}:a0D (b2b l) b false 1 C .mk=(b<l.length∧C (I (l.getD b default:Nat))):=a1j fun _=>rfl
theorem c0o (w0:List Nat) (ls:List Nat) {j:Nat} (hj:j<ls.length):a4o w0 (ls.take (j+1))=b2a (a4o w0 (ls.take j)) (ls.getD j default):=by
 have e:ls.take (j+1)=ls.take j++[ls.getD j default]:=by rw[List.take_add_one];simp[List.getD,List.getElem?_eq_getElem hj]
 rw[e];simp[a4o]
theorem c3K (w0:List Nat) (b:Nat) (rest:List Nat):(w0++[b]++rest).getD w0.length default=b:=by
 rw[List.getD,List.append_assoc,List.getElem?_append_right (Nat.le_refl _),Nat.sub_self];rfl
theorem b8q {α β:Type} (g:α→List β) (h:∀ a,(g a).length≤2):∀ l:List α,(l.flatMap g).length≤2*l.length
 | []=>by simp
 | a::l=>by
  have:=b8q g h l;have:=h a;rw[List.flatMap_cons,List.length_append,List.length_cons];omega
theorem b7j (f:BF) (b:Nat):(a3f f b).length≤2*f.n:=by
 have:=b8q (fun a=>((nxt (f.bk a)).filter fun k=>decide (k.toNat=b)).map fun _=>a) (fun a=>by
  rw[List.length_map];exact Nat.le_trans (List.length_filter_le _ _) (b3a _)) (List.range f.n)
 rw[List.length_range]at this;exact this
structure OQ where
 H:List VObj
 wv:AV
 σ:SV
 nx:Nat
structure WQ where
 j:Nat
 H:List VObj
 wv:AV
 nx:Nat
theorem c9M (f:BF) (hf:Fine f) (hr:f.r≤64) (hV:b7i f) (L:LD) (hL:Least f L):Contract Tryz.prog 7 [bfA f] (fun x=>x=c3m L):=by
 refine Contract.of_call (VCall.of_body a1g c1r (by simp) ?_);have hr0:=hf.r0;have hn5:f.n≤500:=hf.b1;have hlen:(f.bks.length:Int)=f.n:=rfl;simp only[go_sem,b6v];refine hV _ _ _ rfl rfl fun q H nx wv h h0 h1=>?_;simp only[go_sem];refine a0r (fun x:OQ=>⟨[(1,.ptr 0 0 0),(2,.ptr 1 1 0),(3,.ptr q.kS q.sS 0)],x.H,x.nx⟩) (fun x=>HS f x.H q x.wv x.σ∧SInv f x.σ∧x.H[0]? = some ⟨0,34,1,bfL f⟩∧x.H[1]? = some ⟨1,37,1,[a0T,a0T]⟩)
  (fun x=>muS f x.σ) ⟨H,wv,a8v f,nx⟩ (Wk.mk (by simp[a0a]) ⟨[],by simp⟩ (Nat.le_refl _)) ⟨h,c1P f,h0,h1⟩ ?_
 clear h h0 h1;rintro ⟨H,wv,σ,nx⟩ ⟨h,hi,h0,h1⟩;simp only at h hi h0 h1;have hso:=h.so;have hw:=h.w;have hwl:=hi.wlen;rcases List.eq_nil_or_concat σ.wt with hnil | ⟨w0,b,hcat⟩
 ·have hLe:=hi.least hf hnil;have hLL:σ.L=L:=hLe.unique hL;have hIL:σ.I=L.inn:=by rw[← hLL];rfl
  have hOL:σ.O=L.out:=by rw[← hLL];rfl
  have hli:L.inn.length=f.n:=hL.cl.sz.i;have hlo:L.out.length=f.n:=hL.cl.sz.o;have hwv:wv=a0T∨∃ k s,wv = .ref k s 0 0∧∃ cs,H[k]? = some ⟨s,3,1,cs⟩:=by
   rcases h.wt with ⟨e,_⟩ | ⟨k,s,rest,e,hk,_⟩
   ·exact .inl e
   ·rw[hnil]at e;exact .inr ⟨k,s,e,_,hk⟩
  have hz:0<H.length:=(List.getElem?_eq_some_iff.1 h0).1;have hz1:1<H.length:=(List.getElem?_eq_some_iff.1 h1).1;have hwv1:wv.one=true:=by rcases hwv with e | ⟨_,_,e,_⟩<;>rw[e]<;>rfl
  have hol:(a3f f 0).length≤2*f.n:=b7j f 0;have hsl:=h.li;have hslo:=h.lo;have hri:=h.ri;have hro:=h.ro;rw[hIL]at hri;rw[hOL]at hro;have e0:(0<H.length)=True:=eq_true hz;have e1:(1<H.length)=True:=eq_true hz1;have hmx:(200000:Nat)≤maxLen:=by decide
  have ga0:=a0p h0;have ga1:=a0p h1;have gaS:=a0p hso;have gaI:=a0p hsl;have gaO:=a0p hslo;have hregs:f.regs=(f.r:Int):=by unfold BF.r;omega
  rcases hwv with e | ⟨k,s,e,cs,hk⟩
  all_goals
   subst e
   first
   | simp only[go_sem,hso,hk,ga0,Nat.cast_zero',Int.lt_irrefl]
   | simp only[go_sem,hso,ga0]
   refine a0r (fun x:RQ=>⟨[(1,.ptr 0 0 0),(2,.ptr 1 1 0),(3,.ptr q.kS q.sS 0),(8,.ptr H.length nx 0),(67,I f.n),(68,I x.b)],H++lvR L H.length nx x,x.nx⟩) (fun x=>x.b≤f.n) (fun x=>f.n-x.b) ⟨0,nx+1,nx+1+1,nx+1+1+1⟩
    ?_ (Nat.zero_le _) ?_
   ·refine Wk.trans (b:=⟨[(1,.ptr 0 0 0),(2,.ptr 1 1 0),(3,.ptr q.kS q.sS 0),(8,.ptr H.length nx 0),(67,I f.n),(68,I 0)],H++[(⟨nx,37,1,[a0T,a0T]⟩:VObj)],nx+1⟩) (Wk.mk (by simp[a0a,BF.n]) ⟨[],by simp⟩ (Nat.le_refl _)) (c5W L H nx _ (by simp[a0a]))
   rintro ⟨b,s1,s2,nx2⟩ hb;simp only at hb;by_cases hlt:b<f.n
   ·have hib:=hri b hlt;have hobb:=hro b hlt;have gaib:=a0p hib;have gaob:=a0p hobb;have hil:(L.inn.getD b []).length=f.r:=hL.cl.sz.il hlt;have hol':(L.out.getD b []).length=f.r:=hL.cl.sz.ol hlt;have sp1:ContractN Tryz.prog 23 [.imm 1 (a0c (L.inn.getD b [])),I f.regs] (fun r=>r=a7m (L.inn.getD b [])):=by have:=b9m (L.inn.getD b []) (by omega);rw[hil,← hregs]at this;exact this
    have sp2:ContractN Tryz.prog 23 [.imm 1 (a0c (L.out.getD b [])),I f.regs] (fun r=>r=a7m (L.out.getD b [])):=by have:=b9m (L.out.getD b []) (by omega);rw[hol',← hregs]at this;exact this
    simp only[go_sem,ga0,gaS,gaI,a8S,a5J,a3g,eq_true (show (b:Int)<f.n by omega)]
    repeat' (with_reducible apply And.intro)
    all_goals first | omega | skip
    all_goals
     refine VCall.of_contractN sp1 ?_ fun r hr=>?_
     ·exact ⟨_,_,rfl,b5q (Nat.zero_le _) (gaib _) (by rw[hil]),_,_,rfl,Frz.pure rfl,rfl⟩
     subst hr;refine ⟨Stab.refl _ _ _,?_⟩;simp only[go_sem,ga0,gaS,gaO,a8S,a5J,b8k,a9C,List.append_assoc,List.length_append,a3g]
     repeat' (with_reducible apply And.intro)
     all_goals first | omega | skip
     all_goals
      refine VCall.of_contractN sp2 ?_ fun r hr=>?_
      ·exact ⟨_,_,rfl,b5q (Nat.zero_le _) (gaob _) (by rw[hol']),_,_,rfl,Frz.pure rfl,rfl⟩
      subst hr;refine ⟨?_,?_⟩
      ·simp only[go_sem,a8S,a5J,b8k,a9C,List.append_assoc,List.length_append];exact Stab.refl _ _ _
      simp only[go_sem,ga0,gaS,gaO,a8S,a5J,b8k,a9C,List.append_assoc,List.length_append,a3g]
      repeat' (with_reducible apply And.intro)
      all_goals first | omega | skip
      rw[a0e (by omega) (by omega),b7h (m:=L.inn) (by omega),b7h (m:=L.out) (by omega)];refine ⟨⟨b+1,nx2+1,nx2+1+1+1,nx2+1+1+1+1⟩,by simp only;omega,by simp only;omega,Wk.mk (by simp[a0a]) ⟨[_,_],by rw[List.append_assoc];rfl⟩ (Nat.le_refl _)⟩
   ·obtain rfl:b=f.n:=by omega
    have tk1:L.inn.take f.n=L.inn:=List.take_of_length_le (by omega);have tk2:L.out.take f.n=L.out:=List.take_of_length_le (by omega);have l3:(1<H.length+3)=True:=eq_true (by omega);have l4:(1<H.length+(0+1+1+1))=True:=eq_true (by omega);simp only[go_sem,ga1,a8S,a5J,List.getElem?_set,List.length_append,l3,l4,eq_false (show ¬ (f.n:Int)<f.n by omega)]
    repeat ((with_reducible refine And.intro ?_ ?_);· omega)
    refine ⟨_,Frz.agg (ys:=[a5n L.inn,a5n L.out]) ?_,rfl⟩;exact ⟨_,_,rfl,b9i (m:=L.inn) (Nat.zero_le _) (by rw[a0O (by omega),a8S];show some (VObj.mk s1 68 1 ((L.inn.take f.n).map a7m))=_;rw[tk1]) hli.symm,_,_,rfl,b9i (m:=L.out) (Nat.zero_le _) (by rw[a0O (by omega),a8S];show some (VObj.mk s2 68 1 ((L.out.take f.n).map a7m))=_;rw[tk2]) hlo.symm,rfl⟩
 ·rw[List.concat_eq_append]at hcat;have hwt:=h.wt;rw[hcat]at hwt;rcases hwt with ⟨_,hwt⟩ | ⟨k,s,rest,rfl,hk,hkp⟩
  ·simp at hwt
  have hb:b<f.n:=hi.wn b (by rw[hcat];simp);have hnd:=hi.nd;rw[hcat,List.nodup_append]at hnd;have hb0:b ∉ w0:=fun e=>hnd.2.2 b e b (by simp) rfl;have e1:=a2L hso hk (by simp);have e2:=a2L hso hw (by simp);have e3:=a2L hw hk (by simp);have e4:=a2L hw hso (by simp);have l1:=a1l hso;have l2:=a1l hw;have hwl0:w0.length+1≤500:=by rw[hcat]at hwl;simp at hwl;omega
  have hle:(w0++[b]).length=w0.length+1:=by simp
  have hlg:=c3K w0 b rest;have hrl:(w0++[b]++rest).length=w0.length+1+rest.length:=by simp only[List.length_append,List.length_cons,List.length_nil]
  have ei:IntKind.i64.wrap ((w0.length+1:Nat)-1:Int)=w0.length:=by rw[a0e (by omega) (by omega)];omega
  rw[hcat]at hw;simp only[go_sem,hso,hw,hk,hle,eq_true (show (0:Int)<((w0.length+1:Nat):Int) by omega),ei,b4v,hlg,List.getElem?_set,List.length_set,e1,e2,e3,e4,l1,l2,a5r,c3A,c2e hb hb0,Nat.sub_zero]
  repeat ((with_reducible refine And.intro ?_ ?_);· omega)
  have kp0:KeepT [70,4,3] H ((H.set q.kS ⟨q.sS,70,1,c5T f q (.ref k s 0 w0.length)⟩).set q.kW ⟨q.sW,4,1,(a4r f.n w0).map B⟩) :=
   (KeepT.set hso (by simp)).trans (KeepT.set (ob:=⟨q.sW,4,1,(a4r f.n (w0++[b])).map B⟩) (by rw[a0O (fun e=>by rw[e]at hso;rw[hso]at hw;simp at hw)];exact hw) (by simp))
  have hS2:HS f ((H.set q.kS ⟨q.sS,70,1,c5T f q (.ref k s 0 w0.length)⟩).set q.kW ⟨q.sW,4,1,(a4r f.n w0).map B⟩) q (.ref k s 0 w0.length) ⟨σ.I,σ.O,w0⟩:=by
   refine h.keep (wt':=w0) kp0 ?_ ?_ (.inr ⟨k,s,b::rest,rfl,?_,hkp⟩) fun c hc=>?_
   ·simp only[List.getElem?_set,List.length_set,e4,l1,l2,↓reduceIte]
   ·simp only[List.getElem?_set,List.length_set,e4,l1,l2,↓reduceIte]
   ·simp only[List.getElem?_set,List.length_set,e1,e3,l1,l2,↓reduceIte,hk];simp
   ·have hp:=h.pr c hc;have p1:=a2L hw hp (by simp);have p2:=a2L hso hp (by simp);simp only[List.getElem?_set,p1,p2,↓reduceIte]
  have hrd:=hi.round hf hcat;have hsz:SizedP f (SV.L ⟨σ.I,σ.O,w0⟩):=hi.sz;have hg0:=kp0 _ _ h0 (by simp);have hg1:=kp0 _ _ h1 (by simp);generalize (H.set q.kS ⟨q.sS,70,1,c5T f q (.ref k s 0 w0.length)⟩).set q.kW ⟨q.sW,4,1,(a4r f.n w0).map B⟩=H2 at hS2 hg0 hg1 ⊢;clear kp0;refine c7Q hf hS2 hsz hr nx b hb _ fun H3 hS3 kp3=>?_;have hms:a5c f ⟨σ.I,σ.O,w0⟩ b=a5c f σ b:=rfl;have hgs:a8d f ⟨σ.I,σ.O,w0⟩ b=⟨(a8d f σ b).I,(a8d f σ b).O,w0⟩:=rfl;rw[hms];rw[hgs]at hS3;have h30:=kp3 _ _ hg0 (by simp);have h31:=kp3 _ _ hg1 (by simp);have hrdw:(a4Y f σ w0 b).wt=if a5c f σ b=true then a4o w0 (a3f f b) else w0:=rfl
  cases hm:a5c f σ b
  ·rw[hm]at hrdw;simp only[go_sem];refine ⟨⟨H3,.ref k s 0 w0.length,a4Y f σ w0 b,nx⟩,⟨?_,hrd.1,h30,h31⟩,hrd.2,Wk.mk (by simp[a0a]) ⟨[],by simp⟩ (Nat.le_refl _)⟩;have:a4Y f σ w0 b=⟨(a8d f σ b).I,(a8d f σ b).O,w0⟩:=by unfold a4Y;rw[hm];rfl
   rw[this];exact hS3
  ·rw[hm,if_pos rfl]at hrdw;have hso3:=hS3.so;have hla3:=hS3.la;have hpr3:=hS3.pr b hb;have hpl:=b7j f b;simp only[go_sem,hso3,hla3,hpr3,b8p,hlg]
   repeat ((with_reducible refine And.intro ?_ ?_);· omega)
   refine a0r (fun x:WQ=>⟨[(1,.ptr 0 0 0),(2,.ptr 1 1 0),(3,.ptr q.kS q.sS 0),(55,.ref (q.pi b).1 (q.pi b).2 0 (a3f f b).length),(56,I (a3f f b).length),(57,I x.j)],x.H,x.nx⟩)
    (fun x=>x.j≤(a3f f b).length∧HS f x.H q x.wv ⟨(a8d f σ b).I,(a8d f σ b).O,a4o w0 ((a3f f b).take x.j)⟩∧x.H[0]? = some ⟨0,34,1,bfL f⟩∧x.H[1]? = some ⟨1,37,1,[a0T,a0T]⟩)
    (fun x=>(a3f f b).length-x.j) ⟨0,H3,.ref k s 0 w0.length,nx⟩ (Wk.mk (by simp[a0a]) ⟨[],by simp⟩ (Nat.le_refl _)) ⟨Nat.zero_le _,hS3,h30,h31⟩ ?_
   clear hS3 h30 h31 hso3 hla3 hpr3 kp3 hS2 hg0 hg1;rintro ⟨j,H4,wv4,nx4⟩ ⟨hj,hS4,h40,h41⟩;simp only at hj hS4 h40 h41;by_cases hlt:j<(a3f f b).length
   ·have hp4:=hS4.pr b hb;have hwt:=c0o w0 (a3f f b) hlt;have hmem:=mem_pred.1 (a0q hlt);have hlw:(a4o w0 ((a3f f b).take j)).length≤f.n:=a9A _ _ (a5I hnd.1) fun c hc=>by
     rcases mem_waits.1 hc with g | g
     ·exact hi.wn c (by rw[hcat];simp[g])
     ·exact (mem_pred.1 (List.mem_of_mem_take g)).1
    simp only[go_sem,hp4,b4v,eq_true (show (j:Int)<(a3f f b).length by omega)]
    repeat ((with_reducible refine And.intro ?_ ?_);· omega)
    refine c4R hS4 nx4 _ hmem.1 hn5 (by show (a4o w0 ((a3f f b).take j)).length≤500;omega) _ fun r H5 nx5 wv5 hS5 kp5=>?_;have hS5':HS f H5 q wv5 ⟨(a8d f σ b).I,(a8d f σ b).O,a4o w0 ((a3f f b).take (j+1))⟩:=by rw[hwt];exact hS5
    simp only[go_sem];rw[a0e (by omega) (by omega)];exact ⟨⟨j+1,H5,wv5,nx5⟩,⟨by simp only;omega,hS5',kp5 _ _ h40 (by simp),kp5 _ _ h41 (by simp)⟩,by simp only;omega,Wk.mk (by simp[a0a]) ⟨[],by simp⟩ (Nat.le_refl _)⟩
   ·have hjl:j=(a3f f b).length:=by omega
    rw[hjl,List.take_length]at hS4;simp only[go_sem,eq_false (show ¬ (j:Int)<(a3f f b).length by omega)];refine ⟨⟨H4,wv4,a4Y f σ w0 b,nx4⟩,⟨?_,hrd.1,h40,h41⟩,hrd.2,Wk.mk (by simp[a0a]) ⟨[],by simp⟩ (Nat.le_refl _)⟩;have:a4Y f σ w0 b=⟨(a8d f σ b).I,(a8d f σ b).O,a4o w0 (a3f f b)⟩:=by unfold a4Y;rw[hm];rfl
    rw[this];exact hS4
set_option maxRecDepth 10000
open Go.V
def a3h (f:BF) (b j:Nat) (c:Nat):List Nat :=
 ((List.range b).flatMap fun a=>((nxt (f.bk a)).filter fun k=>decide (k.toNat=c)).map fun _=>a)++(((nxt (f.bk b)).take j).filter fun k=>decide (k.toNat=c)).map fun _=>b
theorem c0p (f:BF) (b c:Nat):a3h f b (nxt (f.bk b)).length c=a3h f (b+1) 0 c:=by
 unfold a3h;rw[List.take_length,List.range_succ,List.flatMap_append];simp
theorem c2f (f:BF) (c:Nat):a3h f f.n 0 c=a3f f c:=by unfold a3h a3f;simp
theorem c0q (f:BF) (b c:Nat) {j:Nat} (hj:j<(nxt (f.bk b)).length):a3h f b (j+1) c=if ((nxt (f.bk b)).getD j default).toNat=c then a3h f b j c++[b] else a3h f b j c:=by
 unfold a3h;have e:(nxt (f.bk b)).take (j+1)=(nxt (f.bk b)).take j++[(nxt (f.bk b)).getD j default]:=by rw[List.take_add_one];simp[List.getD,List.getElem?_eq_getElem hj]
 rw[e,List.filter_append,List.map_append];generalize (nxt (f.bk b)).getD j default=k;by_cases h:k.toNat=c
 ·rw[if_pos h];simp[h]
 ·rw[if_neg h];simp[h]
theorem c2g (f:BF) (b j c:Nat):(a3h f b j c).length≤2*b+2:=by
 unfold a3h;rw[List.length_append,List.length_map];have h1:=b8q (fun a=>((nxt (f.bk a)).filter fun k=>decide (k.toNat=c)).map fun _=>a) (fun a=>by rw[List.length_map];exact Nat.le_trans (List.length_filter_le _ _) (b3a _)) (List.range b);have h2:(((nxt (f.bk b)).take j).filter fun k=>decide (k.toNat=c)).length≤2:=Nat.le_trans (List.length_filter_le _ _) (Nat.le_trans (by simp[List.length_take];omega) (b3a (f.bk b)));rw[List.length_range]at h1;omega
structure BQ where
 b:Nat
 H:List VObj
 s6:Nat
 s7:Nat
 s8:Nat
 s9:Nat
 sp:Nat→Nat
 ri:Nat→Nat × Nat
 ro:Nat→Nat × Nat
 nx:Nat
abbrev ahC (n:Nat) (sp:Nat→Nat) (pl:Nat→List Nat):List AV:=(List.range n).map fun c=>.ref (10+c) (sp c) 0 (pl c).length
abbrev slB (f:BF) (ka kw b s6 s7 s8 s9:Nat):List AV:=[a7G f,.ref ka ka 0 f.n,.ref 6 s6 0 b,.ref 7 s7 0 b,.ref 8 s8 0 b,.ref 9 s9 0 b,a0T,.ref kw kw 0 f.n]
structure SB (f:BF) (ka kw:Nat) (o0 o1:VObj) (pl:Nat→List Nat) (x:BQ):Prop where
 h0:x.H[0]? = some o0
 h1:x.H[1]? = some o1
 h2:x.H[2]? = some ⟨2,34,1,bfL f⟩
 so:x.H[5]? = some ⟨5,70,1,slB f ka kw x.b x.s6 x.s7 x.s8 x.s9⟩
 ah:x.H[ka]? = some ⟨ka,28,1,ahC f.n x.sp pl⟩
 pr:∀ c<f.n,x.H[10+c]? = some ⟨x.sp c,3,1,b2b (pl c)⟩
 r6:x.H[6]? = some ⟨x.s6,72,1,(f.bks.take x.b).map fun b=>.imm 1 (a0c (a4v b f.r))⟩
 r7:x.H[7]? = some ⟨x.s7,72,1,(f.bks.take x.b).map fun b=>.imm 1 (a0c (b3e b f.r))⟩
 r8:x.H[8]? = some ⟨x.s8,72,1,a5M x.b f.r x.ri⟩
 r9:x.H[9]? = some ⟨x.s9,72,1,a5M x.b f.r x.ro⟩
 ri:∀ c<x.b,x.H[(x.ri c).1]? = some ⟨(x.ri c).2,108,1,a0c (List.replicate f.r false)⟩
 ro:∀ c<x.b,x.H[(x.ro c).1]? = some ⟨(x.ro c).2,108,1,a0c (List.replicate f.r false)⟩
 w:x.H[kw]? = some ⟨kw,4,1,(List.replicate f.n false).map B⟩
 dI:∀ b<x.b,∀ c<x.b,(x.ri b).1=(x.ri c).1→b=c
 dO:∀ b<x.b,∀ c<x.b,(x.ro b).1=(x.ro c).1→b=c
 dIO:∀ b<x.b,∀ c<x.b,(x.ri b).1≠(x.ro c).1
theorem c3L {n b:Nat} {sp:Nat→Nat} {pl:Nat→List Nat} {C:AV→Prop}:a0D (ahC n sp pl) b false 1 C .mk=(b<n∧C (.ref (10+b) (sp b) 0 (pl b).length)):=by
 rw[a1j (fun _=>rfl)];apply propext;rw[List.length_range];refine ⟨fun ⟨h1,h2⟩=>⟨h1,?_⟩,fun ⟨h1,h2⟩=>⟨h1,?_⟩⟩
 ·rw[a2q h1]at h2;exact h2
 ·rw[a2q h1];exact h2
theorem c5X {n k s:Nat} {sp:Nat→Nat} {pl:Nat→List Nat} {m:Nat} (hk:k<n) (l:List Nat) (hm:m=l.length):(ahC n sp pl).set k (.ref (10+k) s 0 m)=ahC n (fun c=>if c=k then s else sp c) (fun c=>if c=k then l else pl c):=by
 subst hm;refine List.ext_getElem (by simp) fun i h1 h2=>?_;rw[List.getElem_set];simp only[List.getElem_map,List.getElem_range];by_cases e:k=i
 ·subst e;simp
 ·have:¬ i=k:=fun h=>e h.symm;simp[e,this]
theorem SB.add {f:BF} {ka kw:Nat} {o0 o1:VObj} {pl:Nat→List Nat} {x:BQ} (h:SB f ka kw o0 o1 pl x) (hka:ka=3∨ka=4) (hkw:kw=3∨kw=4) (hne:ka≠kw) (t0:o0.ty=34) (t1:o1.ty=37) {k:Nat} (hk:k<f.n) (l:List Nat) (s':Nat) (tmp:VObj) (nx':Nat) :
 SB f ka kw o0 o1 (fun c=>if c=k then l else pl c) { x with H:=((x.H++[tmp]).set (10+k) ⟨s',3,1,b2b l⟩).set ka ⟨ka,28,1,ahC f.n (fun c=>if c=k then s' else x.sp c) (fun c=>if c=k then l else pl c)⟩,sp:=fun c=>if c=k then s' else x.sp c,nx:=nx' }:=by
 have k1:KeepT [3,28] x.H (((x.H++[tmp]).set (10+k) ⟨s',3,1,b2b l⟩).set ka ⟨ka,28,1,ahC f.n (fun c=>if c=k then s' else x.sp c) (fun c=>if c=k then l else pl c)⟩) :=
  ((KeepT.app _ _ _).trans (KeepT.set (a0p (h.pr k hk) _) (by simp))).trans (KeepT.set (ob:=⟨ka,28,1,ahC f.n x.sp pl⟩) (by rw[a0O (by omega)];exact a0p h.ah _) (by simp))
 refine ⟨k1 _ _ h.h0 (by rw[t0];simp),k1 _ _ h.h1 (by rw[t1];simp),k1 _ _ h.h2 (by simp),k1 _ _ h.so (by simp),?_,fun c hc=>?_,k1 _ _ h.r6 (by simp),k1 _ _ h.r7 (by simp),k1 _ _ h.r8 (by simp),k1 _ _ h.r9 (by simp),fun c hc=>k1 _ _ (h.ri c hc) (by simp),fun c hc=>k1 _ _ (h.ro c hc) (by simp),k1 _ _ h.w (by simp),h.dI,h.dO,h.dIO⟩
 ·exact a0N (a:=⟨ka,28,1,ahC f.n x.sp pl⟩) (by rw[a0O (by omega)];exact a0p h.ah _)
 ·simp only;rw[a0O (by omega)];by_cases e:c=k
  ·subst e;rw[if_pos rfl,if_pos rfl];exact a0N (a0p (h.pr c hk) _)
  ·rw[if_neg e,if_neg e,a0O (by omega)];exact a0p (h.pr c hc) _
set_option maxRecDepth 10000
open Go.V
theorem a9E {env:List (Nat × AV)} {H:List VObj} {nx i j:Nat} {ob:VObj} (ty sz:Nat) (hsz:sz≠0) (he:∀ p ∈ env,get env p.1=p.2) (ho:H[i]? = some ob) (hz:ob.sz≠0) (hj:ob.cs[j]? = some a0T) :
 Wk ⟨env,H,nx⟩ ⟨env,H.set i ⟨ob.s,ob.ty,ob.sz,ob.cs.set j (.ref H.length nx 0 0)⟩++[⟨nx,ty,sz,[]⟩],nx+1⟩ :=
 b3h ty sz hsz he ho hz (by simp) fun m x y hx hy=>by
  rw[List.getElem?_set]at hy;by_cases e:j=m
  ·subst e;rw[if_pos rfl,if_pos (List.getElem?_eq_some_iff.1 hj).1]at hy;rw[hj]at hx;cases hx;cases hy;exact .inr ⟨rfl,rfl⟩
  ·rw[if_neg e]at hy;rw[hx]at hy;exact .inl (Option.some.inj hy)
theorem b4w (n ka:Nat) (hka:ka<10) (env:List (Nat × AV)) (he:∀ p ∈ env,get env p.1=p.2) (H:List VObj) (hl:H.length=10) (ha:H[ka]? = some ⟨ka,28,1,List.replicate n a0T⟩):∀ c,c≤n →
 ∃ H',Wk ⟨env,H,10⟩ ⟨env,H',10+c⟩∧H'.length=10+c∧(∀ i,i<10→i≠ka→H'[i]? = H[i]?)∧H'[ka]? = some ⟨ka,28,1,(List.range n).map fun d=>if d<c then .ref (10+d) (10+d) 0 0 else a0T⟩∧∀ d<c,H'[10+d]? = some ⟨10+d,3,1,[]⟩
 | 0,_=>⟨H,Wk.refl _,hl,fun _ _ _=>rfl,by rw[ha];congr 2;refine List.ext_getElem (by simp) fun i h1 h2=>by simp,fun d hd=>by omega⟩
 | c+1,hc=>by
  obtain ⟨H',hw,h1,h2,h3,h4⟩:=b4w n ka hka env he H hl ha c (by omega);have hv:=a9E (env:=env) (nx:=10+c) (j:=c) 3 1 (by decide) he h3 (by simp) (by simp[show c<n by omega]);refine ⟨_,hw.trans hv,by simp[h1];omega,fun i hi hne=>?_,?_,fun d hd=>?_⟩
  ·rw[List.getElem?_append_left (by simp;omega),List.getElem?_set_ne (by omega)];exact h2 i hi hne
  ·rw[List.getElem?_append_left (by simp;omega),List.getElem?_set_self (by omega),h1];congr 2;refine List.ext_getElem (by simp) fun i g1 g2=>?_;rw[List.getElem_set];simp only[List.getElem_map,List.getElem_range];by_cases e:c=i
   ·subst e;simp
   ·rw[if_neg e];by_cases e2:i<c
    ·rw[if_pos e2,if_pos (by omega)]
    ·rw[if_neg e2,if_neg (by omega)]
  ·by_cases e:d=c
   ·subst e;rw[List.getElem?_append_right (by simp;omega)];simp[h1]
   ·rw[List.getElem?_append_left (by simp;omega),List.getElem?_set_ne (by omega)];exact h4 d (by omega)
theorem c0r (f:BF) (ka kw:Nat) (hk:(ka=3∧kw=4)∨(ka=4∧kw=3)) (o0 o1:VObj) (env:List (Nat × AV)) (he:∀ p ∈ env,get env p.1=p.2) (H:List VObj) (hl:H.length=6) (h0:H[0]? = some o0) (h1:H[1]? = some o1)
 (h2:H[2]? = some ⟨2,34,1,bfL f⟩) (hS:H[5]? = some ⟨5,70,1,[a7G f,.ref ka ka 0 f.n,a0T,a0T,a0T,a0T,a0T,.ref kw kw 0 f.n]⟩)
 (ha:H[ka]? = some ⟨ka,28,1,List.replicate f.n a0T⟩) (hw:H[kw]? = some ⟨kw,4,1,(List.replicate f.n false).map B⟩) :
 ∃ H' nx',Wk ⟨env,H,6⟩ ⟨env,H',nx'⟩∧SB f ka kw o0 o1 (fun _=>[]) ⟨0,H',6,7,8,9,fun c=>10+c,fun _=>(0,0),fun _=>(0,0),nx'⟩:=by
 have w1:=a9E (env:=env) (nx:=6) (j:=2) 72 1 (by decide) he hS (by simp) rfl;obtain ⟨H1,e1⟩:∃ H1,H1=H.set 5 ⟨5,70,1,[a7G f,.ref ka ka 0 f.n,.ref 6 6 0 0,a0T,a0T,a0T,a0T,.ref kw kw 0 f.n]⟩++[⟨6,72,1,[]⟩]:=⟨_,rfl⟩
 rw[hl]at w1;have w1':Wk ⟨env,H,6⟩ ⟨env,H1,7⟩:=by rw[e1];exact w1
 have l1:H1.length=7:=by rw[e1];simp[hl]
 have hS1:H1[5]? = some ⟨5,70,1,[a7G f,.ref ka ka 0 f.n,.ref 6 6 0 0,a0T,a0T,a0T,a0T,.ref kw kw 0 f.n]⟩:=by rw[e1,List.getElem?_append_left (by simp[hl]),List.getElem?_set_self (by omega)]
 have o1':∀ i,i<6→i≠5→H1[i]? = H[i]?:=fun i hi hne=>by rw[e1,List.getElem?_append_left (by simp[hl];omega),List.getElem?_set_ne (by omega)]
 have n1:H1[6]? = some ⟨6,72,1,[]⟩:=by rw[e1,List.getElem?_append_right (by simp[hl])];simp[hl]
 clear e1 w1;have w2:=a9E (env:=env) (nx:=7) (j:=3) 72 1 (by decide) he hS1 (by simp) rfl;obtain ⟨H2,e2⟩:∃ H2,H2=H1.set 5 ⟨5,70,1,[a7G f,.ref ka ka 0 f.n,.ref 6 6 0 0,.ref 7 7 0 0,a0T,a0T,a0T,.ref kw kw 0 f.n]⟩++[⟨7,72,1,[]⟩]:=⟨_,rfl⟩
 rw[l1]at w2;have w2':Wk ⟨env,H1,7⟩ ⟨env,H2,8⟩:=by rw[e2];exact w2
 have l2:H2.length=8:=by rw[e2];simp[l1]
 have hS2:H2[5]? = some ⟨5,70,1,[a7G f,.ref ka ka 0 f.n,.ref 6 6 0 0,.ref 7 7 0 0,a0T,a0T,a0T,.ref kw kw 0 f.n]⟩:=by rw[e2,List.getElem?_append_left (by simp[l1]),List.getElem?_set_self (by omega)]
 have o2':∀ i,i<7→i≠5→H2[i]? = H1[i]?:=fun i hi hne=>by rw[e2,List.getElem?_append_left (by simp[l1];omega),List.getElem?_set_ne (by omega)]
 have n2:H2[7]? = some ⟨7,72,1,[]⟩:=by rw[e2,List.getElem?_append_right (by simp[l1])];simp[l1]
 clear e2 w2;have w3:=a9E (env:=env) (nx:=8) (j:=4) 72 1 (by decide) he hS2 (by simp) rfl;obtain ⟨H3,e3⟩:∃ H3,H3=H2.set 5 ⟨5,70,1,[a7G f,.ref ka ka 0 f.n,.ref 6 6 0 0,.ref 7 7 0 0,.ref 8 8 0 0,a0T,a0T,.ref kw kw 0 f.n]⟩++[⟨8,72,1,[]⟩]:=⟨_,rfl⟩
 rw[l2]at w3;have w3':Wk ⟨env,H2,8⟩ ⟨env,H3,9⟩:=by rw[e3];exact w3
 have l3:H3.length=9:=by rw[e3];simp[l2]
 have hS3:H3[5]? = some ⟨5,70,1,[a7G f,.ref ka ka 0 f.n,.ref 6 6 0 0,.ref 7 7 0 0,.ref 8 8 0 0,a0T,a0T,.ref kw kw 0 f.n]⟩:=by rw[e3,List.getElem?_append_left (by simp[l2]),List.getElem?_set_self (by omega)]
 have o3':∀ i,i<8→i≠5→H3[i]? = H2[i]?:=fun i hi hne=>by rw[e3,List.getElem?_append_left (by simp[l2];omega),List.getElem?_set_ne (by omega)]
 have n3:H3[8]? = some ⟨8,72,1,[]⟩:=by rw[e3,List.getElem?_append_right (by simp[l2])];simp[l2]
 clear e3 w3;have w4:=a9E (env:=env) (nx:=9) (j:=5) 72 1 (by decide) he hS3 (by simp) rfl;obtain ⟨H4,e4⟩:∃ H4,H4=H3.set 5 ⟨5,70,1,slB f ka kw 0 6 7 8 9⟩++[⟨9,72,1,[]⟩]:=⟨_,rfl⟩
 rw[l3]at w4;have w4':Wk ⟨env,H3,9⟩ ⟨env,H4,10⟩:=by rw[e4];exact w4
 have l4:H4.length=10:=by rw[e4];simp[l3]
 have hS4:H4[5]? = some ⟨5,70,1,slB f ka kw 0 6 7 8 9⟩:=by rw[e4,List.getElem?_append_left (by simp[l3]),List.getElem?_set_self (by omega)]
 have o4':∀ i,i<9→i≠5→H4[i]? = H3[i]?:=fun i hi hne=>by rw[e4,List.getElem?_append_left (by simp[l3];omega),List.getElem?_set_ne (by omega)]
 have n4:H4[9]? = some ⟨9,72,1,[]⟩:=by rw[e4,List.getElem?_append_right (by simp[l3])];simp[l3]
 clear e4 w4;have old:∀ i,i<6→i≠5→H4[i]? = H[i]?:=fun i hi hne=>by rw[o4' i (by omega) hne,o3' i (by omega) hne,o2' i (by omega) hne,o1' i hi hne]
 obtain ⟨H',hw',g1,g2,g3,g4⟩:=b4w f.n ka (by omega) env he H4 l4 (by rw[old ka (by omega) (by omega)];exact ha) f.n (Nat.le_refl _);refine ⟨H',_,(((w1'.trans w2').trans w3').trans w4').trans hw',?_⟩;refine ⟨?_,?_,?_,?_,?_,fun c hc=>g4 c hc,?_,?_,?_,?_,fun c hc=>absurd hc (by simp),fun c hc=>absurd hc (by simp),?_,fun c hc=>absurd hc (by simp),fun c hc=>absurd hc (by simp),fun c hc=>absurd hc (by simp)⟩
 ·rw[g2 0 (by omega) (by omega),old 0 (by omega) (by omega)];exact h0
 ·rw[g2 1 (by omega) (by omega),old 1 (by omega) (by omega)];exact h1
 ·rw[g2 2 (by omega) (by omega),old 2 (by omega) (by omega)];exact h2
 ·rw[g2 5 (by omega) (by omega)];exact hS4
 ·rw[g3];congr 2;refine List.ext_getElem (by simp) fun i q1 q2=>?_;have:i<f.n:=by simpa using q1
  simp[this]
 ·rw[g2 6 (by omega) (by omega),o4' 6 (by omega) (by omega),o3' 6 (by omega) (by omega),o2' 6 (by omega) (by omega)];exact n1
 ·rw[g2 7 (by omega) (by omega),o4' 7 (by omega) (by omega),o3' 7 (by omega) (by omega)];exact n2
 ·rw[g2 8 (by omega) (by omega),o4' 8 (by omega) (by omega)];exact n3
 ·rw[g2 9 (by omega) (by omega)];exact n4
 ·rw[g2 kw (by omega) (by omega),old kw (by omega) (by omega)];exact hw
set_option maxRecDepth 10000
open Go.V
structure RK where
 kl:Nat
 sl:Nat
 k1:Nat
 s1:Nat
 k2:Nat
 s2:Nat
 g1:Nat→Nat × Nat
 g2:Nat→Nat × Nat
structure RS (f:BF) (H:List VObj) (q:RK) (I O:List (List Bool)):Prop where
 fb:H[0]? = some ⟨0,34,1,bfL f⟩
 rl:H[1]? = some ⟨1,37,1,[a0T,a0T]⟩
 lv:H[q.kl]? = some ⟨q.sl,37,1,[.ref q.k1 q.s1 0 f.n,.ref q.k2 q.s2 0 f.n]⟩
 mi:MT f.n f.r H q.k1 q.s1 q.g1 I
 mo:MT f.n f.r H q.k2 q.s2 q.g2 O
 dio:∀ b<f.n,∀ c<f.n,(q.g1 b).1≠(q.g2 c).1
section
variable {f:BF} {H:List VObj} {q:RK} {I O:List (List Bool)}
theorem RS.app (h:RS f H q I O) (R:List VObj):RS f (H++R) q I O:=⟨a0p h.fb R,a0p h.rl R,a0p h.lv R,h.mi.app R,h.mo.app R,h.dio⟩
theorem RS.setO (h:RS f H q I O) (hl:O.length=f.n) {b:Nat} (hb:b<f.n) (l:List Bool):RS f (H.set (q.g2 b).1 ⟨(q.g2 b).2,4,1,l.map B⟩) q I (O.set b l):=by
 have k:KeepT [4] H (H.set (q.g2 b).1 ⟨(q.g2 b).2,4,1,l.map B⟩):=KeepT.set (h.mo.r b hb) (by simp);have hO:b<O.length:=by omega
 refine ⟨k _ _ h.fb (by simp),k _ _ h.rl (by simp),k _ _ h.lv (by simp),⟨k _ _ h.mi.l (by simp),fun c hc=>?_,h.mi.d⟩,⟨k _ _ h.mo.l (by simp),fun c hc=>?_,h.mo.d⟩,h.dio⟩
 ·rw[a0O (fun e=>h.dio c hc b hb e.symm)];exact h.mi.r c hc
 ·rw[a5H hO];by_cases e:b=c
  ·subst e;rw[if_pos rfl];exact a0N (h.mo.r b hb)
  ·rw[if_neg e,a0O (fun g=>e (h.mo.d b hb c hc g))];exact h.mo.r c hc
theorem RS.setI (h:RS f H q I O) (hl:I.length=f.n) {b:Nat} (hb:b<f.n) (l:List Bool):RS f (H.set (q.g1 b).1 ⟨(q.g1 b).2,4,1,l.map B⟩) q (I.set b l) O:=by
 have k:KeepT [4] H (H.set (q.g1 b).1 ⟨(q.g1 b).2,4,1,l.map B⟩):=KeepT.set (h.mi.r b hb) (by simp);have hI:b<I.length:=by omega
 refine ⟨k _ _ h.fb (by simp),k _ _ h.rl (by simp),k _ _ h.lv (by simp),⟨k _ _ h.mi.l (by simp),fun c hc=>?_,h.mi.d⟩,⟨k _ _ h.mo.l (by simp),fun c hc=>?_,h.mo.d⟩,h.dio⟩
 ·rw[a5H hI];by_cases e:b=c
  ·subst e;rw[if_pos rfl];exact a0N (h.mi.r b hb)
  ·rw[if_neg e,a0O (fun g=>e (h.mi.d b hb c hc g))];exact h.mi.r c hc
 ·rw[a0O (fun e=>h.dio b hb c hc e)];exact h.mo.r c hc
end
theorem MT.keep {n r:Nat} {H H':List VObj} {k s:Nat} {g:Nat→Nat × Nat} {m:List (List Bool)} {ts:List Nat} (h:MT n r H k s g m) (kp:KeepT ts H H') (h1:68 ∉ ts) (h2:4 ∉ ts):MT n r H' k s g m :=
 ⟨kp _ _ h.l h1,fun b hb=>kp _ _ (h.r b hb) h2,h.d⟩
theorem MT.frz {n r:Nat} {H:List VObj} {k s nx:Nat} {g:Nat→Nat × Nat} {m:List (List Bool)} (h:MT n r H k s g m) (hm:m.length=n) (hr:∀ l ∈ m,l.length=r):Frz 0 H nx (.ref k s 0 n) (a5n m):=by
 refine b6u (Nat.zero_le _) h.l (by simp[hm]) (by simp[hm]) (by simp[AV.one]) fun i x y hx hy=>?_;have hi:i<n:=by have:=(List.getElem?_eq_some_iff.1 hx).1;simpa using this
 simp only[List.getElem?_map,List.getElem?_range hi,Option.map_some,Option.some.injEq]at hx;rw[List.getElem?_map,List.getElem?_eq_getElem (show i<m.length by omega),Option.map_some,Option.some.injEq]at hy;subst hx;subst hy;have e:m.getD i []=m[i]:=by simp[List.getD,List.getElem?_eq_getElem (show i<m.length by omega)]
 have ho:=h.r i hi;rw[e]at ho;exact c1q (Nat.zero_le _) ho (hr _ (List.getElem_mem _)).symm
def _root_.Go.V.VC.tl:VC→VC
 | .seq _ y=>y
 | x=>x
def Kept (H H':List VObj):Prop:=∀ (i:Nat) (ob:VObj),H[i]? = some ob→H'[i]? = some ob
theorem Kept.app (H R:List VObj):Kept H (H++R):=fun _ _ h=>a0p h R
theorem Kept.trans {A B C:List VObj} (h:Kept A B) (k:Kept B C):Kept A C:=fun i ob ho=>k i ob (h i ob ho)
theorem MT.kept {n r:Nat} {H H':List VObj} {k s:Nat} {g:Nat→Nat × Nat} {m:List (List Bool)} (h:MT n r H k s g m) (kp:Kept H H'):MT n r H' k s g m:=⟨kp _ _ h.l,fun b hb=>kp _ _ (h.r b hb),h.d⟩
theorem MT.lt {n r:Nat} {H:List VObj} {k s:Nat} {g:Nat→Nat × Nat} {m:List (List Bool)} (h:MT n r H k s g m) {b:Nat} (hb:b<n):(g b).1<H.length:=(List.getElem?_eq_some_iff.1 (h.r b hb)).1
theorem MT.lv {n r:Nat} {H:List VObj} {k s kl:Nat} {g:Nat→Nat × Nat} {m:List (List Bool)} {o o':VObj} (h:MT n r H k s g m) (ho:H[kl]? = some o) (ht:o.ty=37):MT n r (H.set kl o') k s g m :=
 h.keep (ts:=[37]) (KeepT.set ho (by rw[ht];simp)) (by simp) (by simp)
set_option maxRecDepth 10000
open Go.V
structure WQ2 where
 k:Nat
 H:List VObj
 wv:AV
 nx:Nat
theorem SB.HS {f:BF} {ka kw:Nat} {o0 o1:VObj} {x:BQ} (h:SB f ka kw o0 o1 (a3h f f.n 0) x) (hb:x.b=f.n) :
 HS f x.H ⟨5,5,8,x.s8,9,x.s9,kw,kw,ka,ka,6,x.s6,7,x.s7,fun c=>(10+c,x.sp c),x.ri,x.ro⟩ a0T ⟨List.replicate f.n (List.replicate f.r false),List.replicate f.n (List.replicate f.r false),[]⟩:=by
 have hrep:∀ b,b<f.n→(List.replicate f.n (List.replicate f.r false)).getD b []=List.replicate f.r false:=fun b hb=>by simp[List.getD,hb]
 have htk:f.bks.take f.n=f.bks:=List.take_of_length_le (Nat.le_refl _);have hpl:a3h f f.n 0=a3f f:=funext fun c=>c2f f c;have hso:=h.so;have h6:=h.r6;have h7:=h.r7;have h8:=h.r8;have h9:=h.r9;rw[hb]at hso h6 h7 h8 h9;rw[htk]at h6 h7;have hah:=h.ah;have hpr:=h.pr;rw[hpl]at hah hpr;have hfl:a4r f.n []=List.replicate f.n false:=a7C (by simp[a4r]) fun v hv=>by
  have hv':v<f.n:=by simpa [a4r] using hv
  rw[a4s hv',b6T];simp
 exact ⟨hso,h8,h9,fun b hb'=>by rw[hrep b hb'];exact h.ri b (by omega),fun b hb'=>by rw[hrep b hb'];exact h.ro b (by omega),by rw[hfl];exact h.w,.inl ⟨rfl,rfl⟩,hah,h6,h7,hpr,fun b hb' c hc=>h.dI b (by omega) c (by omega),fun b hb' c hc=>h.dO b (by omega) c (by omega),fun b hb' c hc=>h.dIO b (by omega) c (by omega)⟩
structure PQ where
 j:Nat
 H:List VObj
 sp:Nat→Nat
 nx:Nat
theorem a9F {a n:Nat} (h:a<n):(a<n+1)=True:=eq_true (by omega)
theorem b3i {α:Type} {H R:List α} {i:Nat} (h:i<H.length):(H++R)[i]? = H[i]?:=List.getElem?_append_left h
theorem a5N {α:Type} {H:List α} {a:α}:(H++[a])[H.length]? = some a:=by simp
theorem a5O {α:Type} {H:List α} {a:α} {k:Nat} (h:k=H.length):(H++[a])[k]? = some a:=by subst h;simp
theorem b3j {α:Type} {H:List α} {a:α} {i:Nat} (h:i<H.length):(H.set i a)[i]? = some a:=by simp[h]
theorem a8T {α:Type} {H:List α} {a:α} {i j:Nat} (h:(i=j)=False):(H.set i a)[j]? = H[j]?:=List.getElem?_set_ne (fun e=>by rw[e]at h;simp at h)
theorem a2x {H:List VObj} {t x y a:VObj} {k i:Nat} (h:H[i]? = some a) (hk:k≠i) (h5:5≠i):(((H++[t]).set k x).set 5 y)[i]? = some a:=by rw[a0O h5,a0O hk];exact a0p h _
theorem b4x {H:List VObj} {t x y a:VObj} {k:Nat} (h:H[5]? = some a):(((H++[t]).set k x).set 5 y)[5]? = some y:=by
 have:=(List.getElem?_eq_some_iff.1 h).1;rw[List.getElem?_set_self (by simp;omega)]
theorem b9p {H:List VObj} {t x y a:VObj} {k:Nat} (h:H[k]? = some a) (h5:5≠k):(((H++[t]).set k x).set 5 y)[k]? = some x:=by
 rw[a0O h5];exact a0N (a0p h _)
theorem a7H {H:List VObj} {t x y a z:VObj} {k:Nat} (h:H[k]? = some a) (h5:H[5]? = some z) (ha:a.ty=72) (hz:z.ty=70):KeepT [72,70] H (((H++[t]).set k x).set 5 y):=fun i ob hi ho=>by
 have f1:k≠i:=fun e=>by subst e;rw[h]at hi;cases hi;exact ho (by simp[ha])
 have f2:5≠i:=fun e=>by subst e;rw[h5]at hi;cases hi;exact ho (by simp[hz])
 exact a2x hi f1 f2
theorem b4y (n r:Nat) (ri:Nat→Nat × Nat) (q:Nat × Nat):a5M n r ri++[AV.ref q.1 q.2 0 (rl r)]=a5M (n+1) r (fun c=>if c=n then q else ri c):=by
 unfold a5M;rw[List.range_succ,List.map_append];congr 1
 ·refine List.map_congr_left fun c hc=>?_;have:c≠n:=by have:=List.mem_range.1 hc;omega
  simp only[if_neg this]
 ·simp
theorem SB.row {f:BF} {ka kw:Nat} {o0 o1:VObj} {pl:Nat→List Nat} {x:BQ} (h:SB f ka kw o0 o1 pl x) (t0:o0.ty=34) (t1:o1.ty=37) (hb:x.b<f.n)
 {H4 H6 H7:List VObj} {y1 u1 u2 a5:VObj} {s6' s7' s8' s9' n4 n6 nx':Nat}
 (k4:KeepT [72,70] x.H H4) (g5:H4[5]? = some a5) (g5t:a5.ty=70)
 (g6:H4[6]? = some ⟨s6',72,1,(f.bks.take (x.b+1)).map fun b=>.imm 1 (a0c (a4v b f.r))⟩)
 (g7:H4[7]? = some ⟨s7',72,1,(f.bks.take (x.b+1)).map fun b=>.imm 1 (a0c (b3e b f.r))⟩)
 (g8:H4[8]? = some ⟨x.s8,72,1,a5M x.b f.r x.ri⟩) (g9:H4[9]? = some ⟨x.s9,72,1,a5M x.b f.r x.ro⟩)
 (y1t:y1.ty=70)
 (e6:H6=(((H4++[VObj.mk n4 108 1 (a0c (List.replicate f.r false))])++[u1]).set 8 (VObj.mk s8' 72 1 (a5M x.b f.r x.ri++[AV.ref H4.length n4 0 (rl f.r)]))).set 5 y1)
 (e7:H7=(((H6++[VObj.mk n6 108 1 (a0c (List.replicate f.r false))])++[u2]).set 9 (VObj.mk s9' 72 1 (a5M x.b f.r x.ro++[AV.ref H6.length n6 0 (rl f.r)]))).set 5 (VObj.mk 5 70 1 (slB f ka kw (x.b+1) s6' s7' s8' s9'))) :
 SB f ka kw o0 o1 pl ⟨x.b+1,H7,s6',s7',s8',s9',x.sp,fun c=>if c=x.b then (H4.length,n4) else x.ri c,fun c=>if c=x.b then (H6.length,n6) else x.ro c,nx'⟩:=by
 have k5:KeepT [72,70] (H4++[⟨n4,108,1,a0c (List.replicate f.r false)⟩]) H6:=by
  rw[e6];exact a7H (a0p g8 _) (a0p g5 _) rfl g5t
 have k6:=(KeepT.app [72,70] H4 [⟨n4,108,1,a0c (List.replicate f.r false)⟩]).trans k5;have j5:H6[5]? = some y1:=by rw[e6];exact b4x (a0p g5 _)
 have j6:H6[6]? = some _:=(congrArg (fun l:List VObj=>l[(6:Nat)]?) e6).trans (a2x (a0p g6 _) (by decide) (by decide));have j7:H6[7]? = some _:=(congrArg (fun l:List VObj=>l[(7:Nat)]?) e6).trans (a2x (a0p g7 _) (by decide) (by decide));have j8:H6[8]? = some _:=(congrArg (fun l:List VObj=>l[(8:Nat)]?) e6).trans (b9p (a0p g8 _) (by decide));have j9:H6[9]? = some _:=(congrArg (fun l:List VObj=>l[(9:Nat)]?) e6).trans (a2x (a0p g9 _) (by decide) (by decide));have k7':KeepT [72,70] (H6++[⟨n6,108,1,a0c (List.replicate f.r false)⟩]) H7:=by
  rw[e7];exact a7H (a0p j9 _) (a0p j5 _) rfl y1t
 have k7:=(KeepT.app [72,70] H6 [⟨n6,108,1,a0c (List.replicate f.r false)⟩]).trans k7';have k:=(k4.trans k6).trans k7;have li:∀ c<x.b,(x.ri c).1<H4.length:=fun c hc=>(List.getElem?_eq_some_iff.1 (k4 _ _ (h.ri c hc) (by simp))).1;have lo:∀ c<x.b,(x.ro c).1<H4.length:=fun c hc=>(List.getElem?_eq_some_iff.1 (k4 _ _ (h.ro c hc) (by simp))).1;have l46:H4.length<H6.length:=by rw[e6];simp
 refine ⟨k _ _ h.h0 (by rw[t0];simp),k _ _ h.h1 (by rw[t1];simp),k _ _ h.h2 (by simp),?_,k _ _ h.ah (by simp),fun c hc=>k _ _ (h.pr c hc) (by simp),?_,?_,?_,?_,fun c hc=>?_,fun c hc=>?_,k _ _ h.w (by simp),fun c hc d hd=>?_,fun c hc d hd=>?_,fun c hc d hd=>?_⟩
 ·rw[e7];exact b4x (a0p j5 _)
 ·rw[e7];exact a2x (a0p j6 _) (by decide) (by decide)
 ·rw[e7];exact a2x (a0p j7 _) (by decide) (by decide)
 ·rw[← b4y,e7];exact a2x (a0p j8 _) (by decide) (by decide)
 ·rw[← b4y,e7];exact b9p (a0p j9 _) (by decide)
 ·simp only at hc ⊢;by_cases e:c=x.b
  ·rw[if_pos e];exact k7 _ _ (k5 _ _ a5N (by simp)) (by simp)
  ·rw[if_neg e];exact k _ _ (h.ri c (by omega)) (by simp)
 ·simp only at hc ⊢;by_cases e:c=x.b
  ·rw[if_pos e];exact k7' _ _ a5N (by simp)
  ·rw[if_neg e];exact k _ _ (h.ro c (by omega)) (by simp)
 ·simp only at hc hd ⊢;by_cases e:c=x.b
  ·by_cases e2:d=x.b
   ·intro _;omega
   ·rw[if_pos e,if_neg e2];intro he;have:=li d (by omega);simp only at he;omega
  ·by_cases e2:d=x.b
   ·rw[if_neg e,if_pos e2];intro he;have:=li c (by omega);simp only at he;omega
   ·rw[if_neg e,if_neg e2];exact h.dI c (by omega) d (by omega)
 ·simp only at hc hd ⊢;by_cases e:c=x.b
  ·by_cases e2:d=x.b
   ·intro _;omega
   ·rw[if_pos e,if_neg e2];intro he;have:=lo d (by omega);simp only at he;omega
  ·by_cases e2:d=x.b
   ·rw[if_neg e,if_pos e2];intro he;have:=lo c (by omega);simp only at he;omega
   ·rw[if_neg e,if_neg e2];exact h.dO c (by omega) d (by omega)
 ·simp only at hc hd ⊢;by_cases e:c=x.b
  ·by_cases e2:d=x.b
   ·rw[if_pos e,if_pos e2];intro he;simp only at he;omega
   ·rw[if_pos e,if_neg e2];intro he;have:=lo d (by omega);simp only at he;omega
  ·by_cases e2:d=x.b
   ·rw[if_neg e,if_pos e2];intro he;have:=li c (by omega);simp only at he;omega
   ·rw[if_neg e,if_neg e2];exact h.dIO c (by omega) d (by omega)
theorem b4z {f:BF} {b:Nat} (hb:b<f.n) (g:Bk→AV):List.take b (List.map g (List.take b f.bks))++[g (f.bk b)]=(f.bks.take (b+1)).map g:=by
 have:f.bks[b]? = some (f.bk b):=by
  have h:b<f.bks.length:=hb;unfold BF.bk;simp[List.getD,h]
 rw[List.take_of_length_le (by simp;omega),List.take_add_one,this];simp
theorem b8r (f:BF) (hf:Fine f) (hr:f.r≤64) (ka kw:Nat) (hk:(ka=3∧kw=4)∨(ka=4∧kw=3)) (o0 o1:VObj) (t0:o0.ty=34) (t1:o1.ty=37) (env:List (Nat × AV)) (he1:get env 1 = .ptr 2 2 0) (he3:get env 3=I f.n) (he4:get env 4 = .ptr 5 5 0)
 (H:List VObj) (hl:H.length=6) (h0:H[0]? = some o0) (h1:H[1]? = some o1)
 (h2:H[2]? = some ⟨2,34,1,bfL f⟩) (hS:H[5]? = some ⟨5,70,1,[a7G f,.ref ka ka 0 f.n,a0T,a0T,a0T,a0T,a0T,.ref kw kw 0 f.n]⟩)
 (ha:H[ka]? = some ⟨ka,28,1,List.replicate f.n a0T⟩) (hw:H[kw]? = some ⟨kw,4,1,(List.replicate f.n false).map B⟩) (C:AV→List VObj→Nat→Prop)
 (hC:∀ q H nx wv,HS f H q wv (a8v f)→H[0]? = some o0→H[1]? = some o1→C (.ptr q.kS q.sS 0) H nx):VW Tryz.prog c_live_solverOf.tl.tl.tl (a8D Tryz.prog [VR.tmp 2] C) ⟨env,H,6⟩:=by
 have hr0:=hf.r0;have hregs:f.regs=(f.r:Int):=by unfold BF.r;omega
 have hn5:f.n≤500:=hf.b1;have hlen:f.bks.length=f.n:=rfl;have hmx:(200000:Nat)≤maxLen:=by decide
 simp only[go_sem,c_live_solverOf,VC.tl,he1,he3,he4,hS,hlen];obtain ⟨H',nx',hwk,hsb⟩:=c0r f ka kw hk o0 o1 [(1,.ptr 2 2 0),(3,I f.n),(4,.ptr 5 5 0),(26,a7G f),(27,I f.n),(28,I ((0:Nat):Int))] (by simp[a0a]) H hl h0 h1 h2 hS ha hw;refine a0r (fun x:BQ=>⟨[(1,.ptr 2 2 0),(3,I f.n),(4,.ptr 5 5 0),(26,a7G f),(27,I f.n),(28,I x.b)],x.H,x.nx⟩) (fun x=>x.b≤f.n∧SB f ka kw o0 o1 (a3h f x.b 0) x) (fun x=>f.n-x.b) ⟨0,H',6,7,8,9,fun c=>10+c,fun _=>(0,0),fun _=>(0,0),nx'⟩
  (by refine Wk.trans ?_ hwk;exact Wk.mk (by simp[a0a,he1,he3,he4]) ⟨[],by simp⟩ (Nat.le_refl _)) ⟨Nat.zero_le _,hsb⟩ ?_
 clear hsb hwk h0 h1 h2 hS ha hw hl;rintro ⟨b,H,s6,s7,s8,s9,sp,ri,ro,nx⟩ ⟨hb,h⟩;simp only at hb h;have hka:ka=3∨ka=4:=by omega
 have hkw:kw=3∨kw=4:=by omega
 have hne:ka≠kw:=by omega
 by_cases hlt:b<f.n
 ·have hbk:f.bks.getD b default=f.bk b:=rfl;have hnl:=b3a (f.bk b);have hto:=hf.to _ (BF.mem hlt);simp only[go_sem,hbk,hlen,eq_true (show (b:Int)<f.n by omega)]
  repeat ((with_reducible refine And.intro ?_ ?_);· omega)
  refine a0r (fun y:PQ=>⟨[(1,.ptr 2 2 0),(3,I f.n),(4,.ptr 5 5 0),(26,a7G f),(27,I f.n),(28,I b),(5,I b),(33,a2t (nxt (f.bk b))),(34,I (nxt (f.bk b)).length),(35,I y.j)],y.H,y.nx⟩)
   (fun y=>y.j≤(nxt (f.bk b)).length∧SB f ka kw o0 o1 (a3h f b y.j) ⟨b,y.H,s6,s7,s8,s9,y.sp,ri,ro,y.nx⟩) (fun y=>(nxt (f.bk b)).length-y.j) ⟨0,H,sp,nx⟩ (Wk.mk (by simp[a0a]) ⟨[],by simp⟩ (Nat.le_refl _)) ⟨Nat.zero_le _,h⟩ ?_
  clear h;rintro ⟨j,H,sp,nx⟩ ⟨hj,h⟩;simp only at hj h;have hso:=h.so;have hah:=h.ah;simp only at hso hah;have l5:=a1l hso;have lka:=a1l hah;by_cases hl2:j<(nxt (f.bk b)).length
  ·have hkk:=hto _ (a0q hl2);have hps:=fun c=>c0q f b c hl2;obtain ⟨k,hkd⟩:∃ k,k=((nxt (f.bk b)).getD j default).toNat:=⟨_,rfl⟩
   have hki:(nxt (f.bk b)).getD j default=(k:Int):=by omega
   have hkn:k<f.n:=by unfold BF.n;omega
   have hpr:=h.pr k hkn;have hpl:=c2g f b j k;simp only at hpr;have lk:=a1l hpr;have m1:=eq_true (show 5<H.length+1 by have:=of_eq_true l5;omega);have m2:=eq_true (show ka<H.length+1 by have:=of_eq_true lka;omega);have m3:=eq_true (show 10+k<H.length+1 by have:=of_eq_true lk;omega);have f1:(10+k=ka)=False:=eq_false (by omega);have f2:(10+k=5)=False:=eq_false (by omega);have f3:(5=ka)=False:=eq_false (by omega);have f4:(ka=5)=False:=eq_false (by omega);have f5:(ka=10+k)=False:=eq_false (by omega);simp only[go_sem,hso,hah,hpr,hki,c3L,eq_true (show (j:Int)<(nxt (f.bk b)).length by omega),List.getElem?_set,List.getElem?_append,List.length_set,List.length_append,l5,lka,lk,m1,m2,m3,f1,f2,f3,f4,f5,Nat.lt_irrefl,Nat.sub_self]
   repeat' (with_reducible apply And.intro)
   all_goals first | omega | exact ⟨rfl,rfl,rfl⟩ | (simp only[List.length_range];omega) | skip
   all_goals
    have hpn:(fun c=>if c=k then a3h f b j k++[b] else a3h f b j c)=a3h f b (j+1):=by
     funext c;rw[hps c,hki,Int.toNat_natCast];by_cases e:c=k
     ·subst e;simp
     ·rw[if_neg e,if_neg (fun h=>e h.symm)]
    have hadd:=h.add hka hkw hne t0 t1 hkn (a3h f b j k++[b]) (nx+1) ⟨nx,3,1,[I b]⟩ (nx+1+1);rw[hpn]at hadd;refine ⟨⟨j+1,((H++[(⟨nx,3,1,[I b]⟩:VObj)]).set (10+k) (⟨nx+1,3,1,b2b (a3h f b j k++[b])⟩:VObj)).set ka (⟨ka,28,1,ahC f.n (fun c=>if c=k then nx+1 else sp c) (a3h f b (j+1))⟩:VObj),fun c=>if c=k then nx+1 else sp c,nx+1+1⟩,⟨by show j+1≤_;omega,hadd⟩,by show _-(j+1)<_-j;omega,?_⟩;rw[c5X hkn (a3h f b j k++[b]) (by simp),hpn,show List.take (a3h f b j k).length (b2b (a3h f b j k))++[I (b:Int)]=b2b (a3h f b j k++[b]) by simp[b2b,List.take_of_length_le]];rw[a0e (by omega) (by omega)];exact Wk.mk (by simp[a0a]) ⟨[],by simp⟩ (Nat.le_refl _)
  ·have hje:j=(nxt (f.bk b)).length:=by omega
   subst hje;rw[show a3h f b (nxt (f.bk b)).length=a3h f (b+1) 0 from funext fun c=>c0p f b c]at h;have h6:=h.r6;have h7:=h.r7;have h8:=h.r8;have h9:=h.r9;have h2:=h.h2;simp only at h6 h7 h8 h9 h2;have l2:=a1l h2;have l6:=a1l h6;have l7:=a1l h7;have l8:=a1l h8;have l9:=a1l h9;simp only[go_sem,h2,hso,hbk,hlen,eq_false (show ¬ ((nxt (f.bk b)).length:Int)<(nxt (f.bk b)).length by omega)];have hbm:=BF.mem hlt;have hro:=hf.v _ hbm;have hrt:=hf.ins _ hbm;rw[hregs]at hro hrt;refine ⟨hlt,ECall.of (c5R (f.bk b) f.r hr (by have:=hf.len _ hbm;omega) hro hrt) (by rw[hregs];exact SleL.pure rfl) ⟨_,fun _=>Iff.rfl⟩ fun x hx=>?_⟩;subst hx;have e56:(5=6)=False:=by simp
   have e57:(5=7)=False:=by simp
   have e58:(5=8)=False:=by simp
   have e59:(5=9)=False:=by simp
   have e65:(6=5)=False:=by simp
   have e75:(7=5)=False:=by simp
   have e76:(7=6)=False:=by simp
   have e67:(6=7)=False:=by simp
   simp only[go_sem,hso,h6,h7,h8,h9,h2,List.length_set,List.length_append,l2,l5,l6,l7,l8,l9,a9F,b3i,a5N,a5O,b3j,a8T,Nat.zero_add,e56,e57,e58,e59,e65,e75,e76,e67,List.length_take,hlen]
   repeat ((with_reducible refine And.intro ?_ ?_);· first | omega | exact ⟨rfl,rfl,rfl⟩)
   obtain ⟨H4,e4⟩:∃ H4,H4=(((((H++[((VObj.mk (nx) 72 1 ([AV.imm 1 (a0c (a4v (f.bk b) f.r))])))]).set 6 (VObj.mk (nx+1) 72 1 (List.take b (List.map (fun b=>AV.imm 1 (a0c (a4v b f.r))) (List.take b f.bks))++[AV.imm 1 (a0c (a4v (f.bk b) f.r))]))).set 5 (VObj.mk (5) 70 1 ([a7G f,AV.ref ka ka 0 f.n,AV.ref 6 (nx+1) 0 (b+1),AV.ref 7 s7 0 b,AV.ref 8 s8 0 b,AV.ref 9 s9 0 b,a0T,AV.ref kw kw 0 f.n]))++[(VObj.mk (nx+1+1) 72 1 ([AV.imm 1 (a0c (b3e (f.bk b) f.r))]))]).set 7 (VObj.mk (nx+1+1+1) 72 1 (List.take b (List.map (fun b=>AV.imm 1 (a0c (b3e b f.r))) (List.take b f.bks))++[AV.imm 1 (a0c (b3e (f.bk b) f.r))]))).set 5 (VObj.mk (5) 70 1 ([a7G f,AV.ref ka ka 0 f.n,AV.ref 6 (nx+1) 0 (b+1),AV.ref 7 (nx+1+1+1) 0 (b+1),AV.ref 8 s8 0 b,AV.ref 9 s9 0 b,a0T,AV.ref kw kw 0 f.n]))):=⟨_,rfl⟩
   rw[← e4];have k4:KeepT [72,70] H H4:=by
    rw[e4];exact (a7H h6 hso rfl rfl).trans (a7H (a2x h7 (by decide) (by decide)) (b4x hso) rfl rfl)
   have h45:H4[5]? = some ⟨5,70,1,[a7G f,AV.ref ka ka 0 f.n,AV.ref 6 (nx+1) 0 (b+1),AV.ref 7 (nx+1+1+1) 0 (b+1),AV.ref 8 s8 0 b,AV.ref 9 s9 0 b,a0T,AV.ref kw kw 0 f.n]⟩:=by rw[e4];exact b4x (b4x hso)
   have h42:H4[2]? = some ⟨2,34,1,bfL f⟩:=k4 _ _ h2 (by simp);have h48:H4[8]? = some ⟨s8,72,1,a5M b f.r ri⟩:=by rw[e4];exact a2x (a2x h8 (by decide) (by decide)) (by decide) (by decide)
   have h49:H4[9]? = some ⟨s9,72,1,a5M b f.r ro⟩:=by rw[e4];exact a2x (a2x h9 (by decide) (by decide)) (by decide) (by decide)
   have l45:=a1l h45;have l42:=a1l h42;have l48:=a1l h48;have l49:=a1l h49;have e85:(8=5)=False:=by simp
   have e89:(8=9)=False:=by simp
   have e98:(9=8)=False:=by simp
   have e95:(9=5)=False:=by simp
   simp only[go_sem,h45,h42,h48,h49,List.length_set,List.length_append,l45,l42,l48,l49,a9F,b3i,a5N,a5O,b3j,a8T,e85,e89,e98,e95,Nat.zero_add,e58,e59];rw[← e4,hregs];refine ⟨?_,?_⟩
   all_goals
    unfold a4E;refine b5t f.r hr _ _ _ ?_;refine ⟨?_,?_⟩
    ·simp only[go_sem,List.length_set,List.length_append,b3i,a5N,a5O,b3j,a8T,Nat.zero_add];rw[← e4];exact b2l _ _
    simp only[go_sem,h45,h42,h48,h49,List.length_set,List.length_append,l45,l42,l48,l49,a9F,b3i,a5N,a5O,b3j,a8T,e85,e89,e98,e95,Nat.zero_add,e58,e59]
    repeat ((with_reducible refine And.intro ?_ ?_);· omega)
    obtain ⟨n4,en4⟩:∃ n4,n4=nx+1+1+1+1:=⟨_,rfl⟩
    rw[← en4];have htk:List.take b (a5M b f.r ri)=a5M b f.r ri:=List.take_of_length_le (by simp);have htk2:List.take b (a5M b f.r ro)=a5M b f.r ro:=List.take_of_length_le (by simp);rw[htk];obtain ⟨H6,e6⟩:∃ H6,H6=(((H4++[VObj.mk n4 108 1 (a0c (List.replicate f.r false))])++[VObj.mk (n4+1) 72 1 [AV.ref H4.length n4 0 (rl f.r)]]).set 8 (VObj.mk (n4+1+1) 72 1 (a5M b f.r ri++[AV.ref H4.length n4 0 (rl f.r)]))).set 5 (VObj.mk 5 70 1 [a7G f,AV.ref ka ka 0 f.n,AV.ref 6 (nx+1) 0 (b+1),AV.ref 7 (nx+1+1+1) 0 (b+1),AV.ref 8 (n4+1+1) 0 (b+1),AV.ref 9 s9 0 b,a0T,AV.ref kw kw 0 f.n]):=⟨_,rfl⟩
    rw[← e6];have k64:KeepT [72,70] H4 H6:=by
     rw[e6];exact (KeepT.app _ _ _).trans (a7H (a0p h48 _) (a0p h45 _) rfl rfl)
    have h65:H6[5]? = some _:=(congrArg (fun l:List VObj=>l[(5:Nat)]?) e6).trans (b4x (a0p h45 _));have h62:=k64 _ _ h42 (by simp);have h69:H6[9]? = some _:=(congrArg (fun l:List VObj=>l[(9:Nat)]?) e6).trans (a2x (a0p h49 _) (by decide) (by decide));have l65:=a1l h65;have l62:=a1l h62;have l69:=a1l h69;simp only[go_sem,h65,h62,h69,List.length_set,List.length_append,l65,l62,l69,a9F,b3i,a5N,a5O,b3j,a8T,e89,e98,e95,Nat.zero_add,e59];rw[htk,← e6,hregs];refine ⟨?_,?_⟩
    all_goals
     unfold a4E;refine b5t f.r hr _ _ _ ?_;refine ⟨?_,?_⟩
     ·simp only[go_sem,List.length_set,List.length_append,b3i,a5N,a5O,b3j,a8T,Nat.zero_add];rw[htk,← e6];exact b2l _ _
     simp only[go_sem,h65,h62,h69,List.length_set,List.length_append,l65,l62,l69,a9F,b3i,a5N,a5O,b3j,a8T,e89,e98,e95,Nat.zero_add,e59]
     repeat ((with_reducible refine And.intro ?_ ?_);· omega)
     rw[htk2];have g6:H4[6]? = some ⟨nx+1,72,1,(f.bks.take (b+1)).map fun b=>.imm 1 (a0c (a4v b f.r))⟩:=by
      rw[← b4z hlt (fun b=>.imm 1 (a0c (a4v b f.r))),e4];exact a2x (b9p h6 (by decide)) (by decide) (by decide)
     have g7:H4[7]? = some ⟨nx+1+1+1,72,1,(f.bks.take (b+1)).map fun b=>.imm 1 (a0c (b3e b f.r))⟩:=by
      rw[← b4z hlt (fun b=>.imm 1 (a0c (b3e b f.r))),e4];exact b9p (a2x h7 (by decide) (by decide)) (by decide)
     have hrow:=fun nx' H7 e7=>h.row (H7:=H7) (u2:=VObj.mk (n4+1+1+1+1) 72 1 [AV.ref H6.length (n4+1+1+1) 0 (rl f.r)]) (s9':=n4+1+1+1+1+1) (n6:=n4+1+1+1) (nx':=nx') t0 t1 hlt k4 h45 rfl g6 g7 h48 h49 rfl e6 e7;refine ⟨⟨b+1,_,nx+1,nx+1+1+1,n4+1+1,n4+1+1+1+1+1,sp,_,_,_⟩,⟨by show b+1≤_;omega,hrow (n4+1+1+1+1+1+1) _ rfl⟩,by show f.n-(b+1)<f.n-b;omega,?_⟩;rw[a0e (by omega) (by omega)];exact Wk.mk (by simp[a0a]) ⟨[],by simp⟩ (Nat.le_refl _)
 ·have hbe:b=f.n:=by omega
  subst hbe;have hs:=h.HS rfl;have hg0:=h.h0;have hg1:=h.h1;simp only at hs hg0 hg1;obtain ⟨q,hq⟩:∃ q:Ids,q=⟨5,5,8,s8,9,s9,kw,kw,ka,ka,6,s6,7,s7,fun c=>(10+c,sp c),ri,ro⟩:=⟨_,rfl⟩
  rw[← hq]at hs;have hqS:AV.ptr 5 5 0 = .ptr q.kS q.sS 0:=by rw[hq]
  clear hq h;simp only[go_sem,hlen,eq_false (show ¬ ((f.n:Nat):Int)<f.n by omega),hqS];refine a0r (fun y:WQ2=>⟨[(4,.ptr q.kS q.sS 0),(112,I f.n),(113,I y.k)],y.H,y.nx⟩) (fun y=>y.k≤f.n∧HS f y.H q y.wv ⟨List.replicate f.n (List.replicate f.r false),List.replicate f.n (List.replicate f.r false),List.range y.k⟩∧y.H[0]? = some o0∧y.H[1]? = some o1) (fun y=>f.n-y.k) ⟨0,H,a0T,nx⟩ (Wk.mk (by simp[a0a]) ⟨[],by simp⟩ (Nat.le_refl _)) ⟨Nat.zero_le _,hs,hg0,hg1⟩ ?_;clear hs hg0 hg1;rintro ⟨k,H,wv,nx⟩ ⟨hk1,hs,hg0,hg1⟩;simp only at hk1 hs hg0 hg1;by_cases hl3:k<f.n
  ·simp only[go_sem,eq_true (show (k:Int)<f.n by omega)];refine c4R hs _ _ hl3 hn5 (by simp;omega) _ ?_;intro r H' nx' wv' hs' hkeep;have hw:b2a (List.range k) k=List.range (k+1):=by
    unfold b2a;rw[if_neg (by simp),List.range_succ]
   simp only[hw]at hs';simp only[go_sem];refine ⟨⟨k+1,H',wv',nx'⟩,⟨by show k+1≤_;omega,hs',hkeep _ _ hg0 (by rw[t0];simp),hkeep _ _ hg1 (by rw[t1];simp)⟩,by show f.n-(k+1)<f.n-k;omega,?_⟩;rw[a0e (by omega) (by omega)];exact Wk.mk (by simp[a0a]) ⟨[],by simp⟩ (Nat.le_refl _)
  ·have hke:k=f.n:=by omega
   subst hke;simp only[go_sem,eq_false (show ¬ ((f.n:Nat):Int)<f.n by omega)];exact hC q H nx wv hs hg0 hg1
set_option maxRecDepth 10000
open Go.V
theorem c0s (f:BF) (hf:Fine f) (hr:f.r≤64):b7i f:=by
 intro o0 o1 C t0 t1 hC;refine VCall.of_body a1g b2L (by simp) ?_;have hn5:f.n≤500:=hf.b1;have hmx:(200000:Nat)≤maxLen:=by decide
 have hlen:f.bks.length=f.n:=rfl;have hc:c_live_solverOf=VC.seq _ (VC.seq _ (VC.seq _ c_live_solverOf.tl.tl.tl)):=rfl;have htail:=fun ka kw hk env he1 he3 he4 H hl h0 h1 h2 hS ha hw=>b8r f hf hr ka kw hk o0 o1 t0 t1 env he1 he3 he4 H hl h0 h1 h2 hS ha hw C (fun q H nx wv h g0 g1=>hC q H nx wv h g0 g1);obtain ⟨D,hD⟩:∃ D,D=c_live_solverOf.tl.tl.tl:=⟨_,rfl⟩
 rw[← hD]at htail;rw[hc,← hD];have hrp:∀ m,(List.replicate m [AV.val (.slice none 0 0)]).flatten=List.replicate m a0T:=fun m=>by simp[List.flatten_replicate_singleton]
 have hrb:∀ m,(List.replicate m [AV.val (.bool false)]).flatten=(List.replicate m false).map B:=fun m=>by simp[List.flatten_replicate_singleton]
 simp only[go_sem,hlen];refine ECall.of (c7x f hf.b1) (SleL.pure rfl) ⟨_,fun _=>Iff.rfl⟩ fun x hx=>?_;subst hx;simp only[go_sem,hlen]
 repeat' (with_reducible apply And.intro)
 all_goals first | omega | skip
 ·rw[hrp,hrb];exact htail 3 4 (.inl ⟨rfl,rfl⟩) _ rfl rfl rfl _ rfl rfl rfl rfl rfl rfl rfl
 ·rw[hrp,hrb];exact htail 4 3 (.inr ⟨rfl,rfl⟩) _ rfl rfl rfl _ rfl rfl rfl rfl rfl rfl rfl
theorem b7k (f:BF) (hf:Fine f) (hr:f.r≤64) (L:LD) (hL:Least f L):Contract Tryz.prog 7 [bfA f] (fun x=>x=c3m L):=c9M f hf hr (c0s f hf hr) L hL
set_option maxRecDepth 10000
open Go.V
theorem c3M (pl:List Int) (hl:pl.length≤140737488355328):Contract Tryz.prog 24 [alA pl] (fun r=>r=I (a8x pl)):=by
 refine Contract.of_call (VCall.of_body a1g b2M (by simp) ?_);simp only[go_sem,a7s];refine a0r (fun k:Nat=>⟨[(1,.ptr 0 0 0),(3,I (a8x (pl.take k))),(4,I k)],[⟨0,30,1,[a2t pl]⟩],1⟩) (fun k=>k≤pl.length) (fun k=>pl.length-k) 0 (Wk.mk (by simp[a0a,a8x]) ⟨[],rfl⟩ (Nat.le_refl _)) (Nat.zero_le _) ?_;intro k hk;by_cases h:k<pl.length
 ·have hst:=b7c pl h;generalize hp:pl.getD k default=p at hst;by_cases h1:p<0
  ·by_cases h2:a8x (pl.take k)<IntKind.i64.wrap (-p)
   ·rw[if_pos ⟨h1,h2⟩]at hst;simp only[go_sem,hp,Int.zero_sub,eq_true (show (k:Int)<pl.length by omega),eq_true h1,eq_true h2]
    repeat ((with_reducible refine And.intro ?_ ?_);· omega)
    rw[a0e (n:=(k:Int)+1) (by omega) (by omega)];exact ⟨k+1,by omega,by omega,Wk.mk (by simp[a0a,hst]) ⟨[],rfl⟩ (Nat.le_refl _)⟩
   ·rw[if_neg (fun e=>h2 e.2)]at hst;simp only[go_sem,hp,Int.zero_sub,eq_true (show (k:Int)<pl.length by omega),eq_true h1,eq_false h2]
    repeat ((with_reducible refine And.intro ?_ ?_);· omega)
    rw[a0e (n:=(k:Int)+1) (by omega) (by omega)];exact ⟨k+1,by omega,by omega,Wk.mk (by simp[a0a,hst]) ⟨[],rfl⟩ (Nat.le_refl _)⟩
  ·rw[if_neg (fun e=>h1 e.1)]at hst;simp only[go_sem,hp,Int.zero_sub,eq_true (show (k:Int)<pl.length by omega),eq_false h1]
   repeat ((with_reducible refine And.intro ?_ ?_);· omega)
   rw[a0e (n:=(k:Int)+1) (by omega) (by omega)];exact ⟨k+1,by omega,by omega,Wk.mk (by simp[a0a,hst]) ⟨[],rfl⟩ (Nat.le_refl _)⟩
 ·simp only[go_sem,eq_false (show ¬ (k:Int)<pl.length by omega)];refine ⟨_,Frz.pure rfl,?_⟩;rw[List.take_of_length_le (by omega)]
theorem c3N (pl:List Int) (hl:pl.length≤140737488355328):Contract Tryz.prog 25 [alA pl] (fun r=>r=I (a8x pl)):=by
 refine Contract.of_call (VCall.of_body a1g b4T (by simp) ?_);simp only[go_sem,a9o];refine a0r (fun k:Nat=>⟨[(3,I (a8x (pl.take k))),(7,a2t pl),(8,I pl.length),(9,I k)],[],1⟩) (fun k=>k≤pl.length) (fun k=>pl.length-k) 0 (Wk.mk (by simp[a0a,a8x]) ⟨_,rfl⟩ (Nat.le_refl _)) (Nat.zero_le _) ?_;intro k hk;by_cases h:k<pl.length
 ·have hst:=b7c pl h;generalize hp:pl.getD k default=p at hst;by_cases h1:p<0
  ·by_cases h2:a8x (pl.take k)<IntKind.i64.wrap (-p)
   ·rw[if_pos ⟨h1,h2⟩]at hst;simp only[go_sem,hp,Int.zero_sub,eq_true (show (k:Int)<pl.length by omega),eq_true h1,eq_true h2,gt_iff_lt]
    repeat ((with_reducible refine And.intro ?_ ?_);· omega)
    rw[a0e (n:=(k:Int)+1) (by omega) (by omega)];exact ⟨k+1,by omega,by omega,Wk.mk (by simp[a0a,hst]) ⟨[],rfl⟩ (Nat.le_refl _)⟩
   ·rw[if_neg (fun e=>h2 e.2)]at hst;simp only[go_sem,hp,Int.zero_sub,eq_true (show (k:Int)<pl.length by omega),eq_true h1,eq_false h2,gt_iff_lt]
    repeat ((with_reducible refine And.intro ?_ ?_);· omega)
    rw[a0e (n:=(k:Int)+1) (by omega) (by omega)];exact ⟨k+1,by omega,by omega,Wk.mk (by simp[a0a,hst]) ⟨[],rfl⟩ (Nat.le_refl _)⟩
  ·rw[if_neg (fun e=>h1 e.1)]at hst;simp only[go_sem,hp,Int.zero_sub,eq_true (show (k:Int)<pl.length by omega),eq_false h1]
   repeat ((with_reducible refine And.intro ?_ ?_);· omega)
   rw[a0e (n:=(k:Int)+1) (by omega) (by omega)];exact ⟨k+1,by omega,by omega,Wk.mk (by simp[a0a,hst]) ⟨[],rfl⟩ (Nat.le_refl _)⟩
 ·simp only[go_sem,eq_false (show ¬ (k:Int)<pl.length by omega)];refine ⟨_,Frz.pure rfl,?_⟩;rw[List.take_of_length_le (by omega)]
set_option maxRecDepth 10000
open Go.V
set_option maxRecDepth 10000
open Go.V
theorem SizedP.ok {f:BF} (hf:Fine f) {L:LD} (h:SizedP f L):LOK L:=by
 have h1:=hf.b1;have h2:=hf.r1;have h3:=hf.r0;have hn:f.n=f.bks.length:=rfl;have hr:f.r≤4000:=by unfold BF.r;omega
 have a1:=h.i;have a2:=h.o;exact ⟨by omega,by omega,fun l hl=>by have:=h.ir l hl;omega,fun l hl=>by have:=h.or l hl;omega⟩
def a8y (l:List Bk):Nat:=(l.map fun b=>b.ins.length+1).sum
def b2c (l:List BF):Nat:=(l.map fun f=>a8y f.bks).sum
theorem c2h (l:List Bk) {k:Nat} (h:k<l.length):a8y (l.take (k+1))=a8y (l.take k)+((l.getD k default).ins.length+1):=by
 unfold a8y;have e:l.take (k+1)=l.take k++[l.getD k default]:=by rw[List.take_add_one];simp[List.getD,List.getElem?_eq_getElem h]
 rw[e];simp
theorem b3k (l:List BF) {k:Nat} (h:k<l.length):b2c (l.take (k+1))=b2c (l.take k)+a8y (l.getD k default).bks:=by
 unfold b2c;have e:l.take (k+1)=l.take k++[l.getD k default]:=by rw[List.take_add_one];simp[List.getD,List.getElem?_eq_getElem h]
 rw[e];simp
theorem b9q {l:List Bk} {b:Bk} (h:b ∈ l):b.ins.length+1≤a8y l:=by
 induction l with
 | nil=>cases h
 | cons a l ih =>
  simp only[a8y,List.map_cons,List.sum_cons]at ih ⊢;rcases List.mem_cons.1 h with rfl | h
  ·omega
  ·have:=ih h;omega
theorem b9r {l:List BF} {f:BF} (h:f ∈ l):a8y f.bks≤b2c l:=by
 induction l with
 | nil=>cases h
 | cons a l ih =>
  simp only[b2c,List.map_cons,List.sum_cons]at ih ⊢;rcases List.mem_cons.1 h with rfl | h
  ·omega
  ·have:=ih h;omega
theorem c3O {α:Type} [Inhabited α] {l:List α} {k:Nat} (h:k<l.length) {x:α} (hx:x ∈ l.take (k+1)):x ∈ l.take k∨x=l.getD k default:=by
 rw[List.take_add_one]at hx;rcases List.mem_append.1 hx with hx | hx
 ·exact .inl hx
 ·right;simpa [List.getD,List.getElem?_eq_getElem h] using hx
structure FewP (b:BP):Prop where
 w:b.words≤8000
 l:b.funcs.length≤20
 f:∀ f ∈ b.funcs,f.bks.length≤60∧f.regs≤30
 n:b2c b.funcs≤1000
 r:a7D b=true
structure FQ where
 k:Nat
 nx:Nat
theorem c9l (b:BP) (hl:b.funcs.length≤140737488355328) (hf:∀ f ∈ b.funcs,BfOk f):Contract Tryz.prog 5 [bpA b] (fun r=>∃ x,r=B x∧(x=true→FewP b)):=by
 refine Contract.of_call (VCall.of_body a1g b4R (by simp) ?_);by_cases h1:400<b.words
 ·simp only[go_sem,a3T,eq_true h1];exact ⟨_,Frz.pure rfl,false,rfl,nofun⟩
 by_cases h2:20<(b.funcs.length:Int)
 ·simp only[go_sem,a3T,eq_false h1,eq_true h2];exact ⟨_,Frz.pure rfl,false,rfl,nofun⟩
 simp only[go_sem,a3T,eq_false h1,eq_false h2];refine a0r (fun q:FQ=>⟨[(1,.ptr 0 0 0),(3,I (b2c (b.funcs.take q.k):Nat)),(4,I q.k)],[⟨0,24,1,[I b.words,.imm 2 (b.funcs.map bfA)]⟩],q.nx⟩)
  (fun q=>q.k≤b.funcs.length∧b2c (b.funcs.take q.k)≤400∧∀ f ∈ b.funcs.take q.k,f.bks.length≤60∧f.regs≤30) (fun q=>b.funcs.length-q.k) ⟨0,1⟩
  (Wk.mk (by simp[a0a,b2c]) ⟨[],rfl⟩ (Nat.le_refl _)) ⟨Nat.zero_le _,by simp[b2c],by simp⟩ ?_
 rintro ⟨k,nx⟩ ⟨hk,hn,hs⟩;simp only at hk hn hs;by_cases hlt:k<b.funcs.length
 ·have hst:=b3k b.funcs hlt;have hsm:=fun x hx=>c3O (l:=b.funcs) (x:=x) hlt hx;have hok:=hf _ (a0q hlt);by_cases g1:60<((b.funcs.getD k default).bks.length:Int)
  ·simp only[go_sem,eq_true (show (k:Int)<b.funcs.length by omega),eq_true g1]
   repeat ((with_reducible refine And.intro ?_ ?_);· first | omega | (simp;omega))
   exact ⟨_,Frz.pure rfl,false,rfl,nofun⟩
  by_cases g2:30<(b.funcs.getD k default).regs
  ·simp only[go_sem,eq_true (show (k:Int)<b.funcs.length by omega),eq_false g1,eq_true g2]
   repeat ((with_reducible refine And.intro ?_ ?_);· first | omega | (simp;omega))
   exact ⟨_,Frz.pure rfl,false,rfl,nofun⟩
  simp only[go_sem,eq_true (show (k:Int)<b.funcs.length by omega),eq_false g1,eq_false g2];generalize b.funcs.getD k default=g at *
  repeat ((with_reducible refine And.intro ?_ ?_);· first | omega | (simp;omega))
  refine a0r (fun i:Nat=>⟨[(1,.ptr 0 0 0),(3,I (b2c (b.funcs.take k)+a8y (g.bks.take i):Nat)),(4,I k),(5,.ptr 1 nx 0),(6,I i)],[⟨0,24,1,[I b.words,.imm 2 (b.funcs.map bfA)]⟩,⟨nx,34,1,bfL g⟩],nx+1⟩)
   (fun i=>i≤g.bks.length∧b2c (b.funcs.take k)+a8y (g.bks.take i)≤400) (fun i=>g.bks.length-i) 0
   (Wk.mk (by simp[a0a,a8y]) ⟨[],rfl⟩ (Nat.le_refl _)) ⟨Nat.zero_le _,by simp[a8y];exact hn⟩ ?_
  rintro i ⟨hi,hni⟩;by_cases hil:i<g.bks.length
  ·have hsi:=c2h g.bks hil;have hbl:=(hok.bk _ (a0q hil)).len;have w0:IntKind.i64.wrap (((b2c (b.funcs.take k)+a8y (g.bks.take i):Nat):Int)+1)=((b2c (b.funcs.take k)+a8y (g.bks.take i):Nat):Int)+1:=a0e (by omega) (by omega);have w1:IntKind.i64.wrap (((b2c (b.funcs.take k)+a8y (g.bks.take i):Nat):Int)+1+(g.bks.getD i default).ins.length)=((b2c (b.funcs.take k)+a8y (g.bks.take (i+1)):Nat):Int):=by
    rw[a0e (by omega) (by omega)];omega
   by_cases h4:400<((b2c (b.funcs.take k)+a8y (g.bks.take (i+1)):Nat):Int)
   ·simp only[go_sem,eq_true (show (i:Int)<g.bks.length by omega),w0,w1,eq_true h4]
    repeat ((with_reducible refine And.intro ?_ ?_);· first | omega | (simp;omega))
    exact ⟨_,Frz.pure rfl,false,rfl,nofun⟩
   ·simp only[go_sem,eq_true (show (i:Int)<g.bks.length by omega),w0,w1,eq_false h4]
    repeat ((with_reducible refine And.intro ?_ ?_);· first | omega | (simp;omega))
    rw[a0e (n:=(i:Int)+1) (by omega) (by omega)];exact ⟨i+1,⟨by omega,by omega⟩,by omega,Wk.mk (by simp[a0a]) ⟨[],rfl⟩ (Nat.le_refl _)⟩
  ·obtain rfl:i=g.bks.length:=by omega
   rw[List.take_of_length_le (Nat.le_refl _)]at hni;simp only[go_sem,eq_false (show ¬ (g.bks.length:Int)<g.bks.length by omega)]
   repeat ((with_reducible refine And.intro ?_ ?_);· first | omega | (simp;omega))
   rw[a0e (n:=(k:Int)+1) (by omega) (by omega),List.take_of_length_le (Nat.le_refl _),← hst];refine ⟨⟨k+1,nx+1⟩,⟨by simp only;omega,by simp only;omega,fun x hx=>?_⟩,by simp only;omega,Wk.mk (by simp[a0a]) ⟨[_],rfl⟩ (Nat.le_refl _)⟩;rcases hsm x hx with hx | rfl
   ·exact hs x hx
   ·exact ⟨by omega,by omega⟩
 ·obtain rfl:k=b.funcs.length:=by omega
  rw[List.take_of_length_le (Nat.le_refl _)]at hn hs;simp only[go_sem,eq_false (show ¬ (b.funcs.length:Int)<b.funcs.length by omega)];refine VCall.of_contract (c3n b hl (fun f h=>(hf f h).len) (fun f h k hk=>((hf f h).bk k hk).len)) (SleL.pure rfl) fun x hx=>?_;subst hx;simp only[go_sem];exact ⟨_,Frz.pure rfl,a7D b,rfl,fun h=>⟨by omega,by omega,hs,by omega,h⟩⟩
theorem FewP.fine {b:BP} (h:FewP b) {i:Nat} (hi:i<b.funcs.length):Fine (b.funcs.getD i default)∧(b.funcs.getD i default).r≤30∧b5H (b.funcs.getD i default) i b.words=true:=by
 have hr:=h.r;unfold a7D at hr;simp only[Bool.and_eq_true,List.all_eq_true,List.mem_range]at hr;have h1:=hr.2 i hi;have hm:b.funcs.getD i default ∈ b.funcs:=a0q hi;have hf:=h.f _ hm;have hn:=h.n;have ht:=b9r hm;refine ⟨b8X h1 (by omega) (fun k hk=>?_),by unfold BF.r;omega,h1⟩;have:=b9q hk;omega
set_option maxRecDepth 10000
open Go.V
abbrev b5I (ls:List (List Int)):AV:=.imm 1 (ls.map alA)
structure HoldP (b:BP) (ls:List (List Int)):Prop where
 len:ls.length=b.funcs.length
 al:∀ i<b.funcs.length,∃ L,Least (b.funcs.getD i default) L∧AllocP (b.funcs.getD i default) L (ls.getD i default) 8
theorem HoldP.wds {b:BP} {ls:List (List Int)} (h:HoldP b ls):∀ i<ls.length,0≤a8x (ls.getD i default)∧a8x (ls.getD i default)≤4000:=fun i hi=>by
 obtain ⟨L,_,hA⟩:=h.al i (by rw[← h.len];exact hi);refine ⟨(c3F _).1,c5O (by omega) fun v hv=>?_⟩;have:=hA.ok v (by rw[← hA.len];exact hv);omega
def a2J (ls:List (List Int)):Int:=(ls.map a8x).sum
theorem a7I (ls:List (List Int)) {k:Nat} (h:k<ls.length):a2J (ls.take (k+1))=a2J (ls.take k)+a8x (ls.getD k default):=by
 unfold a2J;have e:ls.take (k+1)=ls.take k++[ls.getD k default]:=by rw[List.take_add_one];simp[List.getD,List.getElem?_eq_getElem h]
 rw[e];simp
theorem b9s (ls:List (List Int)) (hl:∀ pl ∈ ls,pl.length≤140737488355328) (hls:ls.length≤20) (hw:∀ i<ls.length,0≤a8x (ls.getD i default)∧a8x (ls.getD i default)≤4000) :
 Contract Tryz.prog 8 [b5I ls] (fun r=>r=I (a2J ls)):=by
 refine Contract.of_call (VCall.of_body a1g b2H (by simp) ?_);simp only[go_sem,a7o];refine a0r (fun k:Nat=>⟨[(0,b5I ls),(3,I (a2J (ls.take k))),(4,I k)],[],0⟩)
  (fun k=>k≤ls.length∧0≤a2J (ls.take k)∧a2J (ls.take k)≤4000*k) (fun k=>ls.length-k) 0
  (Wk.mk (by simp[a0a,a2J]) ⟨[],rfl⟩ (Nat.le_refl _)) ⟨Nat.zero_le _,by simp[a2J],by simp[a2J]⟩ ?_
 rintro k ⟨hk,h0,h1⟩;by_cases hlt:k<ls.length
 ·have hst:=a7I ls hlt;have hwk:=hw k hlt;simp only[go_sem,eq_true (show (k:Int)<ls.length by omega)]
  repeat ((with_reducible refine And.intro ?_ ?_);· first | omega | (simp;omega))
  refine VCall.of_contract (c3M _ (hl _ (a0q hlt))) (SleL.pure rfl) fun x hx=>?_;subst hx;simp only[go_sem];rw[a0e (n:=(k:Int)+1) (by omega) (by omega),a0e (n:=a2J (ls.take k)+_) (by omega) (by omega),← hst];exact ⟨k+1,⟨by omega,by omega,by omega⟩,by omega,Wk.mk (by simp[a0a]) ⟨[],rfl⟩ (Nat.le_refl _)⟩
 ·obtain rfl:k=ls.length:=by omega
  simp only[go_sem,eq_false (show ¬ (ls.length:Int)<ls.length by omega)];refine ⟨_,Frz.pure rfl,?_⟩;rw[List.take_of_length_le (Nat.le_refl _)]
structure FairP (b:BP) (ls:List (List Int)):Prop where
 few:FewP b
 hold:HoldP b ls
 wds:a2J ls≤600
structure Ci where
 op:Int
 a:Int
 b:Int
 c:Int
deriving Inhabited,DecidableEq
abbrev Sy:=Ci × Option (Int × Int)
abbrev Sp:=Int × Int × Int
structure Cx where
 b:BP
 ws:List Int
 back:Int
 fn:Nat
 pl:List Int
def pY (op a b c:Int):Sy:=(⟨op,a,b,c⟩,none)
def jY (op a fn to:Int):Sy:=(⟨op,a,0,0⟩,some (fn,to))
def a1u:Nat→List Sy→List Sp
 | _,[]=>[]
 | n,(_,none)::l=>a1u (n+1) l
 | n,(_,some p)::l=>((n:Int),p.1,p.2)::a1u (n+1) l
theorem a4Z:∀ (l m:List Sy) (n:Nat),a1u n (l++m)=a1u n l++a1u (n+l.length) m
 | [],m,n=>by simp[a1u]
 | (i,none)::l,m,n=>by simp only[List.cons_append,a1u,a4Z l m,List.length_cons];rw[show n+1+l.length=n+(l.length+1) by omega]
 | (i,some p)::l,m,n=>by simp only[List.cons_append,a1u,a4Z l m,List.length_cons];rw[show n+1+l.length=n+(l.length+1) by omega]
theorem a9G:∀ (l:List Sy) (n:Nat),(a1u n l).length≤l.length
 | [],_=>by simp[a1u]
 | (i,none)::l,n=>by simp only[a1u,List.length_cons];have:=a9G l (n+1);omega
 | (i,some p)::l,n=>by simp only[a1u,List.length_cons];have:=a9G l (n+1);omega
def Cx.p (c:Cx) (v:Int):Int:=gP c.pl v.toNat
def Cx.own (c:Cx) (p:Int):Int:=gP c.ws c.fn-p-1
def a0B (c:Cx) (v spare:Int):Int:=if 0<c.p v then c.p v else spare
def a0K (c:Cx) (v spare:Int):List Sy:=if 0<c.p v then [] else [pY 16 spare 0 (c.own (c.p v))]
def a0S (c:Cx) (v:Int):Int:=if 0<c.p v then c.p v else 11
def a1z (c:Cx) (v r:Int):List Sy:=if c.p v<0 then [pY 17 r 0 (c.own (c.p v))] else []
def a2K (c:Cx) (v n:Int):List Sy :=
 if n=0∧c.p v<0 then a1z c v 0
 else pY 1 (a0S c v) 0 (n % 65536)::((if n / 65536=0 then [] else [pY 2 (a0S c v) 0 (n / 65536)])++a1z c v (a0S c v))
def b0r (c:Cx) (d a:Int):List Sy :=
 if c.p d=c.p a then []
 else if 0<c.p d then a0K c a (c.p d)++(if a0B c a (c.p d)=c.p d then [] else [pY 3 (c.p d) (a0B c a (c.p d)) 0])
 else a0K c a 9++a1z c d (a0B c a 9)
def a2e (c:Cx) (t:Tac):List Sy :=
 if t.op=1 then a2K c t.d t.n
 else if t.op=2 then b0r c t.d t.a
 else if t.op=3 then a0K c t.a 9++a0K c t.b 10++[pY t.k (a0S c t.d) (a0B c t.a 9) (a0B c t.b 10)]++a1z c t.d (a0S c t.d)
 else if t.op=4 then [pY 16 (a0S c t.d) 0 t.base]++a1z c t.d (a0S c t.d)
 else if t.op=5 then a0K c t.a 9++[pY 17 (a0B c t.a 9) 0 t.base]
 else if t.op=6 then a0K c t.a 9++[pY 25 (a0B c t.a 9) 0 t.size]++[pY 16 (a0S c t.d) (a0B c t.a 9) t.base]++a1z c t.d (a0S c t.d)
 else if t.op=7 then a0K c t.a 9++[pY 25 (a0B c t.a 9) 0 t.size]++a0K c t.b 10++[pY 17 (a0B c t.b 10) (a0B c t.a 9) t.base]
 else if t.op=8 then [pY 23 (a0S c t.d) 0 0]++a1z c t.d (a0S c t.d)
 else if t.op=9 then a0K c t.a 9++[pY 24 (a0B c t.a 9) 0 0]
 else if t.op=10 then [jY 21 12 t.base (-1)]
 else []
def b2m (c:Cx) (b:Bk) (next:Int):List Sy :=
 if b.e=1 then (if b.to=next then [] else [jY 18 0 c.fn b.to])
 else if b.e=2 then
  (if b.to=next then a0K c b.v 9++[jY 19 (a0B c b.v 9) c.fn b.el]
   else a0K c b.v 9++[jY 20 (a0B c b.v 9) c.fn b.to]++(if b.el=next then [] else [jY 18 0 c.fn b.el]))
 else if b.e=3 then
  (if (c.fn:Int)=(c.b.funcs.length:Int)-1 then [pY 26 0 0 0] else [pY 16 12 0 (c.back+c.fn),pY 22 12 0 0])
 else []
def c0t (c:Cx) (b:Bk) (next:Int):List Sy:=b.ins.flatMap (a2e c)++b2m c b next
def a1n (c:Cx):Nat→List Bk→List Sy
 | _,[]=>[]
 | j,b::l=>c0t c b (j+1:Nat)++a1n c (j+1) l
theorem b0s (c:Cx) (b:Bk):∀ (l:List Bk) (j:Nat),a1n c j (l++[b])=a1n c j l++c0t c b (j+l.length+1:Nat)
 | [],j=>by simp[a1n]
 | x::l,j=>by
  simp only[List.cons_append,a1n,b0s c b l,List.length_cons,List.append_assoc];rw[show j+1+l.length+1=j+(l.length+1)+1 by omega]
def a9H (c:Cx) (row:List Bool) (v:Nat):List Sy:=if gB row v=true then (if 0<c.p v then [pY 1 (c.p v) 0 0] else a1z c v 0) else []
def a2f (c:Cx) (row:List Bool) (n:Nat):List Sy:=(List.range n).flatMap (a9H c row)
theorem a8U (c:Cx) (row:List Bool) (n:Nat):a2f c row (n+1)=a2f c row n++a9H c row n:=by simp[a2f,List.range_succ]
def a3M (c:Cx) (row:List Bool):List Sy:=(if (c.fn:Int)=(c.b.funcs.length:Int)-1 then [] else [pY 17 12 0 (c.back+c.fn)])++a2f c row row.length
def b5u (c:Cx) (row:List Bool) (f:BF):List Sy:=a3M c row++a1n c 0 f.bks
structure CxOk (c:Cx):Prop where
 fl:c.fn<c.b.funcs.length
 fs:c.b.funcs.length≤20
 wl:c.ws.length=c.b.funcs.length
 wv:∀ i<c.ws.length,0≤gP c.ws i∧gP c.ws i≤100000
 bk:0≤c.back∧c.back≤100000
 pl:c.pl.length≤4000
 pv:∀ v<c.pl.length,(1≤gP c.pl v∧gP c.pl v≤8)∨(-4000≤gP c.pl v∧gP c.pl v≤-1)
theorem CxOk.p {c:Cx} (h:CxOk c) {v:Int} (h0:0≤v) (h1:v<c.pl.length):(1≤c.p v∧c.p v≤8)∨(-4000≤c.p v∧c.p v≤-1):=h.pv _ (by omega)
theorem CxOk.own {c:Cx} (h:CxOk c) {p:Int} (hp : -4000≤p∧p≤8) : -10≤c.own p∧c.own p≤110000:=by
 have:=h.wv c.fn (by rw[h.wl];exact h.fl);unfold Cx.own;omega
set_option maxRecDepth 10000
open Go.V
abbrev ciL (i:Ci):List AV:=[I i.op,I i.a,I i.b,I i.c]
abbrev spL (s:Sp):List AV:=[I s.1,I s.2.1,I s.2.2]
structure WI where
 kW:Nat
 sW:Nat
 kE:Nat
 sE:Nat
 kB:Nat
 sB:Nat
 kD:Nat
 sD:Nat
abbrev wrL (b:BP) (back fn:Int) (plv:AV) (q:WI) (cv pv:AV):List AV :=
 [I b.words,.imm 2 (b.funcs.map bfA),cv,pv,.ref q.kE q.sE 0 b.funcs.length,.ref q.kB q.sB 0 b.funcs.length,.ref q.kD q.sD 0 b.funcs.length,I back,I fn,plv]
def CV (H:List VObj) (ty sz:Nat) (cv:AV) (cs:List AV) (n:Nat):Prop:=∃ k s,cv = .ref k s 0 n∧H[k]? = some ⟨s,ty,sz,cs⟩
structure WH (b:BP) (ws:List Int) (back fn:Int) (plv:AV) (q:WI) (H:List VObj) (code:List Ci) (sp:List Sp) (en:List Int) (bl:List AV):Prop where
 w:∃ cv pv,H[q.kW]? = some ⟨q.sW,78,1,wrL b back fn plv q cv pv⟩∧CV H 121 4 cv (code.map ciL).flatten code.length∧CV H 119 3 pv (sp.map spL).flatten sp.length
 e:H[q.kE]? = some ⟨q.sE,3,1,en.map I⟩
 b:H[q.kB]? = some ⟨q.sB,28,1,bl⟩
 d:H[q.kD]? = some ⟨q.sD,3,1,ws.map I⟩
abbrev wT:List Nat:=[78,121,119]
theorem CV.keep {H H':List VObj} {ty sz:Nat} {cv:AV} {cs:List AV} {n:Nat} {ts:List Nat} (h:CV H ty sz cv cs n) (k:KeepT ts H H') (ht:ty ∉ ts):CV H' ty sz cv cs n:=by
 obtain ⟨i,s,h1,h2⟩:=h;exact ⟨i,s,h1,k _ _ h2 ht⟩
theorem CV.one {H:List VObj} {ty sz:Nat} {cv:AV} {cs:List AV} {n:Nat} (h:CV H ty sz cv cs n):cv.one=true:=by
 obtain ⟨_,_,h,_⟩:=h;rw[h];rfl
theorem b3l {α:Type} (f:α→List AV) (n:Nat) (hf:∀ a,(f a).length=n):∀ l:List α,(l.map f).flatten.length=l.length*n
 | []=>by simp
 | a::l=>by simp only[List.map_cons,List.flatten_cons,List.length_append,hf,b3l f n hf l,List.length_cons];rw[Nat.add_mul];omega
theorem a2r {H:List VObj} {k:Nat} {a:VObj} (h:H[k]? = some a) (R:List VObj):(H++R)[k]? = some a:=by rw[List.getElem?_append_left (List.getElem?_eq_some_iff.1 h).1];exact h
theorem c7R (H:List VObj) (x y:VObj):(H++[x]++[y])[H.length+1]? = some y:=by rw[List.getElem?_append_right (by simp)];simp
theorem b9t {H:List VObj} {kW k:Nat} {w w' x y z:VObj} (hw:H[kW]? = some w) (hk:H[k]? = some z) (hn:k≠kW) {ts:List Nat} (ht:w.ty ∈ ts) (hz:z.ty ∈ ts) :
 (((H++[x]).set k y).set kW w')[kW]? = some w'∧(((H++[x]).set k y).set kW w')[k]? = some y∧KeepT ts H (((H++[x]).set k y).set kW w'):=by
 have h1:(H++[x])[k]? = some z:=a2r hk _;have h2:((H++[x]).set k y)[kW]? = some w:=by rw[a0O hn];exact a2r hw _
 refine ⟨a0N h2,?_,((KeepT.app _ _ _).trans (KeepT.set h1 hz)).trans (KeepT.set h2 ht)⟩;rw[a0O (fun e=>hn e.symm)];exact a0N h1
theorem WH.grown {b:BP} {ws:List Int} {back fn:Int} {plv:AV} {q:WI} {H H':List VObj} {code code':List Ci} {sp sp':List Sp} {en:List Int} {bl:List AV} (h:WH b ws back fn plv q H code sp en bl) {cv pv:AV} {ts:List Nat}
 (hw:H'[q.kW]? = some ⟨q.sW,78,1,wrL b back fn plv q cv pv⟩) (hc:CV H' 121 4 cv (code'.map ciL).flatten code'.length) (hp:CV H' 119 3 pv (sp'.map spL).flatten sp'.length)
 (k:KeepT ts H H') (h1:3 ∉ ts) (h2:28 ∉ ts):WH b ws back fn plv q H' code' sp' en bl :=
 ⟨⟨_,_,hw,hc,hp⟩,k _ _ h.e h1,k _ _ h.b h2,k _ _ h.d h1⟩
theorem CV.at {H:List VObj} {ty sz k s n:Nat} {cs:List AV} (h:H[k]? = some ⟨s,ty,sz,cs⟩):CV H ty sz (.ref k s 0 n) cs n:=⟨k,s,rfl,h⟩
theorem c7S {b:BP} {ws:List Int} {back fn:Int} {plv:AV} {q:WI} {H:List VObj} {code:List Ci} {sp:List Sp} {en:List Int} {bl:List AV} (hp1:plv.one=true) (h:WH b ws back fn plv q H code sp en bl) (nx:Nat) (op a bb c:Int) (hl:code.length≤1000000)
 (C:AV→List VObj→Nat→Prop) (hC:∀ r H' nx',WH b ws back fn plv q H' (code++[⟨op,a,bb,c⟩]) sp en bl→KeepT wT H H'→C r H' nx') :
 VCall Tryz.prog 45 [.ptr q.kW q.sW 0,I op,I a,I bb,I c] H nx C:=by
 refine VCall.of_body a1g a8J (by simp) ?_;have hmx:(200000000:Nat)≤maxLen:=by decide
 obtain ⟨cv,pv,hw,hc,hp⟩:=h.w;have l1:=a1l hw;have n1:=a2p hw;have n2:=b5p hw;obtain ⟨k,s,rfl,hk⟩:=hc;have e1:=a2L hk hw (by simp);have e2:=a2L hw hk (by simp);have l2:=a1l hk;simp only[go_sem,a4f,hw,hk,hp.one,hp1,n1,n2,l1,l2,e1,e2,List.getElem?_set,List.getElem?_append,List.length_set,List.length_append,Nat.lt_irrefl,Nat.sub_self];refine ⟨by omega,by omega,?_⟩;have e:List.take (code.length*4) (code.map ciL).flatten++[I op,I a,I bb,I c]=((code++[(⟨op,a,bb,c⟩:Ci)]).map ciL).flatten:=by
  rw[List.take_of_length_le (by rw[b3l _ 4 (fun _=>rfl)];exact Nat.le_refl _),List.map_append,List.flatten_append];rfl
 rw[e];obtain ⟨g1,g2,g3⟩:=b9t (ts:=[78,121]) (x:=⟨nx,121,4,[I op,I a,I bb,I c]⟩) (y:=⟨nx+1,121,4,((code++[(⟨op,a,bb,c⟩:Ci)]).map ciL).flatten⟩) (w':=⟨q.sW,78,1,wrL b back fn plv q (.ref k (nx+1) 0 (code.length+1)) pv⟩) hw hk (by simpa using e1) (by simp) (by simp);exact hC _ _ _ (h.grown (code':=code++[⟨op,a,bb,c⟩]) g1 (by rw[List.length_append];exact CV.at g2) (hp.keep g3 (by simp)) g3 (by simp) (by simp)) (g3.mono (by simp))
theorem c7T {b:BP} {ws:List Int} {back fn:Int} {plv:AV} {q:WI} {H:List VObj} {code:List Ci} {sp:List Sp} {en:List Int} {bl:List AV} (hp1:plv.one=true) (h:WH b ws back fn plv q H code sp en bl) (nx:Nat) (op a f to:Int) (hl:code.length≤1000000) (hsl:sp.length≤1000000)
 (C:AV→List VObj→Nat→Prop) (hC:∀ r H' nx',WH b ws back fn plv q H' (code++[⟨op,a,0,0⟩]) (sp++[((code.length:Int),f,to)]) en bl→KeepT wT H H'→C r H' nx') :
 VCall Tryz.prog 68 [.ptr q.kW q.sW 0,I op,I a,I f,I to] H nx C:=by
 refine VCall.of_body a1g a8b (by simp) ?_;have hmx:(200000000:Nat)≤maxLen:=by decide
 obtain ⟨cv,pv,hw,hc,hp⟩:=h.w;have l1:=a1l hw;have n1:=a2p hw;have n2:=b5p hw;have main:∀ H' nx' (C':AV→List VObj→Nat→Prop),WH b ws back fn plv q H' code (sp++[((code.length:Int),f,to)]) en bl→KeepT wT H H' →
  (∀ r H2 nx2,WH b ws back fn plv q H2 (code++[⟨op,a,0,0⟩]) (sp++[((code.length:Int),f,to)]) en bl→KeepT wT H H2→C' r H2 nx2) →
  VCall Tryz.prog 45 [.ptr q.kW q.sW 0,I op,I a,I 0,I 0] H' nx' C':=fun H' nx' C' h' k' hh =>
  c7S hp1 h' nx' op a 0 0 hl C' fun r H2 nx2 h2 k2=>hh r H2 nx2 h2 (k'.trans k2)
 obtain ⟨k,s,rfl,hk⟩:=hp;have e1:=a2L hk hw (by simp);have e2:=a2L hw hk (by simp);have l2:=a1l hk;have e:List.take (sp.length*3) (sp.map spL).flatten++[I (code.length:Int),I f,I to]=((sp++[((code.length:Int),f,to)]).map spL).flatten:=by
  rw[List.take_of_length_le (by rw[b3l _ 3 (fun _=>rfl)];exact Nat.le_refl _),List.map_append,List.flatten_append];rfl
 have old:∀ cv',H[q.kW]? = some ⟨q.sW,78,1,wrL b back fn plv q cv' (.ref k s 0 sp.length)⟩→CV H 121 4 cv' (code.map ciL).flatten code.length→∀ (x y:VObj) s',y=⟨s',119,3,((sp++[((code.length:Int),f,to)]).map spL).flatten⟩ →
  WH b ws back fn plv q (((H++[x]).set k y).set q.kW ⟨q.sW,78,1,wrL b back fn plv q cv' (.ref k s' 0 (sp.length+1))⟩) code (sp++[((code.length:Int),f,to)]) en bl∧KeepT wT H (((H++[x]).set k y).set q.kW ⟨q.sW,78,1,wrL b back fn plv q cv' (.ref k s' 0 (sp.length+1))⟩):=fun cv' hw' hc' x y s' hy=>by
  subst hy;obtain ⟨g1,g2,g3⟩:=b9t (ts:=[78,119]) (x:=x) (y:=⟨s',119,3,((sp++[((code.length:Int),f,to)]).map spL).flatten⟩) (w':=⟨q.sW,78,1,wrL b back fn plv q cv' (.ref k s' 0 (sp.length+1))⟩) hw' hk (by simpa using e1) (by simp) (by simp);exact ⟨h.grown (sp':=sp++[((code.length:Int),f,to)]) g1 (hc'.keep g3 (by simp)) (by rw[List.length_append];exact CV.at g2) g3 (by simp) (by simp),g3.mono (by simp)⟩
 obtain ⟨k2,s2,rfl,hk2⟩:=hc;simp only[go_sem,c_choose_writer_jump,hw,hk,hk2,hp1,n1,n2,l1,l2,e1,e2,List.getElem?_set,List.getElem?_append,List.length_set,List.length_append,Nat.lt_irrefl,Nat.sub_self];refine ⟨by omega,by omega,?_⟩;obtain ⟨g1,g2⟩:=old _ hw (CV.at hk2) ⟨nx,119,3,[I (code.length:Int),I f,I to]⟩ ⟨nx+1,119,3,List.take (sp.length*3) (sp.map spL).flatten++[I (code.length:Int),I f,I to]⟩ (nx+1) (by rw[← e]);refine main _ _ _ g1 g2 fun r H2 nx2 h2 k2=>?_;simp only[go_sem];exact hC _ _ _ h2 k2
set_option maxRecDepth 10000
open Go.V
abbrev WC (c:Cx) (q:WI) (H:List VObj) (l:List Sy) (en:List Int) (bl:List AV):Prop:=WH c.b c.ws c.back c.fn (a2t c.pl) q H (l.map (·.1)) (a1u 0 l) en bl
section
variable {c:Cx} {q:WI} {H:List VObj} {l:List Sy} {en:List Int} {bl:List AV}
theorem a2g (h:WC c q H l en bl) (hl:l.length≤1000000) (nx:Nat) (op a b d:Int) (C:AV→List VObj→Nat→Prop)
 (hC:∀ r H' nx',WC c q H' (l++[pY op a b d]) en bl→KeepT wT H H'→C r H' nx'):VCall Tryz.prog 45 [.ptr q.kW q.sW 0,I op,I a,I b,I d] H nx C :=
 c7S rfl h nx op a b d (by simpa using hl) C fun r H' nx' h1 h2=>hC r H' nx' (by
  unfold WC;rw[a4Z,List.map_append];simpa [pY,a1u] using h1) h2
theorem b3m (h:WC c q H l en bl) (hl:l.length≤1000000) (nx:Nat) (op a fn to:Int) (C:AV→List VObj→Nat→Prop)
 (hC:∀ r H' nx',WC c q H' (l++[jY op a fn to]) en bl→KeepT wT H H'→C r H' nx'):VCall Tryz.prog 68 [.ptr q.kW q.sW 0,I op,I a,I fn,I to] H nx C :=
 c7T rfl h nx op a fn to (by simpa using hl) (by have:=a9G l 0;omega) C fun r H' nx' h1 h2=>hC r H' nx' (by
  unfold WC;rw[a4Z,List.map_append];simpa [jY,a1u] using h1) h2
theorem b7l (c:Cx) (v:Nat):c.p (v:Int)=gP c.pl v:=by simp[Cx.p]
theorem c7U (h:WC c q H l en bl) (hk:CxOk c) (nx:Nat) {p:Int} (hp : -4000≤p∧p≤8) (C:AV→List VObj→Nat→Prop) (hC:∀ nx',C (I (c.own p)) H nx') :
 VCall Tryz.prog 63 [.ptr q.kW q.sW 0,I p] H nx C:=by
 refine VCall.of_body a1g a8M (by simp) ?_;obtain ⟨cv,pv,hw,hc,hp'⟩:=h.w;have hd:=h.d;have hwv:=hk.wv c.fn (by rw[hk.wl];exact hk.fl);have hfl:=hk.fl;have hwl:=hk.wl;have h20:=hk.fs;have e:c.own p=gP c.ws c.fn-p-1:=rfl;have w1:IntKind.i64.wrap (gP c.ws c.fn-p)=gP c.ws c.fn-p:=a0e (by omega) (by omega);have w2:IntKind.i64.wrap (gP c.ws c.fn-p-1)=c.own p:=by rw[a0e (by omega) (by omega),e]
 have g:c.ws.getD c.fn default=gP c.ws c.fn:=rfl;simp only[go_sem,a4i,hw,hd,hc.one,hp'.one,g,w1,w2]
 repeat ((with_reducible refine And.intro ?_ ?_);· first | omega | (simp;omega))
 exact hC _
theorem a4t (h:WC c q H l en bl) (hk:CxOk c) (hl:l.length≤900000) (nx:Nat) {v:Int} (spare:Int) (hv:0≤v∧v<c.pl.length) (C:AV→List VObj→Nat→Prop)
 (hC:∀ H' nx',WC c q H' (l++a0K c v spare) en bl→KeepT wT H H'→C (I (a0B c v spare)) H' nx'):VCall Tryz.prog 64 [.ptr q.kW q.sW 0,I v,I spare] H nx C:=by
 refine VCall.of_body a1g a7x (by simp) ?_;obtain ⟨n,rfl⟩:=Int.eq_ofNat_of_zero_le hv.1;obtain ⟨cv,pv,hw,hc,hp⟩:=h.w;have h40:=hk.pl;have hpp:=hk.pv n (by omega);have g:c.pl.getD n default=gP c.pl n:=rfl;unfold a0K a0B at hC;rw[b7l]at hC;by_cases h1:0<gP c.pl n
 ·rw[if_pos h1,if_pos h1,List.append_nil]at hC;simp only[go_sem,a1Y,hw,hc.one,hp.one,g,eq_true h1]
  repeat ((with_reducible refine And.intro ?_ ?_);· first | omega | (simp;omega))
  exact hC _ _ h (KeepT.refl _ _)
 ·rw[if_neg h1,if_neg h1]at hC;simp only[go_sem,a1Y,hw,hc.one,hp.one,g,eq_false h1]
  repeat ((with_reducible refine And.intro ?_ ?_);· first | omega | (simp;omega))
  refine c7U h hk _ (by omega) _ fun nx'=>?_;simp only[go_sem];refine a2g h (by omega) _ _ _ _ _ _ fun r H' nx' h2 k2=>?_;simp only[go_sem];exact hC _ _ h2 k2
theorem b3n (h:WC c q H l en bl) (hk:CxOk c) (nx:Nat) {v:Int} (hv:0≤v∧v<c.pl.length) (C:AV→List VObj→Nat→Prop)
 (hC:∀ nx',C (I (a0S c v)) H nx'):VCall Tryz.prog 67 [.ptr q.kW q.sW 0,I v] H nx C:=by
 refine VCall.of_body a1g a8a (by simp) ?_;obtain ⟨n,rfl⟩:=Int.eq_ofNat_of_zero_le hv.1;obtain ⟨cv,pv,hw,hc,hp⟩:=h.w;have h40:=hk.pl;have g:c.pl.getD n default=gP c.pl n:=rfl;unfold a0S at hC;rw[b7l]at hC;by_cases h1:0<gP c.pl n
 ·rw[if_pos h1]at hC;simp only[go_sem,a2i,hw,hc.one,hp.one,g,eq_true h1]
  repeat ((with_reducible refine And.intro ?_ ?_);· first | omega | (simp;omega))
  exact hC _
 ·rw[if_neg h1]at hC;simp only[go_sem,a2i,hw,hc.one,hp.one,g,eq_false h1]
  repeat ((with_reducible refine And.intro ?_ ?_);· first | omega | (simp;omega))
  exact hC _
theorem b1L (h:WC c q H l en bl) (hk:CxOk c) (hl:l.length≤900000) (nx:Nat) {v:Int} (r:Int) (hv:0≤v∧v<c.pl.length) (C:AV→List VObj→Nat→Prop)
 (hC:∀ x H' nx',WC c q H' (l++a1z c v r) en bl→KeepT wT H H'→C x H' nx'):VCall Tryz.prog 46 [.ptr q.kW q.sW 0,I v,I r] H nx C:=by
 refine VCall.of_body a1g a7Z (by simp) ?_;obtain ⟨n,rfl⟩:=Int.eq_ofNat_of_zero_le hv.1;obtain ⟨cv,pv,hw,hc,hp⟩:=h.w;have h40:=hk.pl;have hpp:=hk.pv n (by omega);have g:c.pl.getD n default=gP c.pl n:=rfl;unfold a1z at hC;rw[b7l]at hC;by_cases h1:gP c.pl n<0
 ·rw[if_pos h1]at hC;simp only[go_sem,a2h,hw,hc.one,hp.one,g,eq_true h1]
  repeat ((with_reducible refine And.intro ?_ ?_);· first | omega | (simp;omega))
  refine c7U h hk _ (by omega) _ fun nx'=>?_;simp only[go_sem];refine a2g h (by omega) _ _ _ _ _ _ fun r H' nx' h2 k2=>?_;simp only[go_sem];exact hC _ _ _ h2 k2
 ·rw[if_neg h1,List.append_nil]at hC;simp only[go_sem,a2h,hw,hc.one,hp.one,g,eq_false h1]
  repeat ((with_reducible refine And.intro ?_ ?_);· first | omega | (simp;omega))
  exact hC _ _ _ h (KeepT.refl _ _)
end
set_option maxRecDepth 10000
open Go.V
section
variable {c:Cx} {q:WI} {H:List VObj} {l:List Sy} {en:List Int} {bl:List AV}
theorem a4b (c:Cx) (v s:Int):(a0K c v s).length≤1:=by unfold a0K;split<;>simp
theorem b7m (c:Cx) (v r:Int):(a1z c v r).length≤1:=by unfold a1z;split<;>simp
theorem c0u (h:WC c q H l en bl) (hk:CxOk c) (hl:l.length≤800000) (nx:Nat) {v n:Int} (hv:0≤v∧v<c.pl.length) (hn:a1b n) (C:AV→List VObj→Nat→Prop)
 (hC:∀ x H' nx',WC c q H' (l++a2K c v n) en bl→KeepT wT H H'→C x H' nx'):VCall Tryz.prog 65 [.ptr q.kW q.sW 0,I v,U32 n] H nx C:=by
 refine VCall.of_body a1g a5m (by simp) ?_;obtain ⟨h0,h1⟩:=hn;obtain ⟨k,rfl⟩:=Int.eq_ofNat_of_zero_le hv.1;obtain ⟨cv,pv,hw,hc,hp⟩:=h.w;have h40:=hk.pl;have hpp:=hk.pv k (by omega);have g:c.pl.getD k default=gP c.pl k:=rfl;have m65:IntKind.u32.wrap (((BitVec.ofInt 32 n &&& BitVec.ofInt 32 65535).toNat:Nat):Int)=n % 65536:=a9x ⟨h0,h1⟩ 16 (by omega);have e16:n.fdiv (2 ^ min 16 32)=n / 65536:=Int.fdiv_eq_ediv_of_nonneg n (show (0:Int)≤65536 by omega);have e1:IntKind.i64.wrap (n % 65536)=n % 65536:=a0e (by omega) (by omega);have e2:IntKind.i64.wrap (n / 65536)=n / 65536:=a0e (by omega) (by omega);have m65c:IntKind.i64.wrap (IntKind.u32.wrap (((BitVec.ofInt 32 n &&& BitVec.ofInt 32 65535).toNat:Nat):Int))=n % 65536:=by rw[m65,e1]
 have rest:∀ (H':List VObj) (nx':Nat) (l':List Sy) (C':AV→List VObj→Nat→Prop),WC c q H' l' en bl→l'.length≤900000→KeepT wT H H'→l'++a1z c k (a0S c k)=l++a2K c k n →
  (∀ x H2 nx2,WC c q H2 (l++a2K c k n) en bl→KeepT wT H H2→C' x H2 nx2)→VCall Tryz.prog 46 [.ptr q.kW q.sW 0,I (k:Int),I (a0S c k)] H' nx' C':=fun H' nx' l' C' h' hl' kp e hh =>
  b1L h' hk hl' nx' _ hv C' fun x H2 nx2 h2 k2=>hh x H2 nx2 (by rw[← e];exact h2) (kp.trans k2)
 have key:¬ (n=0∧gP c.pl k<0)→a2K c k n=pY 1 (a0S c k) 0 (n % 65536)::((if n / 65536=0 then [] else [pY 2 (a0S c k) 0 (n / 65536)])++a1z c k (a0S c k)):=fun hh=>by
  unfold a2K;rw[b7l,if_neg hh]
 have main:¬ (n=0∧gP c.pl k<0)→∀ nx',VCall Tryz.prog 45 [.ptr q.kW q.sW 0,I 1,I (a0S c k),I 0,I (n % 65536)] H nx' fun _ H' nx' =>
  WC c q H' (l++[pY 1 (a0S c k) 0 (n % 65536)]) en bl∧KeepT wT H H':=fun _ nx'=>a2g h (by omega) nx' _ _ _ _ _ fun r H' nx'' h2 k2=>⟨h2,k2⟩
 by_cases z:n=0
 ·by_cases p0:gP c.pl k<0
  ·simp only[go_sem,a1d,hw,hc.one,hp.one,g,eq_true z,eq_true p0]
   repeat ((with_reducible refine And.intro ?_ ?_);· first | omega | (simp;omega))
   refine b1L h hk (by omega) _ 0 hv _ fun x H' nx' h2 k2=>?_;simp only[go_sem];exact hC _ _ _ (by unfold a2K;rw[b7l,if_pos ⟨z,p0⟩];exact h2) k2
  ·have hkey:=key fun e=>p0 e.2;have z16:n / 65536=0:=by omega
   rw[if_pos z16]at hkey;simp only[go_sem,a1d,hw,hc.one,hp.one,g,eq_true z,eq_false p0,m65,e16,e1,e2]
   repeat ((with_reducible refine And.intro ?_ ?_);· first | omega | (simp;omega))
   refine b3n h hk _ hv _ fun nx'=>?_;simp only[go_sem,m65,e16,e1,e2,z16,bne_self_eq_false];refine a2g h (by omega) _ _ _ _ _ _ fun r H' nx' h2 k2=>?_;simp only[go_sem,m65,e16,e1,e2,z16,bne_self_eq_false];have e3:∀ x,x=n % 65536→l++[pY 1 (a0S c k) 0 x]++a1z c k (a0S c k)=l++a2K c k n:=by rintro _ rfl;rw[hkey];simp
   refine rest _ _ _ _ h2 (by simp;omega) k2 (e3 _ m65c) fun x H4 nx4 h4 k4=>?_;simp only[go_sem];exact hC _ _ _ h4 k4
 ·have hkey:=key fun e=>z e.1;by_cases z16:n / 65536=0
  ·rw[if_pos z16]at hkey;simp only[go_sem,a1d,hw,hc.one,hp.one,g,eq_false z,beq_false_of_ne z,m65,e16,e1,e2]
   repeat ((with_reducible refine And.intro ?_ ?_);· first | omega | (simp;omega))
   refine b3n h hk _ hv _ fun nx'=>?_;simp only[go_sem,m65,e16,e1,e2,z16,bne_self_eq_false];refine a2g h (by omega) _ _ _ _ _ _ fun r H' nx' h2 k2=>?_;simp only[go_sem,m65,e16,e1,e2,z16,bne_self_eq_false];have e3:∀ x,x=n % 65536→l++[pY 1 (a0S c k) 0 x]++a1z c k (a0S c k)=l++a2K c k n:=by rintro _ rfl;rw[hkey];simp
   refine rest _ _ _ _ h2 (by simp;omega) k2 (e3 _ m65c) fun x H4 nx4 h4 k4=>?_;simp only[go_sem];exact hC _ _ _ h4 k4
  ·rw[if_neg z16]at hkey;simp only[go_sem,a1d,hw,hc.one,hp.one,g,eq_false z,beq_false_of_ne z,m65,e16,e1,e2]
   repeat ((with_reducible refine And.intro ?_ ?_);· first | omega | (simp;omega))
   refine b3n h hk _ hv _ fun nx'=>?_;simp only[go_sem,m65,e16,e1,e2,eq_false z16,beq_false_of_ne z16];refine a2g h (by omega) _ _ _ _ _ _ fun r H' nx' h2 k2=>?_;simp only[go_sem,m65,e16,e1,e2,eq_false z16,beq_false_of_ne z16];refine a2g h2 (by simp;omega) _ _ _ _ _ _ fun r H2 nx2 h3 k3=>?_;simp only[go_sem,m65,e16,e1,e2,eq_false z16,beq_false_of_ne z16];have e3:∀ x y,x=n % 65536→y=n / 65536→l++[pY 1 (a0S c k) 0 x]++[pY 2 (a0S c k) 0 y]++a1z c k (a0S c k)=l++a2K c k n:=by rintro _ _ rfl rfl;rw[hkey];simp
   refine rest _ _ _ _ h3 (by simp;omega) (k2.trans k3) (e3 _ _ m65c rfl) fun x H4 nx4 h4 k4=>?_;simp only[go_sem];exact hC _ _ _ h4 k4
theorem c3P (h:WC c q H l en bl) (hk:CxOk c) (hl:l.length≤800000) (nx:Nat) {d a:Int} (hd:0≤d∧d<c.pl.length) (ha:0≤a∧a<c.pl.length) (C:AV→List VObj→Nat→Prop)
 (hC:∀ x H' nx',WC c q H' (l++b0r c d a) en bl→KeepT wT H H'→C x H' nx'):VCall Tryz.prog 66 [.ptr q.kW q.sW 0,I d,I a] H nx C:=by
 refine VCall.of_body a1g a6a (by simp) ?_;obtain ⟨m,rfl⟩:=Int.eq_ofNat_of_zero_le hd.1;obtain ⟨k,rfl⟩:=Int.eq_ofNat_of_zero_le ha.1;obtain ⟨cv,pv,hw,hc,hp⟩:=h.w;have h40:=hk.pl;have g:∀ k,c.pl.getD k default=gP c.pl k:=fun _=>rfl;have hfl:=a4b c k;unfold b0r at hC;rw[b7l,b7l]at hC;by_cases e:gP c.pl m=gP c.pl k
 ·rw[if_pos e,List.append_nil]at hC;simp only[go_sem,a1t,hw,hc.one,hp.one,g,eq_true e]
  repeat ((with_reducible refine And.intro ?_ ?_);· first | omega | (simp;omega))
  exact hC _ _ _ h (KeepT.refl _ _)
 rw[if_neg e]at hC;by_cases p0:0<gP c.pl m
 ·rw[if_pos p0]at hC;have hfl:=hfl (gP c.pl m);simp only[go_sem,a1t,hw,hc.one,hp.one,g,eq_false e,beq_false_of_ne e,eq_true p0]
  repeat ((with_reducible refine And.intro ?_ ?_);· first | omega | (simp;omega))
  refine a4t h hk (by omega) _ _ ha _ fun H' nx' h2 k2=>?_;by_cases e2:a0B c k (gP c.pl m)=gP c.pl m
  ·rw[if_pos e2,List.append_nil]at hC;simp only[go_sem,e2,bne_self_eq_false];exact hC _ _ _ h2 k2
  ·rw[if_neg e2,← List.append_assoc]at hC;simp only[go_sem,eq_false e2,beq_false_of_ne e2];refine a2g h2 (by simp;omega) _ _ _ _ _ _ fun r H3 nx3 h3 k3=>?_;simp only[go_sem];exact hC _ _ _ h3 (k2.trans k3)
 ·rw[if_neg p0,← List.append_assoc]at hC;have hfl:=hfl 9;simp only[go_sem,a1t,hw,hc.one,hp.one,g,eq_false e,beq_false_of_ne e,eq_false p0]
  repeat ((with_reducible refine And.intro ?_ ?_);· first | omega | (simp;omega))
  refine a4t h hk (by omega) _ _ ha _ fun H' nx' h2 k2=>?_;simp only[go_sem];refine b1L h2 hk (by simp;omega) _ _ hd _ fun r H3 nx3 h3 k3=>?_;simp only[go_sem];exact hC _ _ _ h3 (k2.trans k3)
end
end Go.Proofs.YtkbhfokbhkmfgaaGreat
