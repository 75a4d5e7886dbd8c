/- Each register in a word of its own: the document's allocations: contract; that they hold. No condition. A long program of blocks, plainly: it is right, small enough, and runs well. No condition. -/
import Derived.Test.YtkbhfokbhkmfgaaQa3
import Derived.Test.YtkbhfokbhkmfgaaQyCode
import Derived.Test.YtkbhfokbhkmfgaaUH
set_option linter.unusedVariables false
set_option linter.unusedSimpArgs false
namespace Go.Proofs.Ytkbhfokbhkmfgaa
set_option linter.unusedSimpArgs false
set_option linter.unusedVariables false
set_option maxRecDepth 10000
open Go.V
def plO (r:Nat):List Int:=(List.range r).map fun v=>-1-((v:Nat):Int)
def plainL (b:BP):List (List Int):=b.funcs.map fun f=>plO f.r
theorem plO_succ (v:Nat):plO (v+1)=plO v++[-1-((v:Nat):Int)]:=by simp[plO,List.range_succ]
theorem plO_len (r:Nat):(plO r).length=r:=by simp[plO]
theorem plO_get {r v:Nat} (h:v<r):gP (plO r) v = -1-((v:Nat):Int):=by simp[gP,plO,List.getD,h]
theorem plain_take (b:BP) {k:Nat} (hk:k<b.funcs.length):(plainL b).take (k+1)=(plainL b).take k++[plO (b.funcs.getD k default).r]:=by
 rw[List.take_add_one]
 congr 1
 unfold plainL
 rw[List.getElem?_map,List.getElem?_eq_getElem hk]
 simp[List.getD,List.getElem?_eq_getElem hk]
theorem flat_one {α:Type} (f:α→AV):∀ l:List α,(l.map fun a=>[f a]).flatten=l.map f
 | []=>rfl
 | a::l=>by simp[flat_one f l]
theorem cw_pre {n:Nat} {H:List VObj} {nx:Nat} {A xs ys:List AV} (h:CW n H nx xs ys):CW n H nx (A++xs) (A++ys):=by
 refine ⟨by simp[h.1],fun i x y h1 h2=>?_⟩
 rcases Nat.lt_or_ge i A.length with hi | hi
 ·rw[List.getElem?_append_left hi]at h1 h2
  rw[h1]at h2;exact .inl (Option.some.inj h2)
 ·rw[List.getElem?_append_right hi]at h1 h2
  exact h.2 _ x y h1 h2
structure PQ29 where
 k:Nat
 s:Nat
 nx:Nat
set_option maxHeartbeats 1000000 in
theorem plainA_c (b:BP) (hl:b.funcs.length≤20) (hf:∀ f ∈ b.funcs,0≤f.regs∧f.regs≤4000):Contract Try.prog 17 [bpA b] (fun r=>r=alsA (plainL b)):=by
 refine Contract.of_call (VCall.of_body hmix f_scref29_Plain (by simp) ?_)
 have hmx:(2000000:Nat)≤maxLen:=by decide
 simp only[go_sem,c_scref29_Plain]
 refine VW_loop (fun q:PQ29=>⟨[(1,.ptr 0 0 0),(3,.ref 1 q.s 0 q.k),(4,I q.k)],[⟨0,24,1,[I b.words,.imm 2 (b.funcs.map bfA)]⟩,⟨q.s,55,1,((plainL b).take q.k).map ints⟩],q.nx⟩) (fun q=>q.k≤b.funcs.length) (fun q=>b.funcs.length-q.k) ⟨0,1,2⟩
  (Wk.virt 55 1 (by decide) (by simp[get_cons]) ⟨_,rfl,by simp,fun j ob' ho=>⟨ob',ho,rfl,rfl,rfl,rfl,fun _=>rfl,fun i x y hx hy=>.inl (by rw[hx]at hy;exact Option.some.inj hy)⟩⟩ rfl) (Nat.zero_le _) ?_
 rintro ⟨k,s,nx⟩ hk
 simp only at hk
 by_cases hlt:k<b.funcs.length
 ·have hr:=hf _ (mem_getD hlt)
  have htk:=plain_take b hlt
  have hlk:((plainL b).take k).length=k:=by rw[List.length_take];unfold plainL;rw[List.length_map];omega
  obtain ⟨r,hre⟩:∃ r:Nat,(b.funcs.getD k default).regs=(r:Int):=⟨(b.funcs.getD k default).regs.toNat,by omega⟩
  have hrr:(b.funcs.getD k default).r=r:=by unfold BF.r;omega
  rw[hrr]at htk
  simp only[go_sem,eq_true (show (k:Int)<b.funcs.length by omega)]
  refine VW_loop (fun q:PQ29=>⟨[(1,.ptr 0 0 0),(3,.ref 1 s 0 k),(4,I k),(5,.ptr 2 nx 0),(6,I q.k)],[⟨0,24,1,[I b.words,.imm 2 (b.funcs.map bfA)]⟩,⟨s,55,1,((plainL b).take k).map ints⟩,⟨nx,55,1,[.ref 3 q.s 0 q.k]⟩,⟨q.s,3,1,(plO q.k).map I⟩],q.nx⟩) (fun q=>q.k≤r) (fun q=>r-q.k) ⟨0,nx+1,nx+1+1⟩ ?_ (Nat.zero_le _) ?_
  ·have w:=virt_at (env:=[(1,.ptr 0 0 0),(3,.ref 1 s 0 k),(4,I k),(5,.ptr 2 nx 0),(6,I ((0:Nat):Int))]) (H:=[⟨0,24,1,[I b.words,.imm 2 (b.funcs.map bfA)]⟩,⟨s,55,1,((plainL b).take k).map ints⟩,⟨nx,55,1,[nilv]⟩]) (nx:=nx+1) (i:=2) (ob:=⟨nx,55,1,[nilv]⟩) (cs':=[.ref 3 (nx+1) 0 0]) 3 1 (by decide) (by simp[get_cons]) rfl (by simp) rfl (fun j a c ha hc=>by
    match j with
    | 0=>simp at ha hc;subst ha;subst hc;exact .inr ⟨rfl,by simp⟩
    | j+1=>simp at ha)
   refine Wk.trans ?_ w
   exact Wk.mk (by simp[get_cons]) ⟨[],by simp⟩ (Nat.le_refl _)
  rintro ⟨v,s3,nx3⟩ hv
  simp only at hv
  by_cases hvr:v<r
  ·have w1:IntKind.i64.wrap (-1-(v:Int)) = -1-(v:Int):=i64_in (by omega) (by omega)
   have w2:IntKind.i64.wrap ((v:Int)+1)=((v+1:Nat):Int):=by rw[i64_in (by omega) (by omega)];omega
   have e:List.take v ((plO v).map I)++[AV.val (.int .i64 (-1-(v:Int)))]=(plO (v+1)).map I:=by
    rw[List.take_of_length_le (by rw[List.length_map,plO_len];exact Nat.le_refl _),plO_succ,List.map_append];rfl
   simp only[go_sem,hre,eq_true (show (v:Int)<r by omega),w1,w2,e]
   repeat ((with_reducible refine And.intro ?_ ?_);· first | omega | (simp;omega))
   exact ⟨⟨v+1,_,_⟩,by simp only;omega,by simp only;omega,Wk.mk (by simp[get_cons]) ⟨[_],rfl⟩ (Nat.le_refl _)⟩
  obtain rfl:v=r:=by omega
  have w3:IntKind.i64.wrap ((k:Int)+1)=((k+1:Nat):Int):=by rw[i64_in (by omega) (by omega)];omega
  have hcw:∀ {m:Nat} {H:List VObj} {x:Nat},m≤3→H[3]? = some ⟨s3,3,1,(plO v).map I⟩→CW m H x (List.take k (((plainL b).take k).map ints)++[AV.ref 3 s3 0 v]) (((plainL b).take (k+1)).map ints):=fun h1 h2=>by
   rw[htk,List.map_append,List.take_of_length_le (by rw[List.length_map,hlk];exact Nat.le_refl _)]
   exact cw_pre (CW.append ⟨_,_,rfl,frz_ints h1 h2 (by rw[plO_len]),rfl⟩)
  simp only[go_sem,hre,eq_false (show ¬ (v:Int)<v by omega),w3]
  repeat ((with_reducible refine And.intro ?_ ?_);· first | omega | (simp;omega))
  exact ⟨⟨k+1,_,_⟩,by simp only;omega,by simp only;omega,Wk.give (by simp[get_cons]) ⟨rfl,rfl,rfl,fun _=>rfl,CW.refl _,rfl,rfl,rfl,(fun h=>absurd h (Nat.succ_ne_zero 0)),hcw (show 2≤3 by omega) rfl,trivial⟩ (Nat.le_refl _)⟩
 ·obtain rfl:k=b.funcs.length:=by omega
  have hlk:(plainL b).take b.funcs.length=plainL b:=List.take_of_length_le (by unfold plainL;rw[List.length_map];exact Nat.le_refl _)
  simp only[go_sem,eq_false (show ¬ (b.funcs.length:Int)<b.funcs.length by omega),hlk]
  refine ⟨_,Frz.refT (n:=0) (z:=1) (yss:=(plainL b).map fun pl=>[ints pl]) (zss:=(plainL b).map fun pl=>[ints pl]) (Nat.zero_le _) rfl rfl rfl (flat_one ints _).symm (fun l hl=>?_) (by simp[plainL]) (FrzLL.pure fun l hl=>?_),?_⟩
  ·obtain ⟨x,_,rfl⟩:=List.mem_map.1 hl;rfl
  ·obtain ⟨x,_,rfl⟩:=List.mem_map.1 hl;rfl
  ·rw[List.map_map];rfl
theorem plain_alloc {f:BF} {L:LD} (hL:ClosedP f L) (hr:f.r≤4000):AllocP f L (plO f.r) 8:=by
 refine ⟨hL,plO_len _,fun v hv=>.inr (by rw[plO_get hv];omega),fun u hu v hv hne _ _=>by rw[plO_get hu,plO_get hv];omega,fun b hb i hi hs v hv _ hne=>?_,fun b hb i hi _ v hv _=>by rw[plO_get hv];omega⟩
 rw[plO_get hv]
 by_cases hd:((f.bk b).ins.getD i default).d.toNat<f.r
 ·rw[plO_get hd];omega
 ·unfold gP
  rw[List.getD,List.getElem?_eq_none (by rw[plO_len];omega)]
  show -1-((v:Nat):Int)≠(0:Int)
  omega
theorem plain_hold {b:BP} (h:FewP b):HoldP b (plainL b):=by
 refine ⟨by simp[plainL],fun i hi=>?_⟩
 obtain ⟨hf,hr,_⟩:=h.fine hi
 obtain ⟨L,hL⟩:=least_exists hf
 have e:(plainL b).getD i default=plO (b.funcs.getD i default).r:=by
  unfold plainL
  rw[List.getD,List.getElem?_map,List.getElem?_eq_getElem hi]
  simp[List.getD,List.getElem?_eq_getElem hi]
 refine ⟨L,hL,?_⟩
 rw[e]
 exact plain_alloc hL.cl (by omega)
set_option maxRecDepth 10000
open Go.V
def lnT (W n:Int) (i:Nat):Tac :=
 if i % 4=0 then ⟨1,((i % 3:Nat):Int),0,0,0,0,0,n⟩ else if i % 4=1 then ⟨5,0,0,0,0,W-1,0,0⟩ else if i % 4=2 then ⟨3,2,0,1,11,0,0,0⟩ else ⟨9,0,2,0,0,0,0,0⟩
def lnI (W n:Int) (q:Nat):List Tac:=(List.range q).map (lnT W n)
theorem lnI_len (W n:Int) (q:Nat):(lnI W n q).length=q:=by simp[lnI]
theorem lnI_succ (W n:Int) (q:Nat):lnI W n (q+1)=lnI W n q++[lnT W n q]:=by simp[lnI,List.range_succ]
def lnF (W n:Int) (q:Nat):BF:=⟨3,[⟨lnI W n q,1,0,1,0⟩,⟨[],3,0,0,0⟩]⟩
def lnP (W n:Int) (q:Nat):BP:=⟨W,[lnF W n q]⟩
theorem lnT_cases (W n:Int) (i:Nat):(∃ d:Int,0≤d∧d<3∧lnT W n i=⟨1,d,0,0,0,0,0,n⟩)∨lnT W n i=⟨5,0,0,0,0,W-1,0,0⟩∨lnT W n i=⟨3,2,0,1,11,0,0,0⟩∨lnT W n i=⟨9,0,2,0,0,0,0,0⟩:=by
 unfold lnT
 split
 ·exact .inl ⟨_,by omega,by omega,rfl⟩
 ·split
  ·exact .inr (.inl rfl)
  ·split
   ·exact .inr (.inr (.inl rfl))
   ·exact .inr (.inr (.inr rfl))
theorem lnT_fits {W n:Int} (hW:1≤W∧W≤8000) (i:Nat) (number:Int):FitsT (lnT W n i) number 3 W:=by
 rcases lnT_cases W n i with ⟨d,d0,d1,e⟩ | e | e | e
 ·rw[e];simp[FitsT,SetsT,usesL,restT];omega
 ·rw[e];simp[FitsT,SetsT,usesL,restT];omega
 ·rw[e];simp[FitsT,SetsT,usesL,restT]
 ·rw[e];simp[FitsT,SetsT,usesL,restT]
theorem ln_one {W n:Int} (hW:1≤W∧W≤8000) (q:Nat) (number:Int):oneB (lnF W n q) number W=true:=by
 have h1:(lnI W n q).all (fun t=>fitsT t number 3 W)=true:=by
  rw[List.all_eq_true]
  intro t ht
  obtain ⟨i,_,rfl⟩:=List.mem_map.1 ht
  exact decide_eq_true (lnT_fits hW i number)
 simp[oneB,lnF,blkB,insB,endsB,EndsP]
 intro t ht
 exact List.all_eq_true.1 h1 t ht
theorem ln_right {W n:Int} (hW:1≤W∧W≤8000) (q:Nat):rightB (lnP W n q)=true:=by
 unfold rightB lnP
 have h:decide (0≤W∧W≤1048576∧[lnF W n q]≠[])=true:=decide_eq_true ⟨by omega,by omega,by simp⟩
 rw[h,Bool.true_and]
 show ([0].all fun i=>oneB ([lnF W n q].getD i default) i W)=true
 rw[List.all_cons,List.all_nil,Bool.and_true]
 exact ln_one hW q _
theorem ln_few {W n:Int} (hW:1≤W∧W≤8000) {q:Nat} (hq:q≤991):FewP (lnP W n q):=by
 refine ⟨hW.2,by simp[lnP],fun f hf=>?_,?_,ln_right hW q⟩
 ·obtain rfl:=List.mem_singleton.1 hf
  exact ⟨by simp[lnF],by simp[lnF]⟩
 ·simp[lnP,totF,lnF,cntB,lnI_len];omega
theorem ln_of {W n:Int} (hW:1≤W∧W≤8000) (hn:In32 n) {q:Nat} (hq:q≤991):∃ rw,OfH (lnP W n q) (plainL (lnP W n q)) rw:=by
 have hf:=ln_few (n:=n) hW hq
 have hl:(lnP W n q).funcs.length=1:=rfl
 have e0:plainL (lnP W n q)=[plO 3]:=rfl
 obtain ⟨L,hL⟩:=least_exists (hf.fine (i:=0) (by rw[hl];omega)).1
 refine ⟨fun _=>L.inn.getD 0 default,⟨hf,plain_hold hf,by rw[e0];decide⟩,fun f hf k hk t ht=>?_,fun i hi=>?_,fun pl hp=>?_⟩
 ·obtain rfl:=List.mem_singleton.1 hf
  have z:In32 0:=⟨by omega,by omega⟩
  rcases List.mem_cons.1 hk with rfl | hk
  ·obtain ⟨i,_,rfl⟩:=List.mem_map.1 (show t ∈ (List.range q).map (lnT W n) from ht)
   rcases lnT_cases W n i with ⟨d,d0,d1,e⟩ | e | e | e<;>rw[e]
   ·exact hn
   ·exact z
   ·exact z
   ·exact z
  ·obtain rfl:=List.mem_singleton.1 hk
   cases ht
 ·rw[hl]at hi
  obtain rfl:i=0:=by omega
  exact ⟨L,hL,rfl⟩
 ·rw[e0]at hp
  rw[List.mem_singleton.1 hp,plO_len];omega
theorem ln_tot (W n:Int) (q:Nat):totW (plainL (lnP W n q))=3:=by
 show totW [plO 3]=3
 decide
theorem insF_ok (call:Nat→Bst→Bst) (inp:ByteArray) (fuel:Nat):∀ (l:List Tac) (rg:List Int) (σ:Bst),(∀ t ∈ l,t.op=1∨t.op=5∨t.op=9∨(t.op=3∧t.k=11))→σ.en=0→σ.st+l.length≤fuel→σ.out.length+l.length≤65536 →
 (insF call inp fuel l rg σ).2.en=0∧(insF call inp fuel l rg σ).2.st=σ.st+l.length
 | [],rg,σ,_,h,_,_=>⟨h,rfl⟩
 | t::l,rg,σ,ht,h,hs,ho=>by
  rw[List.length_cons]at hs ho
  have h1:=ht t (List.mem_cons_self ..)
  have hk:(opF call inp t rg { σ with st:=σ.st+1 }).2.en=0∧(opF call inp t rg { σ with st:=σ.st+1 }).2.st=σ.st+1∧(opF call inp t rg { σ with st:=σ.st+1 }).2.out.length≤σ.out.length+1:=by
   unfold opF
   rcases h1 with e | e | e | ⟨e,e2⟩
   ·rw[if_pos e];exact ⟨h,rfl,Nat.le_succ _⟩
   ·simp only[e,Int.reduceEq,if_false,if_true];exact ⟨h,trivial,Nat.le_succ _⟩
   ·simp only[e,Int.reduceEq,if_false,if_true]
    rw[if_neg (show ¬ 65536≤σ.out.length by omega)]
    exact ⟨h,rfl,by simp⟩
   ·simp only[e,e2,Int.reduceEq,if_false,if_true,applyW];exact ⟨h,trivial,Nat.le_succ _⟩
  obtain ⟨k1,k2,k3⟩:=hk
  have ih:=insF_ok call inp fuel l (opF call inp t rg { σ with st:=σ.st+1 }).1 (opF call inp t rg { σ with st:=σ.st+1 }).2 (fun x hx=>ht x (List.mem_cons_of_mem _ hx)) k1 (by omega) (by omega)
  rw[insF_cons,if_neg (show ¬ fuel≤σ.st by omega),if_pos k1]
  exact ⟨ih.1,by rw[ih.2,k2,List.length_cons];omega⟩
theorem ln_run (W n:Int) {q:Nat} (hq:q≤991) (inp:ByteArray):(finB (lnP W n q) inp 4000).en=0:=by
 have e:finB (lnP W n q) inp 4000=blkF (funF [lnF W n q] inp 4000 0) inp 4000 (lnF W n q) (3999+1+1) 0 (List.replicate 3 0) (begB (lnP W n q)):=rfl
 rw[e,blkF_succ]
 have e1:((lnF W n q).bks.getD 0 default)=⟨lnI W n q,1,0,1,0⟩:=rfl
 have e2:((lnF W n q).bks.getD 1 default)=⟨[],3,0,0,0⟩:=rfl
 obtain ⟨k1,k2⟩:=insF_ok (funF [lnF W n q] inp 4000 0) inp 4000 (lnI W n q) (List.replicate 3 0) (begB (lnP W n q)) (fun t ht=>by
  obtain ⟨i,_,rfl⟩:=List.mem_map.1 ht
  rcases lnT_cases W n i with ⟨d,d0,d1,e⟩ | e | e | e<;>rw[e]<;>simp) rfl (by rw[lnI_len];show 0+q≤4000;omega) (by rw[lnI_len];show 0+q≤65536;omega)
 rw[lnI_len]at k2
 have k3:(begB (lnP W n q)).st=0:=rfl
 rw[e1]
 simp only
 rw[if_pos k1,if_neg (by rw[k2,k3];omega),if_neg (by decide)]
 have e4:∀ rg,(goB ⟨lnI W n q,1,0,1,0⟩ rg).toNat=1:=fun rg=>rfl
 rw[e4,blkF_succ,e2]
 simp only[insF]
 rw[if_pos k1,if_neg (by rw[k2,k3];omega),if_pos trivial]
 exact k1
set_option maxRecDepth 10000
open Go.V
def szL (f:BF) (k:Nat):Int:=(f.bks.length:Int)+((f.bks.take k).map fun b=>(b.ins.length:Int)).sum
theorem szL_step (f:BF) {k:Nat} (h:k<f.bks.length):szL f (k+1)=szL f k+(f.bks.getD k default).ins.length:=by
 unfold szL
 have e:f.bks.take (k+1)=f.bks.take k++[f.bks.getD k default]:=by rw[List.take_add_one];simp[List.getD,List.getElem?_eq_getElem h]
 rw[e];simp;omega
theorem szL_le {f:BF} (hF:∀ b ∈ f.bks,b.ins.length≤100000):∀ k:Nat,k≤f.bks.length→0≤szL f k∧szL f k≤f.bks.length+(k:Int)*100000
 | 0,_=>by simp[szL]
 | k+1,hk=>by
  rw[szL_step f (by omega)]
  have h1:=szL_le hF k (by omega)
  have h2:=hF _ (mem_getD (show k<f.bks.length by omega))
  omega
theorem szL_c (f:BF) (hF:∀ b ∈ f.bks,b.ins.length≤100000) (hb:f.bks.length≤1000):Contract Try.prog 39 [bfA f] (fun r=>r=I (szL f f.bks.length)):=by
 refine Contract.of_call (VCall.of_body hmix f_scref24_SizeFunc (by simp) ?_)
 simp only[go_sem,c_scref24_SizeFunc]
 refine VW_loop (fun k:Nat=>⟨[(1,.ptr 0 0 0),(3,I (szL f k)),(4,I k)],[⟨0,52,1,bfL f⟩],1⟩) (fun k=>k≤f.bks.length) (fun k=>f.bks.length-k) 0 (Wk.mk (by simp[get_cons,szL]) ⟨[],rfl⟩ (Nat.le_refl _)) (Nat.zero_le _) ?_
 intro k hk
 by_cases hlt:k<f.bks.length
 ·have hst:=szL_step f hlt
  have h1:=szL_le hF (k+1) (by omega)
  have h2:=szL_le hF k hk
  simp only[go_sem,eq_true (show (k:Int)<f.bks.length by omega)]
  repeat ((with_reducible refine And.intro ?_ ?_);· omega)
  rw[i64_in (n:=(k:Int)+1) (by omega) (by omega),i64_in (n:=szL f k+_) (by omega) (by omega),← hst]
  exact ⟨k+1,by omega,by omega,Wk.mk (by simp[get_cons]) ⟨[],rfl⟩ (Nat.le_refl _)⟩
 ·obtain rfl:k=f.bks.length:=by omega
  simp only[go_sem,eq_false (show ¬ (f.bks.length:Int)<f.bks.length by omega)]
  exact ⟨_,Frz.pure rfl,rfl⟩
theorem sizeL_c (W n:Int) {q:Nat} (hq:q≤991):Contract Try.prog 21 [bpA (lnP W n q)] (fun r=>r=I (q+2)):=by
 refine Contract.of_call (VCall.of_body hmix f_scref24_Size (by simp) ?_)
 have k1:=szL_c (lnF W n q) (fun b hb=>by
  rcases List.mem_cons.1 hb with rfl | hb
  ·simp[lnI_len];omega
  ·rw[List.mem_singleton.1 hb];simp) (by simp[lnF])
 have e1:szL (lnF W n q) (lnF W n q).bks.length=(q:Int)+2:=by simp[szL,lnF,lnI_len];omega
 rw[e1]at k1
 have eb:bpA (lnP W n q) = .agg [I W,.imm 2 ([lnF W n q].map bfA)]:=rfl
 rw[eb]
 generalize lnF W n q=f at *
 simp only[go_sem,c_scref24_Size]
 refine VW_loop (fun k:Nat=>⟨[(1,.ptr 0 0 0),(3,I ((k:Int)*(q+2))),(4,I k)],[⟨0,24,1,[I W,.imm 2 ([f].map bfA)]⟩],1⟩) (fun k=>k≤1) (fun k=>1-k) 0 (Wk.mk (by simp[get_cons]) ⟨[],rfl⟩ (Nat.le_refl _)) (Nat.zero_le _) ?_
 intro k hk
 by_cases h0:k=0
 ·subst h0
  simp only[go_sem,eq_true (show ((0:Nat):Int)<((0+1:Nat):Int) by decide)]
  repeat ((with_reducible refine And.intro ?_ ?_);· first | omega | (simp;done))
  refine VCall.of_contract k1 (SleL.pure rfl) fun x hx=>?_
  subst hx
  have w1:IntKind.i64.wrap (((0:Nat):Int)*((q:Int)+2)+((q:Int)+2))=((1:Nat):Int)*((q:Int)+2):=by rw[i64_in (by omega) (by omega)];omega
  have w2:IntKind.i64.wrap (((0:Nat):Int)+1)=((1:Nat):Int):=rfl
  simp only[go_sem,w1,w2]
  exact ⟨1,by omega,by omega,Wk.mk (by simp[get_cons]) ⟨[],rfl⟩ (Nat.le_refl _)⟩
 ·obtain rfl:k=1:=by omega
  simp only[go_sem,eq_false (show ¬ ((1:Nat):Int)<((0+1:Nat):Int) by decide)]
  exact ⟨_,Frz.pure rfl,by simp⟩
set_option maxRecDepth 10000
open Go.V
theorem frz_tcs {n:Nat} {H:List VObj} {nx id s ty len:Nat} (code:List Tac) (hid:n≤id) (ho:H[id]? = some ⟨s,ty,8,(code.map tacL).flatten⟩) (hl:len=code.length):Frz n H nx (.ref id s 0 len) (inA code):=by
 have h:=Frz.refT (n:=n) (nx:=nx) (len:=len) hid ho rfl rfl (yss:=code.map tacL) (zss:=code.map tacL) rfl (fun l hl=>?_) (by simp[hl]) (FrzLL.pure fun l hl=>?_)
 ·rw[List.map_map]at h;exact h
 ·obtain ⟨x,_,rfl⟩:=List.mem_map.1 hl;rfl
 ·obtain ⟨x,_,rfl⟩:=List.mem_map.1 hl;rfl
set_option maxRecDepth 10000
open Go.V Go.ChangeShapes Go.WideShapes Go.ChangeAt Go.RowKit
structure LQ29 where
 k:Nat
 s:Nat
 nx:Nat
abbrev W16 (n:Int):AV:=.val (.int .u16 n)
abbrev tcC (W n:Int) (q:Nat):List AV:=((lnI W n q).map tacL).flatten
theorem tcC_len (W n:Int) (q:Nat):(tcC W n q).length=q*8:=by
 have:=sz_flat tacL 8 (fun _=>rfl) (lnI W n q)
 rw[lnI_len]at this
 exact this
theorem tcC_succ (W n:Int) (q:Nat):tcC W n (q+1)=tcC W n q++tacL (lnT W n q):=by simp[tcC,lnI_succ]
theorem frz_lnP {W n:Int} {q:Nat} {H:List VObj} {nx s2 s3 s4:Nat} (h2:H[2]? = some ⟨s2,47,8,tcC W n q⟩)
 (h3:H[3]? = some ⟨s3,49,5,[.ref 2 s2 0 q,I 1,I 0,I 1,I 0,nilv,I 3,I 0,I 0,I 0]⟩) (h4:H[4]? = some ⟨s4,52,2,[I 3,.ref 3 s3 0 2]⟩) :
 Frz 1 H nx (.ref 4 s4 0 1) (.imm 2 ((lnP W n q).funcs.map bfA)):=by
 have k2:Frz 1 H nx (.ref 2 s2 0 q) (inA (lnI W n q)):=frz_tcs (lnI W n q) (by omega) h2 (lnI_len W n q).symm
 have k3:Frz 1 H nx (.ref 3 s3 0 2) (.imm 5 (([[inA (lnI W n q),I 1,I 0,I 1,I 0],[.imm 8 [],I 3,I 0,I 0,I 0]]:List (List AV)).map .agg)) :=
  Frz.refT (by omega) h3 rfl rfl (yss:=[[.ref 2 s2 0 q,I 1,I 0,I 1,I 0],[nilv,I 3,I 0,I 0,I 0]]) rfl (fun l hl=>by
   simp only[List.mem_cons,List.not_mem_nil,or_false]at hl
   rcases hl with rfl | rfl<;>rfl) rfl
   ⟨_,_,rfl,⟨_,_,rfl,k2,_,_,rfl,Frz.pure rfl,_,_,rfl,Frz.pure rfl,_,_,rfl,Frz.pure rfl,_,_,rfl,Frz.pure rfl,rfl⟩,_,_,rfl,⟨_,_,rfl,Frz.nil 8,_,_,rfl,Frz.pure rfl,_,_,rfl,Frz.pure rfl,_,_,rfl,Frz.pure rfl,_,_,rfl,Frz.pure rfl,rfl⟩,rfl⟩
 have k4:Frz 1 H nx (.ref 4 s4 0 1) (.imm 2 (([[I 3,.imm 5 (([[inA (lnI W n q),I 1,I 0,I 1,I 0],[.imm 8 [],I 3,I 0,I 0,I 0]]:List (List AV)).map .agg)]]:List (List AV)).map .agg)) :=
  Frz.refT (by omega) h4 rfl rfl (yss:=[[I 3,.ref 3 s3 0 2]]) rfl (fun l hl=>by
   rw[List.mem_singleton.1 hl];rfl) rfl
   ⟨_,_,rfl,⟨_,_,rfl,Frz.pure rfl,_,_,rfl,k3,rfl⟩,rfl⟩
 exact k4
theorem clong_B {W n:Int} {q nx:Nat} (hW:1≤W∧W≤8000) (hn:In32 n) (hq:q≤991) :
 VWs Try.prog (tailC 9 c_sclaw29_ChooseLong) (retQ Try.prog [.tmp 6] fun r H nx=>∃ y,Frz 0 H nx r y∧y=B true) ⟨[(8,.ptr 0 0 0)],[⟨0,24,1,[I W,.imm 2 ((lnP W n q).funcs.map bfA)]⟩],nx⟩:=by
 obtain ⟨rw,h⟩:=ln_of (q:=q) hW hn hq
 have hw:=h.f.words
 have ht:=ln_tot W n q
 have hfo:=fnsOk h
 have hpl:∀ pl ∈ plainL (lnP W n q),pl.length≤140737488355328:=h.p
 have hrun:=ln_run W n hq ⟨#[]⟩
 have hb1:(lnP W n q).funcs.length=1:=rfl
 have hbw:(lnP W n q).words=W:=rfl
 have hpf:∀ f ∈ (lnP W n q).funcs,0≤f.regs∧f.regs≤4000:=fun f hf=>by rw[List.mem_singleton.1 hf];exact ⟨by simp[lnF],by simp[lnF]⟩
 have hbk:∀ f ∈ (lnP W n q).funcs,f.bks.length≤140737488355328∧∀ k ∈ f.bks,k.ins.length≤140737488355328:=fun f hf=>by
  rw[List.mem_singleton.1 hf]
  refine ⟨by simp[lnF],fun k hk=>?_⟩
  rcases List.mem_cons.1 hk with rfl | hk
  ·simp[lnI_len];omega
  ·rw[List.mem_singleton.1 hk];simp
 have hr:=ln_right (n:=n) hW q
 have k0:=plainA_c (lnP W n q) (by omega) hpf
 have k1:=of29_c h
 unfold ofA at k1
 have k2:=rright_c (lnP W n q) (by omega) (fun f hf=>(hbk f hf).1) (fun f hf=>(hbk f hf).2)
 rw[hr]at k2
 have k3:=run24_c (lnP W n q) ⟨#[]⟩ 4000 (by simp[lnP]) ⟨hw.1,by omega⟩ hfo (by omega) ⟨by decide,by decide⟩ (by decide)
 have e4:(4000:Int).toNat=4000:=rfl
 rw[e4]at k3
 have hst:(resB (lnP W n q) ⟨#[]⟩ 4000).st≤4000:=by
  have hcp:=funF_wf (inp:=⟨#[]⟩) (fuel:=4000) hfo (lnP W n q).funcs.length (Nat.le_refl _)
  exact (hcp ((lnP W n q).funcs.length-1) (by omega) (begB (lnP W n q)) ⟨by simp[begB],fun x hx=>by rw[(List.mem_replicate.1 hx).2];exact ⟨by omega,by omega⟩,by simp[begB],Nat.zero_le _,Nat.zero_le _⟩ rfl).1.s
 have hen:(resB (lnP W n q) ⟨#[]⟩ 4000).en=1:=by unfold resB;rw[hrun];rfl
 obtain ⟨s6,k6⟩:=run29_c h (inp:=⟨#[]⟩) (by decide) (fuel:=4000) (by decide) (by rw[hen];decide)
 have k5:=fuel29_c (lnP W n q) (plainL (lnP W n q)) (resB (lnP W n q) ⟨#[]⟩ 4000).st ⟨hw.1,by omega⟩ hpl (by rw[show plainL (lnP W n q)=[plO 3] from rfl];decide) h.f.hold.wds ⟨by omega,by omega⟩ ⟨by omega,by omega⟩
 have k7:=sizeL_c W n hq
 rw[hen]at k3 k6
 generalize codeO (lnP W n q) (plainL (lnP W n q)) rw=code at *
 generalize dataO (lnP W n q) (plainL (lnP W n q))=data at *
 generalize resB (lnP W n q) ⟨#[]⟩ 4000=ρ at *
 have eb:(AV.agg [I W,.imm 2 ((lnP W n q).funcs.map bfA)])=bpA (lnP W n q):=rfl
 have hq2:(q:Int)+2≤1000:=by omega
 generalize (lnP W n q).funcs.map bfA=fs at *
 rw[← eb]at k0 k1 k2 k3 k5 k7
 simp only[go_sem,VWs_seq,VWs_ret,VWs_ops,VWs_cond,Int.reduceEq,Int.reduceBEq,tailC,c_sclaw29_ChooseLong]
 refine VCall.of_contract (k0) (SleL.pure rfl) fun x hx=>?_
 subst hx
 simp only[go_sem,VWs_seq,VWs_ret,VWs_ops,VWs_cond,Int.reduceEq,Int.reduceBEq]
 refine ⟨_,Wk.refl _,?_⟩
 simp only[go_sem,VWs_seq,VWs_ret,VWs_ops,VWs_cond,Int.reduceEq,Int.reduceBEq]
 refine VCall.of_contract (k1) (SleL.pure rfl) fun x hx=>?_
 subst hx
 simp only[go_sem,VWs_seq,VWs_ret,VWs_ops,VWs_cond,Int.reduceEq,Int.reduceBEq]
 refine ⟨_,Wk.refl _,?_⟩
 simp only[go_sem,VWs_seq,VWs_ret,VWs_ops,VWs_cond,Int.reduceEq,Int.reduceBEq]
 refine VCall.of_contract (k3) (SleL.pure rfl) fun x hx=>?_
 subst hx
 simp only[go_sem,VWs_seq,VWs_ret,VWs_ops,VWs_cond,Int.reduceEq,Int.reduceBEq]
 refine ⟨_,Wk.refl _,?_⟩
 simp only[go_sem,VWs_seq,VWs_ret,VWs_ops,VWs_cond,Int.reduceEq,Int.reduceBEq]
 refine ECall.of (k2) (SleL.pure rfl) ⟨_,fun _=>Iff.rfl⟩ fun x hx=>?_
 subst hx
 simp only[go_sem,VWs_seq,VWs_ret,VWs_ops,VWs_cond,Int.reduceEq,Int.reduceBEq]
 refine ECall.of (k7) (SleL.pure rfl) ⟨_,fun _=>Iff.rfl⟩ fun x hx=>?_
 subst hx
 simp only[go_sem,VWs_seq,VWs_ret,VWs_ops,VWs_cond,Int.reduceEq,Int.reduceBEq,eq_true hq2]
 refine ECall.of (k5) (SleL.pure rfl) ⟨_,fun _=>Iff.rfl⟩ fun x hx=>?_
 subst hx
 simp only[go_sem,VWs_seq,VWs_ret,VWs_ops,VWs_cond,Int.reduceEq,Int.reduceBEq]
 refine ECall.of (k6) (SleL.pure rfl) ⟨_,fun _=>Iff.rfl⟩ fun x hx=>?_
 subst hx
 simp only[go_sem,VWs_seq,VWs_ret,VWs_ops,VWs_cond,Int.reduceEq,Int.reduceBEq]
 refine ECall.of (ends_same _ _ _ _) (SleL.pure rfl) ⟨_,fun _=>Iff.rfl⟩ fun x hx=>?_
 subst hx
 simp only[go_sem,VWs_seq,VWs_ret,VWs_ops,VWs_cond,Int.reduceEq,Int.reduceBEq]
 refine ⟨_,Wk.refl _,?_⟩
 simp only[go_sem,VWs_seq,VWs_ret,VWs_ops,VWs_cond,Int.reduceEq,Int.reduceBEq]
 exact ⟨_,Frz.pure rfl,rfl⟩
set_option maxHeartbeats 4000000 in
theorem chooselong_c (sz w n:Int) (hs:0≤sz∧sz≤65535) (hw:0≤w∧w≤65535) (hn:In32 n):Contract Try.prog 6 [W16 sz,W16 w,U32 n] (fun r=>r=B true):=by
 have hqq:=f_sclaw29_ChooseLong
 unfold compF compFp at hqq
 have hmx:(2000000:Nat)≤maxLen:=by decide
 refine Contract.of_call (VCall.of_bodyS (pt:=false) (pf:=false) hmix hqq (by simp) ?_)
 simp only[go_sem,VWs_seq,VWs_ret,VWs_ops,VWs_cond,Int.reduceEq,Int.reduceBEq,c_sclaw29_ChooseLong]
 refine ⟨_,Wk.refl _,?_⟩
 simp only[go_sem,VWs_seq,VWs_ret,VWs_ops,VWs_cond,Int.reduceEq,Int.reduceBEq]
 refine VCall.of_contract (alive_c) (SleL.pure rfl) fun x hx=>?_
 subst hx
 simp only[go_sem,VWs_seq,VWs_ret,VWs_ops,VWs_cond,Int.reduceEq,Int.reduceBEq]
 refine ⟨_,Wk.refl _,?_⟩
 have t1:sz.tmod 990=sz % 990:=Int.tmod_eq_emod_of_nonneg hs.1
 have t2:w.tmod 8000=w % 8000:=Int.tmod_eq_emod_of_nonneg hw.1
 have w1:IntKind.i64.wrap sz=sz:=i64_in (by omega) (by omega)
 have w2:IntKind.i64.wrap w=w:=i64_in (by omega) (by omega)
 have w3:IntKind.i64.wrap (sz % 990)=sz % 990:=i64_in (by omega) (by omega)
 have w4:IntKind.i64.wrap (w % 8000)=w % 8000:=i64_in (by omega) (by omega)
 obtain ⟨q,hq⟩:∃ q:Nat,4+sz % 990=(q:Int)+2:=⟨(2+sz % 990).toNat,by omega⟩
 have hq2:q≤991:=by omega
 obtain ⟨W,hW⟩:∃ W:Int,1+w % 8000=W:=⟨_,rfl⟩
 have hW2:1≤W∧W≤8000:=by omega
 have w5:IntKind.i64.wrap (4+sz % 990)=(q:Int)+2:=by rw[hq];exact i64_in (by omega) (by omega)
 have w6:IntKind.i64.wrap (1+w % 8000)=W:=by rw[hW];exact i64_in (by omega) (by omega)
 simp only[go_sem,VWs_seq,VWs_ret,VWs_ops,VWs_cond,Int.reduceEq,Int.reduceBEq,w1,t1,w3,w5]
 refine ⟨_,Wk.refl _,?_⟩
 simp only[go_sem,VWs_seq,VWs_ret,VWs_ops,VWs_cond,Int.reduceEq,Int.reduceBEq,w2,t2,w4,w6]
 refine ⟨⟨[(2,U32 n),(7,I ((q:Int)+2)),(8,.ptr 0 0 0)],[⟨0,24,1,[I W,nilv]⟩],1⟩,Wk.mk (by simp[get_cons]) ⟨[],by simp⟩ (Nat.le_refl _),?_⟩
 simp only[go_sem,VWs_seq,VWs_ret,VWs_ops,VWs_cond,Int.reduceEq,Int.reduceBEq]
 refine ⟨⟨[(2,U32 n),(7,I ((q:Int)+2)),(8,.ptr 0 0 0),(9,.ptr 1 1 0)],[⟨0,24,1,[I W,nilv]⟩,⟨1,52,1,[I 3,nilv]⟩],2⟩,Wk.mk (by simp[get_cons]) ⟨[],by simp⟩ (Nat.le_refl _),?_⟩
 simp only[go_sem,VWs_seq,VWs_ret,VWs_ops,VWs_cond,Int.reduceEq,Int.reduceBEq]
 refine ⟨⟨[(2,U32 n),(7,I ((q:Int)+2)),(8,.ptr 0 0 0),(9,.ptr 1 1 0),(10,nilv)],[⟨0,24,1,[I W,nilv]⟩,⟨1,52,1,[I 3,nilv]⟩],2⟩,Wk.mk (by simp[get_cons]) ⟨[],by simp⟩ (Nat.le_refl _),?_⟩
 simp only[go_sem,VWs_seq,VWs_ret,VWs_ops,VWs_cond,Int.reduceEq,Int.reduceBEq]
 refine VW_loop (fun p:LQ29=>⟨[(2,U32 n),(7,I ((q:Int)+2)),(8,.ptr 0 0 0),(9,.ptr 1 1 0),(10,.ref 2 p.s 0 p.k),(11,I p.k)],[⟨0,24,1,[I W,nilv]⟩,⟨1,52,1,[I 3,nilv]⟩,⟨p.s,47,8,tcC W n p.k⟩],p.nx⟩) (fun p=>p.k≤q) (fun p=>q-p.k) ⟨0,2,3⟩
  (Wk.virt 47 8 (by decide) (by simp[get_cons]) ⟨_,rfl,by simp,fun j ob' ho=>⟨ob',ho,rfl,rfl,rfl,rfl,fun _=>rfl,fun i x y hx hy=>.inl (by rw[hx]at hy;exact Option.some.inj hy)⟩⟩ rfl) (Nat.zero_le _) ?_
 rintro ⟨i,s,nx⟩ hi
 simp only at hi
 have u1:IntKind.i64.wrap ((q:Int)+2-2)=q:=by rw[i64_in (by omega) (by omega)];omega
 by_cases hlt:i<q
 ·have hiq:(i:Int)<q:=by omega
  have u2:IntKind.i64.wrap ((i:Int)+1)=((i+1:Nat):Int):=by rw[i64_in (by omega) (by omega)];omega
  have htk:List.take (i*8) (tcC W n i)=tcC W n i:=List.take_of_length_le (Nat.le_of_eq (tcC_len W n i))
  have u3:IntKind.i64.wrap (W-1)=W-1:=i64_in (by omega) (by omega)
  have t3:(i:Int).tmod 3=((i % 3:Nat):Int):=by rw[Int.tmod_eq_emod_of_nonneg (by omega)];omega
  have u4:IntKind.i64.wrap ((i % 3:Nat):Int)=((i % 3:Nat):Int):=i64_in (by omega) (by omega)
  have hc:i % 4=0∨i % 4=1∨i % 4=2∨i % 4=3:=by omega
  rcases hc with hc | hc | hc | hc
  ·have t4:(i:Int).tmod 4=0:=by rw[Int.tmod_eq_emod_of_nonneg (by omega)];omega
   have u5:IntKind.i64.wrap 0=0:=rfl
   have e:lnT W n i=⟨1,((i % 3:Nat):Int),0,0,0,0,0,n⟩:=by unfold lnT;simp[hc]
   have hcl:tcC W n i++tacL ⟨1,((i % 3:Nat):Int),0,0,0,0,0,n⟩=tcC W n (i+1):=by rw[tcC_succ,e]
   simp only[tacL]at hcl
   simp only[go_sem,VWs_seq,VWs_ret,VWs_ops,VWs_cond,Int.reduceEq,Int.reduceBEq,u1,t3,t4,u2,u3,u4,u5,eq_true hiq,htk]
   repeat ((with_reducible refine And.intro ?_ ?_);· first | omega | (simp;omega))
   try rw[hcl]
   exact ⟨⟨i+1,_,_⟩,by simp only;omega,by simp only;omega,Wk.mk (by simp[get_cons]) ⟨[_],rfl⟩ (Nat.le_refl _)⟩
  ·have t4:(i:Int).tmod 4=1:=by rw[Int.tmod_eq_emod_of_nonneg (by omega)];omega
   have u5:IntKind.i64.wrap 1=1:=rfl
   have e:lnT W n i=⟨5,0,0,0,0,W-1,0,0⟩:=by unfold lnT;simp[hc]
   have hcl:tcC W n i++tacL ⟨5,0,0,0,0,W-1,0,0⟩=tcC W n (i+1):=by rw[tcC_succ,e]
   simp only[tacL]at hcl
   simp only[go_sem,VWs_seq,VWs_ret,VWs_ops,VWs_cond,Int.reduceEq,Int.reduceBEq,u1,t3,t4,u2,u3,u4,u5,eq_true hiq,htk]
   repeat ((with_reducible refine And.intro ?_ ?_);· first | omega | (simp;omega))
   try rw[hcl]
   exact ⟨⟨i+1,_,_⟩,by simp only;omega,by simp only;omega,Wk.mk (by simp[get_cons]) ⟨[_],rfl⟩ (Nat.le_refl _)⟩
  ·have t4:(i:Int).tmod 4=2:=by rw[Int.tmod_eq_emod_of_nonneg (by omega)];omega
   have u5:IntKind.i64.wrap 2=2:=rfl
   have e:lnT W n i=⟨3,2,0,1,11,0,0,0⟩:=by unfold lnT;simp[hc]
   have hcl:tcC W n i++tacL ⟨3,2,0,1,11,0,0,0⟩=tcC W n (i+1):=by rw[tcC_succ,e]
   simp only[tacL]at hcl
   simp only[go_sem,VWs_seq,VWs_ret,VWs_ops,VWs_cond,Int.reduceEq,Int.reduceBEq,u1,t3,t4,u2,u3,u4,u5,eq_true hiq,htk]
   repeat ((with_reducible refine And.intro ?_ ?_);· first | omega | (simp;omega))
   try rw[hcl]
   exact ⟨⟨i+1,_,_⟩,by simp only;omega,by simp only;omega,Wk.mk (by simp[get_cons]) ⟨[_],rfl⟩ (Nat.le_refl _)⟩
  ·have t4:(i:Int).tmod 4=3:=by rw[Int.tmod_eq_emod_of_nonneg (by omega)];omega
   have u5:IntKind.i64.wrap 3=3:=rfl
   have e:lnT W n i=⟨9,0,2,0,0,0,0,0⟩:=by unfold lnT;simp[hc]
   have hcl:tcC W n i++tacL ⟨9,0,2,0,0,0,0,0⟩=tcC W n (i+1):=by rw[tcC_succ,e]
   simp only[tacL]at hcl
   simp only[go_sem,VWs_seq,VWs_ret,VWs_ops,VWs_cond,Int.reduceEq,Int.reduceBEq,u1,t3,t4,u2,u3,u4,u5,eq_true hiq,htk]
   repeat ((with_reducible refine And.intro ?_ ?_);· first | omega | (simp;omega))
   try rw[hcl]
   exact ⟨⟨i+1,_,_⟩,by simp only;omega,by simp only;omega,Wk.mk (by simp[get_cons]) ⟨[_],rfl⟩ (Nat.le_refl _)⟩
 obtain rfl:i=q:=by omega
 have hfin:=fun nx=>clong_B (nx:=nx) (q:=i) hW2 hn hq2
 simp only[tailC,c_sclaw29_ChooseLong]at hfin
 simp only[go_sem,VWs_seq,VWs_ret,VWs_ops,VWs_cond,Int.reduceEq,Int.reduceBEq,u1,eq_false (show ¬ (i:Int)<i by omega)]
 refine ⟨_,Wk.refl _,?_⟩
 simp only[go_sem,VWs_seq,VWs_ret,VWs_ops,VWs_cond,Int.reduceEq,Int.reduceBEq]
 repeat ((with_reducible refine And.intro ?_ ?_);· first | omega | (simp;omega))
 refine ⟨_,Wk.refl _,?_⟩
 simp only[go_sem,VWs_seq,VWs_ret,VWs_ops,VWs_cond,Int.reduceEq,Int.reduceBEq]
 repeat ((with_reducible refine And.intro ?_ ?_);· first | omega | (simp;omega))
 refine ⟨_,?_,hfin (nx+1+1)⟩
 refine Wk.give (by simp[get_cons]) ⟨rfl,rfl,rfl,(fun h=>absurd h (Nat.succ_ne_zero 0)),⟨rfl,fun j x y hx hy=>?_⟩,trivial⟩ (Nat.le_refl _)
 match j with
 | 0=>simp at hx hy;subst hx;subst hy;exact .inl rfl
 | 1=>simp at hx hy;subst hx;subst hy;exact .inr (frz_lnP rfl rfl rfl)
 | j+2=>simp at hx
set_option maxRecDepth 10000
open Go.V Go.ChangeShapes Go.WideShapes Go.ChangeAt Go.RowKit
set_option maxRecDepth 100000 in
theorem chooselong_lifted (os:Os) (started:os.Started) (H:Type) (enc:TypeId × Value→H) :
 ReturnsInHanded {} Try.checked os 6 .any (Rows.chooseLongSpec.pre6 enc Try.prog Try.f6 Rows.chooseLongRow.domain false) (Rows.chooseLongSpec.post enc Try.prog Try.f6 false true false false):=by
 refine returnsInHanded_of_change_sized (C:=Try.checked) Try.own started (by kernel_rfl) Try.func6
  (ChangeSpec.witness6 (enc:=enc) (C:=Try.checked) false ⟨#[],#[.int .u16 0,.int .u16 0,.int .u32 0],[]⟩ 8 (by kernel_rfl) (by kernel_rfl) (by kernel_rfl) (by kernel_rfl)) ?_
 intro W base args ds gs before hval hW _ hwt _
 refine law_calls (P:=Try.prog) (n:=20) (shs:=[.int .u16,.int .u16,.int .u32]) (tb:=4) Try.laidOut rfl (by kernel_rfl) (by kernel_rfl) (by decide +kernel) (by kernel_rfl) (fun ds h=>?_) (fun xs hx=>?_) hval hW hwt
 ·match ds,h with
  | [d1,d2,d3],_=>rfl
 ·obtain ⟨x,xs',rfl,hx1,hxs⟩:=fitS_cons hx
  obtain ⟨y,ys',rfl,hy,hys⟩:=fitS_cons hxs
  obtain ⟨z,zs',rfl,hz,hzs⟩:=fitS_cons hys
  simp only[Sh.fitL]at hzs
  subst hzs
  simp only[Sh.fit]at hx1 hy hz
  obtain ⟨n,rfl,h1⟩:=hx1
  obtain ⟨w,rfl,h2⟩:=hy
  obtain ⟨b,rfl,h3⟩:=hz
  simp[Lit.wf,IntKind.min,IntKind.max,IntKind.bits,IntKind.signed]at h1 h2 h3
  exact chooselong_c n w b (by omega) (by omega) ⟨by omega,by omega⟩
theorem chooselong_holds:Rows.ChooseLongSaid :=
 OpenClaim.holds_of_wide 6 Try.f6 rfl rfl rfl rfl rfl rfl rfl ⟨rfl,rfl,rfl,rfl,rfl⟩ rfl rfl rfl rfl rfl (by kernel_rfl) Try.func6 (by kernel_rfl)
  (of_decide_eq_true (by kernel_rfl)) (by unfold Func.isWrapper;first | (rw[if_pos (by decide +kernel)];kernel_rfl) | (rw[if_neg (by decide +kernel)];exact ⟨rfl,rfl⟩))
  (fun os started H enc _=>chooselong_lifted os started H enc)
end Go.Proofs.Ytkbhfokbhkmfgaa
