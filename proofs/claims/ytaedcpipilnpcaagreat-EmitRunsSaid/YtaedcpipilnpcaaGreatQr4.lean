/- The document's run in place: a step. No condition. The document's run in place: run, Go, Run, Counts. No condition. The document's Go, Run, Counts. No condition. -/
import Derived.Test.YtaedcpipilnpcaaGreatQr3
set_option linter.unusedVariables false
set_option linter.unusedSimpArgs false
namespace Go.Proofs.YtaedcpipilnpcaaGreat
set_option linter.unusedSimpArgs false
set_option linter.unusedVariables false
set_option maxRecDepth 10000
open Go.V
def WAt (code:List Int) (inp:ByteArray) (H:List VObj) (w sw:Nat) (ρ:S) (so:ByteArray) (cnt:List Int):Prop :=
 ∃ m sm o s1 c sc,H[w]? = some (wkO sw (wkc ρ.pc ρ.reg (.ref m sm 0 ρ.mem.length) ρ.rd so ρ.st ρ.fin (.ref o s1 0 ρ.out.size) (insL code) (okL code) (words code) inp (.ref c sc 0 code.length))) ∧
  H[m]? = some ⟨sm,56,1,ρ.mem.map U32⟩∧H[o]? = some ⟨s1,5,1,ρ.out.data.toList.map U8⟩∧H[c]? = some ⟨sc,3,1,cnt.map I⟩∧cnt.length=code.length
theorem wput {code:List Int} {inp:ByteArray} {H:List VObj} {w sw m sm o s1 c sc:Nat} {mem:List Int} {out so:ByteArray} {cnt:List Int} {pc:Int} {f:Nat→Int} {rd st fin:Int} (hlt:w<H.length) (hm:H[m]? = some ⟨sm,56,1,mem.map U32⟩)
 (ho:H[o]? = some ⟨s1,5,1,out.data.toList.map U8⟩) (hc:H[c]? = some ⟨sc,3,1,cnt.map I⟩) (nm:w≠m) (no:w≠o) (nc:w≠c) (hl:cnt.length=code.length) :
 WAt code inp (H.set w (wkO sw (wkc pc f (.ref m sm 0 mem.length) rd so st fin (.ref o s1 0 out.size) (insL code) (okL code) (words code) inp (.ref c sc 0 code.length)))) w sw ⟨pc,f,mem,rd,out,st,fin⟩ so cnt :=
 ⟨m,sm,o,s1,c,sc,by rw[List.getElem?_set,if_pos rfl,if_pos hlt],by rw[List.getElem?_set,if_neg nm];exact hm,by rw[List.getElem?_set,if_neg no];exact ho,by rw[List.getElem?_set,if_neg nc];exact hc,hl⟩
def KeepS (H H':List VObj):Prop:=∀ (id:Nat) (ob:VObj),H[id]? = some ob→ob.ty=83→H'[id]? = some ob
def cntS (code:List Int) (ρ:S) (cnt:List Int):List Int:=if doneF code ρ=true then cnt.set ρ.pc.toNat (cnt.getD ρ.pc.toNat default+1) else cnt
set_option maxHeartbeats 2000000 in
theorem wstep_v (code:List Int) (inp:ByteArray) (ρ:S) (so:ByteArray) (cnt:List Int) (H:List VObj) (nx w sw:Nat) (C:AV→List VObj→Nat→Prop)
 (hcode:∀ x ∈ code,In32 x) (hcl:code.length≤1000000) (hi:inp.size≤1000000000) (hws:Wf ρ) (hl:ρ.mem.length≤1000000) (hol:ρ.out.size≤1000000) (hf0:ρ.fin=0) (hcb:∀ x ∈ cnt,0≤x∧x≤4000000000000000000)
 (hA:WAt code inp H w sw ρ so cnt) (hC:∀ r H' nx',KeepS H H'→WAt code inp H' w sw (stepF code inp ρ) so (cntS code ρ cnt)→C r H' nx') :
 VCall Tryz.prog 84 [.ptr w sw 0] H nx C:=by
 refine VCall.of_bodyQ hmix s_scref10_work_step (by simp) ?_
 obtain ⟨pc,f,mem,rd,out,st,fin⟩:=ρ
 simp only at hf0 hl hol
 subst hf0
 have hf:∀ k,In32 (f k):=hws.reg
 obtain ⟨m,sm,o,s1,c,sc,hw,hm,ho,hc,hcc⟩:=hA
 simp only at hw hm ho
 have hlt:=(List.getElem?_eq_some_iff.1 hw).1
 have nm:w≠m:=fun e=>by rw[← e,hw]at hm;simp at hm
 have no:w≠o:=fun e=>by rw[← e,hw]at ho;simp at ho
 have nc:w≠c:=fun e=>by rw[← e,hw]at hc;simp at hc
 have ncm:c≠m:=fun e=>by rw[← e,hc]at hm;simp at hm
 have nco:c≠o:=fun e=>by rw[← e,hc]at ho;simp at ho
 have nmo:m≠o:=fun e=>by rw[← e,hm]at ho;simp at ho
 have hclt:=(List.getElem?_eq_some_iff.1 hc).1
 have kA:∀ (id:Nat) (ob:VObj),H[id]? = some ob→ob.ty=83→id≠w∧id≠m∧id≠o∧id≠c∧id<H.length:=fun id ob h1 h2=>by
  refine ⟨fun e=>?_,fun e=>?_,fun e=>?_,fun e=>?_,(List.getElem?_eq_some_iff.1 h1).1⟩
  ·rw[e,hw]at h1;cases h1;simp at h2
  ·rw[e,hm]at h1;cases h1;simp at h2
  ·rw[e,ho]at h1;cases h1;simp at h2
  ·rw[e,hc]at h1;cases h1;simp at h2
 have kp0:∀ y,KeepS H (H.set w y):=fun y id ob h1 h2=>by
  rw[List.getElem?_set,if_neg (fun e=>(kA id ob h1 h2).1 e.symm)];exact h1
 have gA:∀ a,(H.set w a)[w]? = some a:=fun a=>by rw[List.getElem?_set,if_pos rfl,if_pos hlt]
 have hcdl:((code.map insC).map AV.agg).length=code.length:=by simp
 by_cases h2:pc<0
 ·have e1:stepF code inp ⟨pc,f,mem,rd,out,st,0⟩=⟨pc,f,mem,rd,out,st,7⟩:=by unfold stepF;rw[if_pos rfl,if_pos (.inl h2)]
  have e2:doneF code ⟨pc,f,mem,rd,out,st,0⟩=false:=by simp[doneF];omega
  simp only[go_sem,r_scref10_work_step,hw,wkc_length,k_pc,ks_fin,eq_true h2]
  repeat (refine And.intro (by omega) ?_)
  refine hC _ _ _ (kp0 _) ?_
  rw[e1,cntS,if_neg (by rw[e2];simp)]
  exact wput hlt hm ho hc nm no nc hcc
 by_cases h3:(code.length:Int)≤pc
 ·have e1:stepF code inp ⟨pc,f,mem,rd,out,st,0⟩=⟨pc,f,mem,rd,out,st,7⟩:=by unfold stepF;rw[if_pos rfl,if_pos (.inr h3)]
  have e2:doneF code ⟨pc,f,mem,rd,out,st,0⟩=false:=by simp[doneF];omega
  simp only[go_sem,r_scref10_work_step,hw,wkc_length,k_pc,k_cd,ks_fin,hcdl,eq_false h2,eq_true h3]
  repeat (refine And.intro (by omega) ?_)
  refine hC _ _ _ (kp0 _) ?_
  rw[e1,cntS,if_neg (by rw[e2];simp)]
  exact wput hlt hm ho hc nm no nc hcc
 have e2:doneF code ⟨pc,f,mem,rd,out,st,0⟩=true:=by simp[doneF];omega
 obtain ⟨W,hW⟩:∃ W,code.getD pc.toNat default=W:=⟨_,rfl⟩
 have hpl:pc.toNat<code.length:=by omega
 have hW32:In32 W:=by
  rw[← hW];exact hcode _ (mem_getD (by omega))
 obtain ⟨t,ht⟩:∃ t,IntKind.i64.wrap (st+1)=t:=⟨_,rfl⟩
 have e1:stepF code inp ⟨pc,f,mem,rd,out,st,0⟩=wordF code inp ⟨pc,f,mem,rd,out,t,0⟩ W:=by unfold stepF;rw[if_pos rfl,if_neg (fun q=>q.elim h2 h3),hW,← ht]
 obtain ⟨x,hx⟩:∃ x,cnt.getD pc.toNat default=x:=⟨_,rfl⟩
 have hxb:0≤x∧x≤4000000000000000000:=by
  rw[← hx,List.getD_eq_getElem?_getD,List.getElem?_eq_getElem (by omega)]
  exact hcb _ (List.getElem_mem _)
 have hxw:IntKind.i64.wrap (x+1)=x+1:=i64_in (by omega) (by omega)
 have e5:cntS code ⟨pc,f,mem,rd,out,st,0⟩ cnt=cnt.set pc.toNat (x+1):=by rw[cntS,if_pos e2,hx]
 have hgi:(code.map insC).getD pc.toNat default=insC W:=by
  rw[List.getD_eq_getElem?_getD,List.getElem?_map,List.getElem?_eq_getElem hpl,← hW,List.getD_eq_getElem?_getD,List.getElem?_eq_getElem hpl];rfl
 have hgo:(code.map fun w=>B (okW w)).getD pc.toNat default=B (okW W):=by
  rw[List.getD_eq_getElem?_getD,List.getElem?_map,List.getElem?_eq_getElem hpl,← hW,List.getD_eq_getElem?_getD,List.getElem?_eq_getElem hpl];rfl
 have gB:∀ a,(H.set w a)[c]? = some ⟨sc,3,1,cnt.map I⟩:=fun a=>by rw[List.getElem?_set,if_neg nc];exact hc
 have gC:∀ a b,((H.set w a).set c b)[w]? = some a:=fun a b=>by rw[List.getElem?_set,if_neg (fun e=>nc e.symm)];exact gA a
 have gD:∀ a b z,((H.set w a).set c b++[z])[w]? = some a:=fun a b z=>by rw[List.getElem?_append_left (by simp;omega)];exact gC a b
 have gE:∀ a b (z:VObj),((H.set w a).set c b++[z])[H.length]? = some z:=fun a b z=>by
  rw[List.getElem?_append_right (by simp)];simp
 have sE:∀ a b (z x:VObj),((H.set w a).set c b++[z]).set H.length x=(H.set w a).set c b++[x]:=fun a b z x=>by
  rw[List.set_append_right _ _ (by simp)];simp
 simp only[go_sem,r_scref10_work_step,hw,gA,gB,gC,gD,gE,sE,List.length_set,wkc_length,k_pc,k_st,k_cd,k_ct,ks_st,hcdl,set_map,hcc,hx,hxw,ht,eq_false h2,eq_false h3,hgi,insC_len,eq_true hlt]
 repeat (refine And.intro (by omega) ?_)
 refine ⟨insC_one W,?_⟩
 rw[k_ok]
 refine ⟨rfl,?_⟩
 have hdr:insC W++List.drop (insC W).length [I 0,I 0,I 0,I 0]=insC W:=by
  rw[insC_len];exact List.append_nil _
 simp only[List.length_set,sE,set_map,ht,hxw,Nat.zero_add,hdr]
 have hw3:=gD (wkO sw (wkc pc f (.ref m sm 0 mem.length) rd so t 0 (.ref o s1 0 out.size) (insL code) (okL code) (words code) inp (.ref c sc 0 code.length))) ⟨sc,3,1,(cnt.set pc.toNat (x+1)).map I⟩ ⟨nx,55,1,insC W⟩
 have hi3:=gE (wkO sw (wkc pc f (.ref m sm 0 mem.length) rd so t 0 (.ref o s1 0 out.size) (insL code) (okL code) (words code) inp (.ref c sc 0 code.length))) ⟨sc,3,1,(cnt.set pc.toNat (x+1)).map I⟩ ⟨nx,55,1,insC W⟩
 have hm3:((H.set w (wkO sw (wkc pc f (.ref m sm 0 mem.length) rd so t 0 (.ref o s1 0 out.size) (insL code) (okL code) (words code) inp (.ref c sc 0 code.length)))).set c ⟨sc,3,1,(cnt.set pc.toNat (x+1)).map I⟩++[⟨nx,55,1,insC W⟩])[m]? = some ⟨sm,56,1,mem.map U32⟩:=by
  rw[List.getElem?_append_left (by simp;exact (List.getElem?_eq_some_iff.1 hm).1),List.getElem?_set,if_neg ncm,List.getElem?_set,if_neg nm];exact hm
 have ho3:((H.set w (wkO sw (wkc pc f (.ref m sm 0 mem.length) rd so t 0 (.ref o s1 0 out.size) (insL code) (okL code) (words code) inp (.ref c sc 0 code.length)))).set c ⟨sc,3,1,(cnt.set pc.toNat (x+1)).map I⟩++[⟨nx,55,1,insC W⟩])[o]? = some ⟨s1,5,1,out.data.toList.map U8⟩:=by
  rw[List.getElem?_append_left (by simp;exact (List.getElem?_eq_some_iff.1 ho).1),List.getElem?_set,if_neg nco,List.getElem?_set,if_neg no];exact ho
 have hc3:((H.set w (wkO sw (wkc pc f (.ref m sm 0 mem.length) rd so t 0 (.ref o s1 0 out.size) (insL code) (okL code) (words code) inp (.ref c sc 0 code.length)))).set c ⟨sc,3,1,(cnt.set pc.toNat (x+1)).map I⟩++[⟨nx,55,1,insC W⟩])[c]? = some ⟨sc,3,1,(cnt.set pc.toNat (x+1)).map I⟩:=by
  rw[List.getElem?_append_left (by simp;exact hclt),List.getElem?_set,if_pos rfl,if_pos (by simp;exact hclt)]
 have kB:KeepS H ((H.set w (wkO sw (wkc pc f (.ref m sm 0 mem.length) rd so t 0 (.ref o s1 0 out.size) (insL code) (okL code) (words code) inp (.ref c sc 0 code.length)))).set c ⟨sc,3,1,(cnt.set pc.toNat (x+1)).map I⟩++[⟨nx,55,1,insC W⟩]):=fun id ob h1 h2=>by
  obtain ⟨i1,i2,i3,i4,i5⟩:=kA id ob h1 h2
  rw[List.getElem?_append_left (by simp;exact i5),List.getElem?_set,if_neg (fun e=>i4 e.symm),List.getElem?_set,if_neg (fun e=>i1 e.symm)];exact h1
 clear gA gB gC gD gE sE hdr
 generalize (H.set w (wkO sw (wkc pc f (.ref m sm 0 mem.length) rd so t 0 (.ref o s1 0 out.size) (insL code) (okL code) (words code) inp (.ref c sc 0 code.length)))).set c ⟨sc,3,1,(cnt.set pc.toNat (x+1)).map I⟩++[⟨nx,55,1,insC W⟩]=H3 at *
 have nwi:w≠H.length:=by omega
 have nmi:m≠H.length:=by have:=(List.getElem?_eq_some_iff.1 hm).1;omega
 have noi:o≠H.length:=by have:=(List.getElem?_eq_some_iff.1 ho).1;omega
 generalize H.length=i at *
 clear hw hm ho hc hlt hclt
 have hlt3:=(List.getElem?_eq_some_iff.1 hw3).1
 have hilt:=(List.getElem?_eq_some_iff.1 hi3).1
 have hmlt:=(List.getElem?_eq_some_iff.1 hm3).1
 have kp:∀ y,KeepS H (H3.set w y):=fun y id ob h1 h2=>by
  rw[List.getElem?_set,if_neg (fun e=>(kA id ob h1 h2).1 e.symm)];exact kB id ob h1 h2
 have kp2:∀ y z,KeepS H ((H3.set m y).set w z):=fun y z id ob h1 h2=>by
  rw[List.getElem?_set,if_neg (fun e=>(kA id ob h1 h2).1 e.symm),List.getElem?_set,if_neg (fun e=>(kA id ob h1 h2).2.1 e.symm)];exact kB id ob h1 h2
 have kp3:∀ y z u,KeepS H (((H3++[y]).set o z).set w u):=fun y z u id ob h1 h2=>by
  have h3:=kB id ob h1 h2
  rw[List.getElem?_set,if_neg (fun e=>(kA id ob h1 h2).1 e.symm),List.getElem?_set,if_neg (fun e=>(kA id ob h1 h2).2.2.1 e.symm),List.getElem?_append_left (List.getElem?_eq_some_iff.1 h3).1];exact h3
 have gw:∀ y,(H3.set w y)[w]? = some y:=fun y=>by rw[List.getElem?_set,if_pos rfl,if_pos hlt3]
 have hc5:(cnt.set pc.toNat (x+1)).length=code.length:=by rw[List.length_set];exact hcc
 have hone:(wkc pc f (.ref m sm 0 mem.length) rd so t 0 (.ref o s1 0 out.size) (insL code) (okL code) (words code) inp (.ref c sc 0 code.length)).all AV.one=true:=by rw[wkc_all];rfl
 rw[e1,e5]at hC
 cases hok:okW W
 ·have e3:wordF code inp ⟨pc,f,mem,rd,out,t,0⟩ W=⟨pc,f,mem,rd,out,t,6⟩:=by unfold wordF;rw[hok];rfl
  rw[e3]at hC
  simp only[go_sem,hw3,wkc_length,k_pc,ks_fin,hW,hok]
  repeat (refine And.intro (by omega) ?_)
  exact hC _ _ _ (kp _) (wput hlt3 hm3 ho3 hc3 nm no nc hc5)
 have e3:wordF code inp ⟨pc,f,mem,rd,out,t,0⟩ W=(if (insM code inp ⟨pc,f,mem,rd,out,t,0⟩ (opW W) (raW W) (rbW W) (kW W)).1=0 then (insM code inp ⟨pc,f,mem,rd,out,t,0⟩ (opW W) (raW W) (rbW W) (kW W)).2
  else { (insM code inp ⟨pc,f,mem,rd,out,t,0⟩ (opW W) (raW W) (rbW W) (kW W)).2 with fin:=(insM code inp ⟨pc,f,mem,rd,out,t,0⟩ (opW W) (raW W) (rbW W) (kW W)).1 }):=by
  unfold wordF;rw[hok,if_pos rfl]
 rw[e3]at hC
 have e4:insC W=[I (opW W),I (raW W),I (rbW W),I (kW W)]:=by unfold insC;rw[hok];rfl
 rw[e4]at hi3
 have hok':=okI_in hok
 clear e3 e1 hws hcode hcb
 generalize opW W=op at *
 generalize raW W=a at *
 generalize rbW W=b at *
 generalize kW W=k at *
 obtain ⟨g1,g2,ga1,ga2,gb1,gb2,gc1,gc2,gc⟩:=hok'
 have ja:a.toNat<16:=by omega
 have jb:b.toNat<16:=by omega
 have ec:IntKind.u32.wrap k=k:=w32_in ⟨by omega,by omega⟩
 have gi:∀ y,(H3.set w y)[i]? = some ⟨nx,55,1,[I op,I a,I b,I k]⟩:=fun y=>by rw[List.getElem?_set,if_neg nwi];exact hi3
 have hsl:(H3.set w (wkO sw (wkc pc f (.ref m sm 0 mem.length) rd so t 0 (.ref o s1 0 out.size) (insL code) (okL code) (words code) inp (.ref c sc 0 code.length))))=H3:=set_of_getR hw3
 have hfm:∀ (H':List VObj) (nx':Nat),(∀ id ob,CallA true H3.length id→H3[id]? = some ob→H'[id]? = some ob)→FrzL 0 H' nx' [.ref m sm 0 mem.length,U32 (f b.toNat),I k] [words mem,U32 (f b.toNat),I k]:=fun H' nx' hH=>by
  refine ⟨_,_,rfl,Frz.ref (Nat.zero_le _) (hH m _ ⟨rfl,hmlt⟩ hm3) rfl rfl ?_ ?_,_,_,rfl,Frz.pure rfl,_,_,rfl,Frz.pure rfl,rfl⟩
  ·rw[List.all_eq_true];intro y hy;obtain ⟨x,_,rfl⟩:=List.mem_map.1 hy;rfl
  ·rw[List.drop_zero,List.take_of_length_le (by simp)]
   exact FrzL.pure (by rw[List.all_eq_true];intro y hy;obtain ⟨x,_,rfl⟩:=List.mem_map.1 hy;rfl)
 by_cases hap:4≤op∧op≤15
 ·have hc15:k≤15:=gc (by unfold cK;rw[if_pos hap])
  have jc:k.toNat<16:=by omega
  have hins:insM code inp ⟨pc,f,mem,rd,out,t,0⟩ op a b k=(if (applyW op (f b.toNat) (f k.toNat)).2=0 then (0,setR ⟨pc,f,mem,rd,out,t,0⟩ a (applyW op (f b.toNat) (f k.toNat)).1) else (2,⟨pc,f,mem,rd,out,t,0⟩)):=by
   unfold insM
   iterate 15 rw[if_neg (by omega)]
  rw[hins]at hC
  simp only[go_sem,hw3,hi3,k_pc,k_reg ja,k_reg jb,hW,hok,k_reg jc,eq_true hlt3,eq_true hilt,eq_false (show ¬ op=1 by omega),eq_false (show ¬ op=2 by omega),eq_false (show ¬ op=3 by omega),eq_false (show ¬ op=16 by omega),eq_false (show ¬ op=17 by omega),eq_false (show ¬ op=18 by omega),eq_false (show ¬ op=19 by omega),eq_false (show ¬ op=20 by omega),eq_false (show ¬ op=21 by omega),eq_false (show ¬ op=22 by omega),eq_false (show ¬ op=23 by omega),eq_false (show ¬ op=24 by omega),eq_false (show ¬ op=25 by omega),eq_false (show ¬ op=26 by omega),eq_false (show ¬ op=27 by omega)]
  repeat (refine And.intro (by omega) ?_)
  refine ECall.of (refapply_c op (f b.toNat) (f k.toNat) (hf _) (hf _)) (SleL.pure rfl) ⟨_,fun _=>Iff.rfl⟩ fun x hx=>?_
  subst hx
  generalize applyW op (f b.toNat) (f k.toNat)=q at *
  by_cases hp:q.2=0
  ·rw[if_pos hp]at hC
   simp only[go_sem,hi3,hW,hok,eq_true hp]
   repeat (refine And.intro (by omega) ?_)
   refine wset_v a q.1 ⟨ga1,ga2⟩ hw3 hone fun r=>?_
   simp only[go_sem]
   exact hC _ _ _ (kp _) (wput hlt3 hm3 ho3 hc3 nm no nc hc5)
  ·rw[if_neg hp]at hC
   simp only[go_sem,hw3,wkc_length,ks_fin,hW,hok,eq_false hp]
   repeat (refine And.intro (by omega) ?_)
   exact hC _ _ _ (kp _) (wput hlt3 hm3 ho3 hc3 nm no nc hc5)
 have hcases:op=1∨op=2∨op=3∨op=16∨op=27∨op=17∨op=18∨op=19∨op=20∨op=21∨op=22∨op=23∨op=24∨op=25∨op=26:=by omega
 rcases hcases with rfl | rfl | rfl | rfl | rfl | rfl | rfl | rfl | rfl | rfl | rfl | rfl | rfl | rfl | rfl
 ·
  simp only[go_sem,hw3,hi3,k_pc,k_reg ja,ec,hW,hok,Int.reduceBEq]
  repeat (refine And.intro (by omega) ?_)
  refine wset_v a k ⟨ga1,ga2⟩ hw3 hone fun r=>?_
  simp only[go_sem]
  exact hC _ _ _ (kp _) (wput hlt3 hm3 ho3 hc3 nm no nc hc5)
 ·
  have hq:IntKind.u32.wrap ((f a.toNat).tmod 65536+IntKind.u32.wrap (k*65536))=f a.toNat % 65536+k*65536:=by
   have h0:=(hf a.toNat).1
   have h1:=(hf a.toNat).2
   rw[Int.tmod_eq_emod_of_nonneg h0,IntKind.wrap_u32,IntKind.wrap_u32];omega
  simp only[go_sem,hw3,hi3,k_pc,k_reg ja,ec,hW,hok,Int.reduceEq,Int.reduceBEq,hq]
  repeat (refine And.intro (by omega) ?_)
  refine wset_v a (f a.toNat % 65536+k*65536) ⟨ga1,ga2⟩ hw3 hone fun r=>?_
  simp only[go_sem]
  exact hC _ _ _ (kp _) (wput hlt3 hm3 ho3 hc3 nm no nc hc5)
 ·
  simp only[go_sem,hw3,hi3,k_pc,k_reg ja,k_reg jb,hW,hok,Int.reduceBEq]
  repeat (refine And.intro (by omega) ?_)
  refine wset_v a (f b.toNat) ⟨ga1,ga2⟩ hw3 hone fun r=>?_
  simp only[go_sem]
  exact hC _ _ _ (kp _) (wput hlt3 hm3 ho3 hc3 nm no nc hc5)
 ·
  simp only[go_sem,hw3,hi3,k_pc,k_mem,k_reg ja,k_reg jb,hW,hok,Int.reduceBEq,eq_true hlt3,eq_true hilt]
  repeat (refine And.intro (by omega) ?_)
  by_cases h:w32 (f b.toNat+k)<(mem.length:Int)
  ·have hins:insM code inp ⟨pc,f,mem,rd,out,t,0⟩ 16 a b k=(0,setR ⟨pc,f,mem,rd,out,t,0⟩ a (mem.getD (w32 (f b.toNat+k)).toNat default)):=if_pos h
   rw[hins]at hC
   have hfe:=fetchN_c mem (f b.toNat) k (hf _) ⟨gc1,gc2⟩ hl
   rw[if_pos h]at hfe
   refine ECall.ofN hfe hfm ⟨_,fun _=>Iff.rfl⟩ fun x hx=>?_
   subst hx
   simp only[go_sem,hi3,hW,hok]
   repeat (refine And.intro (by omega) ?_)
   refine wset_v a (mem.getD (w32 (f b.toNat+k)).toNat default) ⟨ga1,ga2⟩ hw3 hone fun r=>?_
   simp only[go_sem]
   exact hC _ _ _ (kp _) (wput hlt3 hm3 ho3 hc3 nm no nc hc5)
  ·have hins:insM code inp ⟨pc,f,mem,rd,out,t,0⟩ 16 a b k=(8,⟨pc,f,mem,rd,out,t,0⟩):=if_neg h
   rw[hins]at hC
   have hfe:=fetchN_c mem (f b.toNat) k (hf _) ⟨gc1,gc2⟩ hl
   rw[if_neg h]at hfe
   refine ECall.ofN hfe hfm ⟨_,fun _=>Iff.rfl⟩ fun x hx=>?_
   subst hx
   simp only[go_sem,hw3,wkc_length,ks_fin,hW,hok]
   repeat (refine And.intro (by omega) ?_)
   exact hC _ _ _ (kp _) (wput hlt3 hm3 ho3 hc3 nm no nc hc5)
 ·
  simp only[go_sem,hw3,hi3,k_pc,k_mem,k_wd,k_reg ja,k_reg jb,hW,hok,Int.reduceBEq,eq_true hlt3,eq_true hilt]
  repeat (refine And.intro (by omega) ?_)
  by_cases h:w32 (f b.toNat+k)<(code.length:Int)
  ·have hins:insM code inp ⟨pc,f,mem,rd,out,t,0⟩ 27 a b k=(0,setR ⟨pc,f,mem,rd,out,t,0⟩ a (code.getD (w32 (f b.toNat+k)).toNat default)):=if_pos h
   rw[hins]at hC
   have hfe:=fetchN_c code (f b.toNat) k (hf _) ⟨gc1,gc2⟩ hcl
   rw[if_pos h]at hfe
   refine ECall.ofN hfe (fun H' nx' _=>⟨_,_,rfl,Frz.pure rfl,_,_,rfl,Frz.pure rfl,_,_,rfl,Frz.pure rfl,rfl⟩) ⟨_,fun _=>Iff.rfl⟩ fun x hx=>?_
   subst hx
   simp only[go_sem,hi3,hW,hok]
   repeat (refine And.intro (by omega) ?_)
   refine wset_v a (code.getD (w32 (f b.toNat+k)).toNat default) ⟨ga1,ga2⟩ hw3 hone fun r=>?_
   simp only[go_sem]
   exact hC _ _ _ (kp _) (wput hlt3 hm3 ho3 hc3 nm no nc hc5)
  ·have hins:insM code inp ⟨pc,f,mem,rd,out,t,0⟩ 27 a b k=(8,⟨pc,f,mem,rd,out,t,0⟩):=if_neg h
   rw[hins]at hC
   have hfe:=fetchN_c code (f b.toNat) k (hf _) ⟨gc1,gc2⟩ hcl
   rw[if_neg h]at hfe
   refine ECall.ofN hfe (fun H' nx' _=>⟨_,_,rfl,Frz.pure rfl,_,_,rfl,Frz.pure rfl,_,_,rfl,Frz.pure rfl,rfl⟩) ⟨_,fun _=>Iff.rfl⟩ fun x hx=>?_
   subst hx
   simp only[go_sem,hw3,wkc_length,ks_fin,hW,hok]
   repeat (refine And.intro (by omega) ?_)
   exact hC _ _ _ (kp _) (wput hlt3 hm3 ho3 hc3 nm no nc hc5)
 ·
  obtain ⟨at_,hat⟩:∃ y,IntKind.u32.wrap (f b.toNat+k)=y:=⟨_,rfl⟩
  have hin:In32 at_:=by rw[← hat,IntKind.wrap_u32];exact ⟨by omega,by omega⟩
  obtain ⟨p1,p2⟩:=hin
  have hat':w32 (f b.toNat+k)=at_:=hat
  have q2:IntKind.u64.wrap at_=at_:=by rw[IntKind.wrap_u64];omega
  have q3:IntKind.u64.wrap (mem.length:Int)=mem.length:=by rw[IntKind.wrap_u64];omega
  have gm:∀ y,(H3.set m y)[w]? = some (wkO sw (wkc pc f (.ref m sm 0 mem.length) rd so t 0 (.ref o s1 0 out.size) (insL code) (okL code) (words code) inp (.ref c sc 0 code.length))):=fun y=>by rw[List.getElem?_set,if_neg (fun e=>nm e.symm)];exact hw3
  have gm2:∀ y z,((H3.set m y).set w z)[w]? = some z:=fun y z=>by rw[List.getElem?_set,if_pos rfl,if_pos (by rw[List.length_set];exact hlt3)]
  by_cases h:at_<(mem.length:Int)
  ·have hins:insM code inp ⟨pc,f,mem,rd,out,t,0⟩ 17 a b k=(0,⟨nxtM ⟨pc,f,mem,rd,out,t,0⟩,f,mem.set at_.toNat (f a.toNat),rd,out,t,0⟩):=by
    have h':w32 (f b.toNat+k)<(mem.length:Int):=by rw[hat'];exact h
    rw[← hat'];exact if_pos h'
   rw[hins]at hC
   simp only[go_sem,hw3,hi3,set_map,wkc_length,k_pc,k_mem,k_reg ja,k_reg jb,ks_pc,ec,hW,hok,Int.reduceBEq,hat,q2,q3,hm3,gm,eq_false (show ¬ (mem.length:Int)≤at_ by omega)]
   repeat (refine And.intro (by first | omega | simp) ?_)
   refine hC _ _ _ (kp2 _ _) ?_
   have:=wput (code:=code) (inp:=inp) (H:=H3.set m ⟨sm,56,1,(mem.set at_.toNat (f a.toNat)).map U32⟩) (w:=w) (sw:=sw) (m:=m) (sm:=sm) (o:=o) (s1:=s1) (c:=c) (sc:=sc) (mem:=mem.set at_.toNat (f a.toNat)) (out:=out) (so:=so) (cnt:=cnt.set pc.toNat (x+1)) (pc:=IntKind.i64.wrap (pc+1)) (f:=f) (rd:=rd) (st:=t) (fin:=0)
    (by rw[List.length_set];exact hlt3) (by rw[List.getElem?_set,if_pos rfl,if_pos hmlt]) (by rw[List.getElem?_set,if_neg nmo];exact ho3) (by rw[List.getElem?_set,if_neg (fun e=>ncm e.symm)];exact hc3) nm no nc hc5
   rw[List.length_set]at this
   exact this
  ·have hins:insM code inp ⟨pc,f,mem,rd,out,t,0⟩ 17 a b k=(8,⟨pc,f,mem,rd,out,t,0⟩):=by
    have h':¬ w32 (f b.toNat+k)<(mem.length:Int):=by rw[hat'];exact h
    exact if_neg h'
   rw[hins]at hC
   simp only[go_sem,hw3,hi3,wkc_length,k_pc,k_mem,k_reg ja,k_reg jb,ks_fin,ec,hW,hok,Int.reduceBEq,hm3,hat,q2,q3,eq_true (show (mem.length:Int)≤at_ by omega)]
   repeat (refine And.intro (by omega) ?_)
   exact hC _ _ _ (kp _) (wput hlt3 hm3 ho3 hc3 nm no nc hc5)
 ·
  simp only[go_sem,hw3,hi3,wkc_length,k_pc,k_reg ja,ks_pc,hW,hok,Int.reduceBEq]
  repeat (refine And.intro (by omega) ?_)
  exact hC _ _ _ (kp _) (wput hlt3 hm3 ho3 hc3 nm no nc hc5)
 ·
  simp only[go_sem,hw3,hi3,k_pc,k_reg ja,hW,hok,Int.reduceBEq]
  repeat (refine And.intro (by omega) ?_)
  refine wjump_v _ k hw3 fun r=>?_
  simp only[go_sem]
  refine hC _ _ _ (kp _) ?_
  by_cases hz:f a.toNat=0
  ·have hins:insM code inp ⟨pc,f,mem,rd,out,t,0⟩ 19 a b k=(0,⟨k,f,mem,rd,out,t,0⟩):=by show (0,S.mk (if f a.toNat=0 then _ else _) f mem rd out t 0)=_;rw[if_pos hz]<;>rfl
   rw[hins]
   simp only[hz,if_true]
   exact wput hlt3 hm3 ho3 hc3 nm no nc hc5
  ·have hins:insM code inp ⟨pc,f,mem,rd,out,t,0⟩ 19 a b k=(0,⟨(IntKind.i64.wrap (pc+1)),f,mem,rd,out,t,0⟩):=by show (0,S.mk (if f a.toNat=0 then _ else _) f mem rd out t 0)=_;rw[if_neg hz]<;>rfl
   rw[hins]
   simp only[eq_false hz,if_false,if_true]
   exact wput hlt3 hm3 ho3 hc3 nm no nc hc5
 ·
  simp only[go_sem,hw3,hi3,k_pc,k_reg ja,hW,hok,Int.reduceBEq]
  repeat (refine And.intro (by omega) ?_)
  refine wjump_v _ k hw3 fun r=>?_
  simp only[go_sem]
  refine hC _ _ _ (kp _) ?_
  by_cases hz:f a.toNat=0
  ·have hins:insM code inp ⟨pc,f,mem,rd,out,t,0⟩ 20 a b k=(0,⟨(IntKind.i64.wrap (pc+1)),f,mem,rd,out,t,0⟩):=by show (0,S.mk (if f a.toNat=0 then _ else _) f mem rd out t 0)=_;rw[if_pos hz]<;>rfl
   rw[hins]
   simp only[hz]
   exact wput hlt3 hm3 ho3 hc3 nm no nc hc5
  ·have hins:insM code inp ⟨pc,f,mem,rd,out,t,0⟩ 20 a b k=(0,⟨k,f,mem,rd,out,t,0⟩):=by show (0,S.mk (if f a.toNat=0 then _ else _) f mem rd out t 0)=_;rw[if_neg hz]<;>rfl
   rw[hins]
   simp only[eq_false hz,if_true,not_false_eq_true]
   exact wput hlt3 hm3 ho3 hc3 nm no nc hc5
 ·
  have hq:IntKind.u32.wrap (IntKind.u32.wrap pc+1)=w32 (nxtM ⟨pc,f,mem,rd,out,t,0⟩):=by
   simp only[w32,nxtM];rw[IntKind.wrap_u32,IntKind.wrap_u32,IntKind.wrap_u32,IntKind.wrap_i64];omega
  simp only[go_sem,hw3,hi3,gw,gi,List.set_set,wkc_length,k_pc,k_reg ja,ks_pc,ks_reg ja,hW,hok,Int.reduceBEq,hq]
  repeat (refine And.intro (by omega) ?_)
  exact hC _ _ _ (kp _) (wput hlt3 hm3 ho3 hc3 nm no nc hc5)
 ·
  have hq:IntKind.i64.wrap (f a.toNat)=f a.toNat:=by
   have:=hf a.toNat
   exact i64_in (by have:=this.1;omega) (by have:=this.2;omega)
  simp only[go_sem,hw3,hi3,wkc_length,k_pc,k_reg ja,ks_pc,hW,hok,Int.reduceBEq,hq]
  repeat (refine And.intro (by omega) ?_)
  exact hC _ _ _ (kp _) (wput hlt3 hm3 ho3 hc3 nm no nc hc5)
 ·
  by_cases r1:rd<0
  ·have hins:insM code inp ⟨pc,f,mem,rd,out,t,0⟩ 23 a b k=(0,setR ⟨pc,f,mem,rd,out,t,0⟩ a 256):=by
    show (0,if rd<0∨(inp.size:Int)≤rd then _ else _)=_;rw[if_pos (.inl r1)]
   rw[hins]at hC
   simp only[go_sem,hw3,hi3,k_pc,k_rd,k_reg ja,hW,hok,Int.reduceBEq,eq_true r1]
   repeat (refine And.intro (by omega) ?_)
   refine wset_v a 256 ⟨ga1,ga2⟩ hw3 hone fun r=>?_
   simp only[go_sem]
   exact hC _ _ _ (kp _) (wput hlt3 hm3 ho3 hc3 nm no nc hc5)
  by_cases r2:(inp.size:Int)≤rd
  ·have hins:insM code inp ⟨pc,f,mem,rd,out,t,0⟩ 23 a b k=(0,setR ⟨pc,f,mem,rd,out,t,0⟩ a 256):=by
    show (0,if rd<0∨(inp.size:Int)≤rd then _ else _)=_;rw[if_pos (.inr r2)]
   rw[hins]at hC
   simp only[go_sem,hw3,hi3,k_pc,k_rd,k_in,k_reg ja,hW,hok,Int.reduceBEq,eq_false r1,eq_true r2]
   repeat (refine And.intro (by omega) ?_)
   refine wset_v a 256 ⟨ga1,ga2⟩ hw3 hone fun r=>?_
   simp only[go_sem]
   exact hC _ _ _ (kp _) (wput hlt3 hm3 ho3 hc3 nm no nc hc5)
  ·have hins:insM code inp ⟨pc,f,mem,rd,out,t,0⟩ 23 a b k=(0,setR ⟨pc,f,mem,IntKind.i64.wrap (rd+1),out,t,0⟩ a (byteAt inp rd.toNat)):=by
    show (0,if rd<0∨(inp.size:Int)≤rd then _ else _)=_;rw[if_neg (by omega)]
   rw[hins]at hC
   have hb:IntKind.u32.wrap (byteAt inp rd.toNat)=byteAt inp rd.toNat:=by
    refine w32_in ⟨?_,?_⟩<;>unfold byteAt
    ·omega
    ·have:=(inp.data.toList.getD rd.toNat 0).toNat_lt;omega
   simp only[go_sem,hw3,hi3,gi,wkc_length,k_pc,k_rd,k_in,k_reg ja,ks_rd,hW,hok,Int.reduceBEq,eq_false r1,eq_false r2,hb]
   repeat (refine And.intro (by omega) ?_)
   refine wset_v a (byteAt inp rd.toNat) ⟨ga1,ga2⟩ (gw _) (by rw[wkc_all];rfl) fun r=>?_
   rw[List.set_set]
   simp only[go_sem]
   exact hC _ _ _ (kp _) (wput hlt3 hm3 ho3 hc3 nm no nc hc5)
 ·
  by_cases h:65536≤out.size
  ·have hins:insM code inp ⟨pc,f,mem,rd,out,t,0⟩ 24 a b k=(4,⟨pc,f,mem,rd,out,t,0⟩):=if_pos h
   rw[hins]at hC
   simp only[go_sem,hw3,hi3,wkc_length,k_pc,k_o,k_reg ja,ks_fin,hW,hok,Int.reduceBEq,ho3,eq_true (show (65536:Int)≤(out.size:Int) by omega)]
   repeat (refine And.intro (by omega) ?_)
   exact hC _ _ _ (kp _) (wput hlt3 hm3 ho3 hc3 nm no nc hc5)
  ·have hins:insM code inp ⟨pc,f,mem,rd,out,t,0⟩ 24 a b k=(0,⟨nxtM ⟨pc,f,mem,rd,out,t,0⟩,f,mem,rd,out.push (byteOf (f a.toNat)),t,0⟩):=if_neg h
   rw[hins]at hC
   have hby:(AV.val (.int .u8 (IntKind.u8.wrap ((f a.toNat).tmod 256))))=U8 (byteOf (f a.toNat)):=by
    have h0:=(hf a.toNat).1
    have e:=byteOf_eq (f a.toNat)
    show AV.val (.int .u8 (IntKind.u8.wrap ((f a.toNat).tmod 256)))=AV.val (.int .u8 (((byteOf (f a.toNat)).toNat:Nat):Int))
    rw[e,Int.tmod_eq_emod_of_nonneg h0,IntKind.wrap_u8,IntKind.wrap_u8,Int.emod_emod]
   have holt:=(List.getElem?_eq_some_iff.1 ho3).1
   have X1:∀ y,(H3++[y])[o]? = some ⟨s1,5,1,out.data.toList.map U8⟩:=fun y=>by rw[List.getElem?_append_left holt];exact ho3
   have X2:∀ y z,((H3++[y]).set o z)[w]? = some (wkO sw (wkc pc f (.ref m sm 0 mem.length) rd so t 0 (.ref o s1 0 out.size) (insL code) (okL code) (words code) inp (.ref c sc 0 code.length))):=fun y z=>by
    rw[List.getElem?_set,if_neg (fun e=>no e.symm),List.getElem?_append_left hlt3];exact hw3
   have X3:∀ y z u,(((H3++[y]).set o z).set w u)[w]? = some u:=fun y z u=>by rw[List.getElem?_set,if_pos rfl,if_pos (by simp;omega)]
   have X4:∀ y:VObj,(H3++[y])[w]? = some (wkO sw (wkc pc f (.ref m sm 0 mem.length) rd so t 0 (.ref o s1 0 out.size) (insL code) (okL code) (words code) inp (.ref c sc 0 code.length))):=fun y=>by
    rw[List.getElem?_append_left hlt3];exact hw3
   have X5:∀ y:VObj,(H3++[y])[H3.length]? = some y:=fun y=>by rw[List.getElem?_append_right (Nat.le_refl _),Nat.sub_self];rfl
   have hall1:∀ v,allCells [U8 v]=[U8 v]:=fun v=>rfl
   have hmx:(2000000:Nat)≤maxLen:=by decide
   have hol2:out.data.toList.length=out.size:=rfl
   have htk:(out.data.toList.map U8).take out.size=out.data.toList.map U8:=List.take_of_length_le (by rw[List.length_map];exact Nat.le_refl _)
   simp only[go_sem,hw3,hi3,List.set_set,wkc_length,k_pc,k_o,k_reg ja,ks_pc,ks_o,hW,hok,Int.reduceEq,Int.reduceBEq,eq_false (show ¬ (65536:Int)≤(out.size:Int) by omega),hby,ho3,X1,X2,X3,X5,htk]
   repeat (refine And.intro (by first | omega | simp) ?_)
   have hp1:(out.push (byteOf (f a.toNat))).size=out.size+1:=ByteArray.size_push ..
   have hp2:(out.push (byteOf (f a.toNat))).data.toList.map U8=out.data.toList.map U8++[U8 (byteOf (f a.toNat))]:=by
    show (out.data.push (byteOf (f a.toNat))).toList.map U8=_
    rw[Array.toList_push,List.map_append];rfl
   have hc3l:=(List.getElem?_eq_some_iff.1 hc3).1
   refine hC _ _ _ (kp3 _ _ _) ?_
   have:=wput (code:=code) (inp:=inp) (H:=(H3++[(⟨nx+1,5,1,[U8 (byteOf (f a.toNat))]⟩:VObj)]).set o ⟨nx+1+1,5,1,out.data.toList.map U8++[U8 (byteOf (f a.toNat))]⟩) (w:=w) (sw:=sw) (m:=m) (sm:=sm) (o:=o) (s1:=nx+1+1) (c:=c) (sc:=sc) (mem:=mem) (out:=out.push (byteOf (f a.toNat))) (so:=so) (cnt:=cnt.set pc.toNat (x+1)) (pc:=IntKind.i64.wrap (pc+1)) (f:=f) (rd:=rd) (st:=t) (fin:=0)
    (by simp;omega) (by rw[List.getElem?_set,if_neg (fun e=>nmo e.symm),List.getElem?_append_left hmlt];exact hm3) (by rw[hp2,List.getElem?_set,if_pos rfl,if_pos (by simp;omega)]) (by rw[List.getElem?_set,if_neg (fun e=>nco e.symm),List.getElem?_append_left hc3l];exact hc3) nm no nc hc5
   rw[hp1]at this
   exact this
 ·
  by_cases h:f a.toNat<k
  ·have hins:insM code inp ⟨pc,f,mem,rd,out,t,0⟩ 25 a b k=(0,⟨nxtM ⟨pc,f,mem,rd,out,t,0⟩,f,mem,rd,out,t,0⟩):=if_pos h
   rw[hins]at hC
   simp only[go_sem,hw3,hi3,wkc_length,k_pc,k_reg ja,ks_pc,ec,hW,hok,Int.reduceBEq,eq_false (show ¬ k≤f a.toNat by omega)]
   repeat (refine And.intro (by omega) ?_)
   exact hC _ _ _ (kp _) (wput hlt3 hm3 ho3 hc3 nm no nc hc5)
  ·have hins:insM code inp ⟨pc,f,mem,rd,out,t,0⟩ 25 a b k=(3,⟨pc,f,mem,rd,out,t,0⟩):=if_neg h
   rw[hins]at hC
   simp only[go_sem,hw3,hi3,wkc_length,k_pc,k_reg ja,ks_fin,ec,hW,hok,Int.reduceBEq,eq_true (show k≤f a.toNat by omega)]
   repeat (refine And.intro (by omega) ?_)
   exact hC _ _ _ (kp _) (wput hlt3 hm3 ho3 hc3 nm no nc hc5)
 ·
  simp only[go_sem,hw3,hi3,wkc_length,k_pc,k_reg ja,ks_fin,hW,hok,Int.reduceBEq]
  repeat (refine And.intro (by omega) ?_)
  exact hC _ _ _ (kp _) (wput hlt3 hm3 ho3 hc3 nm no nc hc5)
set_option maxRecDepth 10000
open Go.V
theorem fold_stc {pc:Int} {f:Nat→Int} {m:AV} {rd:Int} {so:ByteArray} {st fin:Int}:I pc::(regs f++[m,I rd,strv so,I st,I fin])=stc pc f m rd so st fin:=rfl
theorem fold_wkc {pc:Int} {f:Nat→Int} {m:AV} {rd:Int} {so:ByteArray} {st fin:Int} {o cd ok wd ct:AV} {inp:ByteArray}:stc pc f m rd so st fin++[o,cd,ok,wd,strv inp,ct]=wkc pc f m rd so st fin o cd ok wd inp ct:=by
 simp[stc,wkc]
theorem stw17 {pc:Int} {f:Nat→Int} {m:AV} {rd:Int} {so:ByteArray} {st fin:Int} (x:AV):List.take 17 (stc pc f m rd so st fin)++x::List.drop 18 (stc pc f m rd so st fin)=stc pc f x rd so st fin:=rfl
theorem stw18 {pc:Int} {f:Nat→Int} {m:AV} {rd:Int} {so:ByteArray} {st fin:Int} (x:Int):List.take 18 (stc pc f m rd so st fin)++I x::List.drop 19 (stc pc f m rd so st fin)=stc pc f m x so st fin:=rfl
theorem stw20 {pc:Int} {f:Nat→Int} {m:AV} {rd:Int} {so:ByteArray} {st fin:Int} (x:Int):List.take 20 (stc pc f m rd so st fin)++I x::List.drop 21 (stc pc f m rd so st fin)=stc pc f m rd so x fin:=rfl
theorem stw21 {pc:Int} {f:Nat→Int} {m:AV} {rd:Int} {so:ByteArray} {st fin:Int} (x:Int):List.take 21 (stc pc f m rd so st fin)++I x::List.drop 22 (stc pc f m rd so st fin)=stc pc f m rd so st x:=rfl
theorem wkw22 {pc:Int} {f:Nat→Int} {m:AV} {rd:Int} {so:ByteArray} {st fin:Int} {o cd ok wd ct:AV} {inp:ByteArray} (x:AV):List.take 22 (wkc pc f m rd so st fin o cd ok wd inp ct)++x::List.drop 23 (wkc pc f m rd so st fin o cd ok wd inp ct)=wkc pc f m rd so st fin x cd ok wd inp ct:=rfl
theorem wkw23 {pc:Int} {f:Nat→Int} {m:AV} {rd:Int} {so:ByteArray} {st fin:Int} {o cd ok wd ct:AV} {inp:ByteArray} (x:AV):List.take 23 (wkc pc f m rd so st fin o cd ok wd inp ct)++x::List.drop 24 (wkc pc f m rd so st fin o cd ok wd inp ct)=wkc pc f m rd so st fin o x ok wd inp ct:=rfl
theorem wkw24 {pc:Int} {f:Nat→Int} {m:AV} {rd:Int} {so:ByteArray} {st fin:Int} {o cd ok wd ct:AV} {inp:ByteArray} (x:AV):List.take 24 (wkc pc f m rd so st fin o cd ok wd inp ct)++x::List.drop 25 (wkc pc f m rd so st fin o cd ok wd inp ct)=wkc pc f m rd so st fin o cd x wd inp ct:=rfl
theorem wkw25 {pc:Int} {f:Nat→Int} {m:AV} {rd:Int} {so:ByteArray} {st fin:Int} {o cd ok wd ct:AV} {inp:ByteArray} (x:AV):List.take 25 (wkc pc f m rd so st fin o cd ok wd inp ct)++x::List.drop 26 (wkc pc f m rd so st fin o cd ok wd inp ct)=wkc pc f m rd so st fin o cd ok x inp ct:=rfl
theorem wkw26 {pc:Int} {f:Nat→Int} {m:AV} {rd:Int} {so:ByteArray} {st fin:Int} {o cd ok wd ct:AV} {inp:ByteArray} (x:ByteArray):List.take 26 (wkc pc f m rd so st fin o cd ok wd inp ct)++strv x::List.drop 27 (wkc pc f m rd so st fin o cd ok wd inp ct)=wkc pc f m rd so st fin o cd ok wd x ct:=rfl
theorem wkw27 {pc:Int} {f:Nat→Int} {m:AV} {rd:Int} {so:ByteArray} {st fin:Int} {o cd ok wd ct:AV} {inp:ByteArray} (x:AV):List.take 27 (wkc pc f m rd so st fin o cd ok wd inp ct)++x::List.drop 28 (wkc pc f m rd so st fin o cd ok wd inp ct)=wkc pc f m rd so st fin o cd ok wd inp x:=rfl
theorem dps22 {pc:Int} {f:Nat→Int} {m:AV} {rd:Int} {so:ByteArray} {st fin:Int}:List.drop 22 (stc pc f m rd so st fin)=[]:=rfl
theorem dps28 {pc:Int} {f:Nat→Int} {m:AV} {rd:Int} {so:ByteArray} {st fin:Int} {o cd ok wd ct:AV} {inp:ByteArray}:List.drop 28 (wkc pc f m rd so st fin o cd ok wd inp ct)=[]:=rfl
theorem stw21' {pc:Int} {f:Nat→Int} {m:AV} {rd:Int} {so:ByteArray} {st fin:Int} (x:Int):List.take 21 (stc pc f m rd so st fin)++[I x]=stc pc f m rd so st x:=rfl
theorem wkw27' {pc:Int} {f:Nat→Int} {m:AV} {rd:Int} {so:ByteArray} {st fin:Int} {o cd ok wd ct:AV} {inp:ByteArray} (x:AV):List.take 27 (wkc pc f m rd so st fin o cd ok wd inp ct)++[x]=wkc pc f m rd so st fin o cd ok wd inp x:=rfl
theorem cntL_stays {code:List Int} {inp:ByteArray} {σ:S} {k:Nat} (h:(runN code inp σ k).fin≠0):∀ d,cntL code inp σ (k+d)=cntL code inp σ k
 | 0=>rfl
 | d+1=>by
  have hd:doneF code (runN code inp σ (k+d))=false:=by rw[runN_stays h d];simp[doneF,h]
  show cntL code inp σ (k+d+1)=_
  simp only[cntL,hd,Bool.false_eq_true,if_false]
  exact cntL_stays h d
structure RQR where
 k:Nat
 H:List VObj
 nx:Nat
theorem insM_out (code:List Int) (inp:ByteArray) (s:S) (op a b c:Int) (h:s.out.size≤65536):(insM code inp s op a b c).2.out.size≤65536:=by
 unfold insM
 iterate 8 (refine ite_ind (P:=fun p:Int × S=>p.2.out.size≤65536) (fun _=>h) fun _=>?_)
 iterate 3 (refine ite_ind (P:=fun p:Int × S=>p.2.out.size≤65536) (fun _=>ite_ind (P:=fun p:Int × S=>p.2.out.size≤65536) (fun _=>h) fun _=>h) fun _=>?_)
 refine ite_ind (P:=fun p:Int × S=>p.2.out.size≤65536) (fun _=>?_) fun _=>?_
 ·exact ite_ind (P:=fun x:S=>x.out.size≤65536) (fun _=>h) fun _=>h
 refine ite_ind (P:=fun p:Int × S=>p.2.out.size≤65536) (fun _=>ite_ind (P:=fun p:Int × S=>p.2.out.size≤65536) (fun _=>h) fun h2=>?_) fun _=>?_
 ·show (s.out.push _).size≤_
  rw[ByteArray.size_push];omega
 refine ite_ind (P:=fun p:Int × S=>p.2.out.size≤65536) (fun _=>ite_ind (P:=fun p:Int × S=>p.2.out.size≤65536) (fun _=>h) fun _=>h) fun _=>?_
 refine ite_ind (P:=fun p:Int × S=>p.2.out.size≤65536) (fun _=>h) fun _=>?_
 exact ite_ind (P:=fun p:Int × S=>p.2.out.size≤65536) (fun _=>h) fun _=>h
theorem stepR_out (code:List Int) (inp:ByteArray) (s:S) (h:s.out.size≤65536):(stepF code inp s).out.size≤65536:=by
 unfold stepF wordF
 refine ite_ind (P:=fun x:S=>x.out.size≤65536) (fun _=>?_) fun _=>h
 refine ite_ind (P:=fun x:S=>x.out.size≤65536) (fun _=>h) fun _=>?_
 refine ite_ind (P:=fun x:S=>x.out.size≤65536) (fun _=>?_) fun _=>h
 exact ite_ind (P:=fun x:S=>x.out.size≤65536) (fun _=>insM_out _ _ _ _ _ _ _ h) fun _=>insM_out _ _ _ _ _ _ _ h
theorem runR_out {code:List Int} {inp:ByteArray} {s:S} (h:s.out.size≤65536):∀ k,(runN code inp s k).out.size≤65536
 | 0=>h
 | k+1=>stepR_out _ _ _ (runR_out h k)
theorem refrun_tail (code:List Int) (inp:ByteArray) (σ:S) (fuel:Int) (w sw:Nat) (env:List (Nat × AV)) (H:List VObj) (nx:Nat) (cs:List AV) (C:AV→Prop)
 (hcode:∀ x ∈ code,In32 x) (hcl:code.length≤1000000) (hi:inp.size≤1000000000) (hws:Wf σ) (hl:σ.mem.length≤1000000) (hol:σ.out.size≤65536) (hfu:fuel≤4000000000000000000)
 (he3:get env 3=I fuel) (he8:get env 8 = .ptr 2 2 0) (he13:get env 13 = .ptr w sw 0) (hcs:cs.length=22) (h2:H[2]? = some ⟨2,83,1,cs⟩)
 (hA:WAt code inp H w sw σ ⟨#[]⟩ (cntL code inp σ 0)) (hC:C (.tup [stA (runN code inp σ fuel.toNat),ints (cntL code inp σ fuel.toNat)])) :
 VW Tryz.prog t_scref10_run (retQ Tryz.prog [.cell 8 true 22,.tmp 9] fun r H nx=>∃ y,Frz 0 H nx r y∧C y) ⟨env,H,nx⟩:=by
 have hwf:=runN_wf (code:=code) (inp:=inp) hcode hws
 have hcnt:=cntL_le code inp σ
 simp only[go_sem,t_scref10_run]
 refine VW_loop (fun q:RQR=>⟨[(3,I fuel),(8,.ptr 2 2 0),(13,.ptr w sw 0),(14,I q.k)],q.H,q.nx⟩)
  (fun q=>q.k≤fuel.toNat∧WAt code inp q.H w sw (runN code inp σ q.k) ⟨#[]⟩ (cntL code inp σ q.k)∧q.H[2]? = some ⟨2,83,1,cs⟩) (fun q=>fuel.toNat-q.k)
  ⟨0,H,nx⟩ (Wk.mk (fun p hp=>?_) ⟨[],(List.append_nil _).symm⟩ (Nat.le_refl _)) ⟨Nat.zero_le _,hA,h2⟩ ?_
 ·simp only[List.mem_cons,List.not_mem_nil,or_false]at hp
  rcases hp with rfl | rfl | rfl | rfl
  ·simpa [get_cons] using he3
  ·simpa [get_cons] using he8
  ·simpa [get_cons] using he13
  ·simp[get_cons]
 clear hA h2 he3 he8 he13
 rintro ⟨k,H,nx⟩ ⟨h1,hA,h2⟩
 simp only at h1 hA h2
 have hA':=hA
 obtain ⟨m,sm,o,s1,c,sc,hw,hm,ho,hc,hcc⟩:=hA'
 have fin_:runN code inp σ fuel.toNat=runN code inp σ k→cntL code inp σ fuel.toNat=cntL code inp σ k→(k:Int)<fuel→True:=fun _ _ _=>trivial
 have hlt:=(List.getElem?_eq_some_iff.1 hw).1
 have h2lt:=(List.getElem?_eq_some_iff.1 h2).1
 have nw2:w≠2:=fun e=>by rw[e,h2]at hw;simp at hw
 have nm2:m≠2:=fun e=>by rw[e,h2]at hm;simp at hm
 have no2:o≠2:=fun e=>by rw[e,h2]at ho;simp at ho
 have nc2:c≠2:=fun e=>by rw[e,h2]at hc;simp at hc
 have nm:w≠m:=fun e=>by rw[← e,hw]at hm;simp at hm
 have nc:w≠c:=fun e=>by rw[← e,hw]at hc;simp at hc
 have gw:∀ x,(H.set w x)[w]? = some x:=fun x=>by rw[List.getElem?_set,if_pos rfl,if_pos hlt]
 have g2:∀ x,(H.set w x)[2]? = some ⟨2,83,1,cs⟩:=fun x=>by rw[List.getElem?_set,if_neg nw2];exact h2
 have g3:∀ x y,((H.set w x).set 2 y)[w]? = some x:=fun x y=>by rw[List.getElem?_set,if_neg (fun e=>nw2 e.symm)];exact gw x
 have g4:∀ x y,((H.set w x).set 2 y)[2]? = some y:=fun x y=>by rw[List.getElem?_set,if_pos rfl,if_pos (by rw[List.length_set];exact h2lt)]
 have g5:∀ x y,((H.set w x).set 2 y)[m]? = some ⟨sm,56,1,(runN code inp σ k).mem.map U32⟩:=fun x y=>by
  rw[List.getElem?_set,if_neg (fun e=>nm2 e.symm),List.getElem?_set,if_neg nm];exact hm
 have g6:∀ x y,((H.set w x).set 2 y)[c]? = some ⟨sc,3,1,(cntL code inp σ k).map I⟩:=fun x y=>by
  rw[List.getElem?_set,if_neg (fun e=>nc2 e.symm),List.getElem?_set,if_neg nc];exact hc
 have htk:((runN code inp σ k).out.data.toList.map U8).take (runN code inp σ k).out.size=(runN code inp σ k).out.data.toList.map U8:=List.take_of_length_le (by rw[List.length_map];exact Nat.le_refl _)
 have hstr:(⟨(runN code inp σ k).out.data.toList.toArray⟩:ByteArray)=(runN code inp σ k).out:=bytes_ext (by simp)
 have hdrop:cs.drop 22=[]:=List.drop_eq_nil_of_le (by omega)
 obtain ⟨w1,w2,_⟩:=hwf k
 have w3:=runR_out (code:=code) (inp:=inp) hol k
 by_cases c1:(k:Int)<fuel
 ·by_cases c2:(runN code inp σ k).fin=0
  ·simp only[go_sem,hw,eq_true c1,eq_true c2,k_fin]
   refine wstep_v code inp (runN code inp σ k) ⟨#[]⟩ (cntL code inp σ k) H nx w sw _ hcode hcl hi w1 (by omega) (by omega) c2 (fun x hx=>by have:=hcnt k x hx;omega) hA fun r H' nx' hk hA'=>?_
   simp only[go_sem]
   rw[i64_in (by omega) (by omega)]
   exact ⟨⟨k+1,H',nx'⟩,⟨by simp only;omega,hA',hk 2 _ h2 rfl⟩,by simp only;omega,Wk.mk (by simp[get_cons]) ⟨[],(List.append_nil _).symm⟩ (Nat.le_refl _)⟩
  ·have e1:=runN_stays c2 (fuel.toNat-k)
   have e2:=cntL_stays c2 (fuel.toNat-k)
   rw[show k+(fuel.toNat-k)=fuel.toNat by omega]at e1 e2
   rw[e1,e2]at hC
   simp only[go_sem,hw,ho,gw,g2,g3,g4,hdrop,hcs,htk,hstr,s_all,stc_all,eq_true c1,eq_false c2,wkc_length,k_state,k_fin,k_o,k_ct,ks_so,stc_length]
   refine ⟨?_,?_⟩
   all_goals
    refine ⟨_,Frz.tup ⟨_,_,rfl,stA_frz' (mem:=(runN code inp σ k).mem) (Frz.ref (Nat.zero_le _) (g5 _ _) rfl rfl ?_ ?_),_,_,rfl,frz_ints (l:=cntL code inp σ k) (Nat.zero_le _) (g6 _ _) hcc.symm,rfl⟩,hC⟩
    ·rw[List.all_eq_true];intro y hy;obtain ⟨x,_,rfl⟩:=List.mem_map.1 hy;rfl
    ·rw[List.drop_zero,List.take_of_length_le (by rw[List.length_map];exact Nat.le_refl _)]
     exact FrzL.pure (by rw[List.all_eq_true];intro y hy;obtain ⟨x,_,rfl⟩:=List.mem_map.1 hy;rfl)
 ·have e:fuel.toNat=k:=by omega
  rw[e]at hC
  simp only[go_sem,hw,ho,gw,g2,g3,g4,hdrop,hcs,htk,hstr,s_all,stc_all,eq_false c1,wkc_length,k_state,k_o,k_ct,ks_so,stc_length]
  refine ⟨?_,?_⟩
  all_goals
   refine ⟨_,Frz.tup ⟨_,_,rfl,stA_frz' (mem:=(runN code inp σ k).mem) (Frz.ref (Nat.zero_le _) (g5 _ _) rfl rfl ?_ ?_),_,_,rfl,frz_ints (l:=cntL code inp σ k) (Nat.zero_le _) (g6 _ _) hcc.symm,rfl⟩,hC⟩
   ·rw[List.all_eq_true];intro y hy;obtain ⟨x,_,rfl⟩:=List.mem_map.1 hy;rfl
   ·rw[List.drop_zero,List.take_of_length_le (by rw[List.length_map];exact Nat.le_refl _)]
    exact FrzL.pure (by rw[List.all_eq_true];intro y hy;obtain ⟨x,_,rfl⟩:=List.mem_map.1 hy;rfl)
theorem refrun_c (code:List Int) (data:Int) (inp:ByteArray) (σ:S) (fuel:Int) (hcode:∀ x ∈ code,In32 x) (hcl:code.length≤1000000) (hi:inp.size≤1000000000) (hws:Wf σ) (hl:σ.mem.length≤1000000) (hol:σ.out.size≤65536) (hfu:fuel≤4000000000000000000) :
 Contract Tryz.prog 45 [imgA code data,strv inp,stA σ,I fuel] (fun r=>r = .tup [stA (runN code inp σ fuel.toNat),ints (cntL code inp σ fuel.toNat)]):=by
 refine Contract.of_call (VCall.of_body hmix e_scref10_run (by simp) ?_)
 have hmx:(2000000:Nat)≤maxLen:=by decide
 have hall:allCells (σ.mem.map U32)=σ.mem.map U32:=allCells_map1 (fun _=>rfl) σ.mem
 have hrep:(List.replicate code.length [I 0]).flatten=(List.replicate code.length (0:Int)).map I:=by
  induction code.length with
  | zero=>rfl
  | succ n ih=>simp only[List.replicate_succ,List.flatten_cons,ih,List.map_cons];rfl
 simp only[go_sem,g_scref10_run,stc_all]
 refine VCall.of_contract (refcode_c code data hcode hcl) (SleL.pure rfl) fun x hx=>?_
 subst hx
 simp only[go_sem,s_all,s_pc,s_regs,s_mem,s_rd,s_out,s_st,s_fin,stc_length,stc_all,regs_length,regs_all,wkc_length,wkc_all,fold_stc,fold_wkc,List.append_assoc,hall,hrep,stw17,stw18,stw20,wkw22,wkw23,wkw24,wkw25,wkw26,dps22,dps28,stw21',wkw27']
 repeat' (with_reducible refine And.intro ?_ ?_)
 all_goals first
  | (intro y hy;obtain ⟨x,_,rfl⟩:=List.mem_map.1 hy;rfl)
  | omega
  | (refine refrun_tail code inp σ fuel _ _ _ _ _ _ (fun y=>y = .tup [stA (runN code inp σ fuel.toNat),ints (cntL code inp σ fuel.toNat)]) hcode hcl hi hws hl hol hfu rfl rfl rfl ?_ rfl ⟨_,_,_,_,_,_,rfl,rfl,rfl,rfl,cntL_len ..⟩ rfl
     rfl)
  | skip
set_option maxRecDepth 10000
open Go.V
theorem refgo_c (code:List Int) (data:Int) (inp:ByteArray) (σ:S) (fuel:Int) (hcode:∀ x ∈ code,In32 x) (hcl:code.length≤1000000) (hi:inp.size≤1000000000) (hws:Wf σ) (hl:σ.mem.length≤1000000) (hol:σ.out.size≤65536) (hfu:fuel≤4000000000000000000) :
 Contract Tryz.prog 27 [imgA code data,strv inp,stA σ,I fuel] (fun r=>r=stA (runN code inp σ fuel.toNat)):=by
 refine Contract.of_call (VCall.of_body hmix f_scref10_Go (by simp) ?_)
 simp only[go_sem,c_scref10_Go,s_all,s_zero,stc_all]
 refine VCall.of_contract (refrun_c code data inp σ fuel hcode hcl hi hws hl hol hfu) (SleL.pure rfl) fun x hx=>?_
 subst hx
 simp only[go_sem,s_all,s_zero,s_put',stc_length,stc_all]
 exact ⟨_,Frz.pure rfl,rfl⟩
theorem refRun_c (code:List Int) (data:Int) (inp:ByteArray) (fuel:Int) (hcode:∀ x ∈ code,In32 x) (hcl:code.length≤1000000) (hi:inp.size≤1000000000) (hfu:fuel≤4000000000000000000) :
 Contract Tryz.prog 12 [imgA code data,strv inp,I fuel] (fun r=>r=runA code data inp fuel):=by
 have hs:=start_len data
 have ho:(startF data).out.size=0:=rfl
 refine Contract.of_call (VCall.of_body hmix f_scref10_Run (by simp) ?_)
 simp only[go_sem,c_scref10_Run]
 refine ECall.of (refstart_c code data) (SleL.pure rfl) ⟨_,fun _=>Iff.rfl⟩ fun x hx=>?_
 subst hx
 simp only[go_sem]
 refine ECall.of (refgo_c code data inp (startF data) fuel hcode hcl hi (wf_start data) (by omega) (by omega) (by omega)) (SleL.pure rfl) ⟨_,fun _=>Iff.rfl⟩ fun x hx=>?_
 subst hx
 show _
 unfold runA endF runF
 generalize runN code inp (startF data) fuel.toNat=ρ
 by_cases h:ρ.fin=0
 ·simp only[go_sem,s_zero,s_put',stc_length,stc_all,s_fin,s_out,s_st,ss_fin,eq_true h]
  exact ⟨_,Frz.pure rfl,rfl⟩
 ·simp only[go_sem,s_zero,s_put',stc_length,stc_all,s_fin,s_out,s_st,eq_false h]
  exact ⟨_,Frz.pure rfl,rfl⟩
set_option maxRecDepth 10000
open Go.V
theorem hndL_step (s:SP) (l:List SI) {k:Nat} (h:k<l.length):hndL s (l.take (k+1))=hndL s (l.take k)+hndI s (l.getD k default):=by
 unfold hndL
 have e:l.take (k+1)=l.take k++[l.getD k default]:=by rw[List.take_add_one];simp[List.getD,List.getElem?_eq_getElem h]
 rw[e];simp
theorem par_in {s:SP} (h:RightP s) (f:Nat):0≤(s.fn f).params∧(s.fn f).params≤32768:=by
 by_cases hf:f<s.funcs.length
 ·obtain ⟨k1,k2,k3,k4,k5⟩:=(h.fn f hf).h
  have:=h.w1
  omega
 ·unfold SP.fn;rw[List.getD,List.getElem?_eq_none (by omega)];exact ⟨by decide,by decide⟩
theorem hndI_le {s:SP} (h:RightP s) (x:SI):hndI s x≤32768:=by
 unfold hndI
 split
 ·have:=par_in h x.a.toNat;omega
 ·omega
theorem hndL_le {s:SP} (h:RightP s):∀ l:List SI,hndL s l≤32768*l.length
 | []=>by simp[hndL]
 | x::l=>by
  have:=hndL_le h l
  have:=hndI_le h x
  simp only[hndL,List.map_cons,List.sum_cons,List.length_cons]at *
  omega
theorem hndT_le {s:SP} (h:RightP s):∀ l:List SF,totS (fun g=>hndL s g.code) l≤32768*sizeS l
 | []=>by simp[totS,sizeS]
 | g::l=>by
  have:=hndT_le h l
  have:=hndL_le h g.code
  simp only[totS,sizeS,List.map_cons,List.sum_cons]at *
  omega
theorem handed_c (s:SP) (hR:RightP s) (hz:sizeS s.funcs≤2000):Contract Tryz.prog 15 [spA s] (fun r=>r=I (hndN s:Nat)):=by
 refine Contract.of_call (VCall.of_body hmix f_sclaw22_handed (by simp) ?_)
 have hn1:=hR.n1
 have hb:hndN s≤32768*sizeS s.funcs:=hndT_le hR s.funcs
 simp only[go_sem,c_sclaw22_handed]
 refine VW_loop (fun q:Nat × Nat=>⟨[(1,.ptr 0 0 0),(3,I (totS (fun g=>hndL s g.code) (s.funcs.take q.1):Nat)),(4,I q.1)],[⟨0,24,1,[I s.words,fnsA s.funcs]⟩],q.2⟩) (fun q=>q.1≤s.funcs.length) (fun q=>s.funcs.length-q.1) (0,1)
  (Wk.mk (by simp[get_cons,totS]) ⟨[],rfl⟩ (Nat.le_refl _)) (Nat.zero_le _) ?_
 rintro ⟨k,nx⟩ hk
 simp only at hk
 by_cases hlt:k<s.funcs.length
 ·have hst:=totS_step (fun g=>hndL s g.code) s.funcs hlt
  have hle:=totS_take (fun g=>hndL s g.code) s.funcs (k+1)
  have hfit:=(hR.fn k hlt).fits
  have hcl:=size_one s k
  have hfd:s.funcs.getD k default=s.fn k:=rfl
  simp only[go_sem,eq_true (show (k:Int)<s.funcs.length by omega)]
  refine VW_loop (fun q:Nat × Nat=>⟨[(1,.ptr 0 0 0),(3,I (totS (fun g=>hndL s g.code) (s.funcs.take k)+hndL s ((s.fn k).code.take q.1):Nat)),(4,I k),(5,I q.1)],[⟨0,24,1,[I s.words,fnsA s.funcs]⟩],q.2⟩) (fun q=>q.1≤(s.fn k).code.length) (fun q=>(s.fn k).code.length-q.1) (0,nx)
   (Wk.mk (by simp[get_cons,hndL]) ⟨[],rfl⟩ (Nat.le_refl _)) (Nat.zero_le _) ?_
  rintro ⟨i,nx⟩ hi
  simp only at hi
  by_cases hil:i<(s.fn k).code.length
  ·have hsi:=hndL_step s (s.fn k).code hil
   have hx:(s.fn k).code.getD i default=s.ins k i:=rfl
   have hF:=hfit i hil
   have hle2:=hndL_take (s:=s) (s.fn k).code (i+1)
   rw[hfd]at hst
   replace hst:totS (fun g=>hndL s g.code) (s.funcs.take (k+1))=totS (fun g=>hndL s g.code) (s.funcs.take k)+hndL s (s.fn k).code:=hst
   have hN:totS (fun g=>hndL s g.code) s.funcs=hndN s:=rfl
   rw[hx]at hsi
   have w1:IntKind.i64.wrap ((i:Int)+1)=((i+1:Nat):Int):=by rw[i64_in (by omega) (by omega)];omega
   by_cases e:(s.ins k i).op=10
   ·have ha:0≤(s.ins k i).a∧(s.ins k i).a<(k:Int):=by
     obtain ⟨_,_,h3⟩:=hF
     omega
    have hp:=par_in hR (s.ins k i).a.toNat
    have hi2:hndI s (s.ins k i)=(s.fn (s.ins k i).a.toNat).params.toNat:=by unfold hndI;rw[if_pos e]
    have hfa:s.funcs.getD (s.ins k i).a.toNat default=s.fn (s.ins k i).a.toNat:=rfl
    have w2:IntKind.i64.wrap (((totS (fun g=>hndL s g.code) (s.funcs.take k)+hndL s ((s.fn k).code.take i):Nat):Int)+(s.fn (s.ins k i).a.toNat).params)=((totS (fun g=>hndL s g.code) (s.funcs.take k)+hndL s ((s.fn k).code.take (i+1)):Nat):Int):=by
     rw[i64_in (by omega) (by omega)];omega
    simp only[go_sem,hfd,hx,hfa,eq_true (show (i:Int)<(s.fn k).code.length by omega),eq_true e,w1,w2]
    repeat ((with_reducible refine And.intro ?_ ?_);· first | omega | (simp;omega))
    exact ⟨(i+1,nx+1),by simp only;omega,by simp only;omega,Wk.mk (by simp[get_cons]) ⟨[_],rfl⟩ (Nat.le_refl _)⟩
   ·have hi2:hndI s (s.ins k i)=0:=by unfold hndI;rw[if_neg e]
    simp only[go_sem,hfd,hx,eq_true (show (i:Int)<(s.fn k).code.length by omega),eq_false e,w1]
    repeat ((with_reducible refine And.intro ?_ ?_);· first | omega | (simp;omega))
    exact ⟨(i+1,nx+1),by simp only;omega,by simp only;omega,Wk.mk (by simp[get_cons];omega) ⟨[_],rfl⟩ (Nat.le_refl _)⟩
  ·obtain rfl:i=(s.fn k).code.length:=by omega
   have w1:IntKind.i64.wrap ((k:Int)+1)=((k+1:Nat):Int):=by rw[i64_in (by omega) (by omega)];omega
   simp only[go_sem,hfd,eq_false (show ¬ ((s.fn k).code.length:Int)<(s.fn k).code.length by omega),w1]
   repeat ((with_reducible refine And.intro ?_ ?_);· first | omega | (simp;omega))
   refine ⟨(k+1,nx),by simp only;omega,by simp only;omega,Wk.mk ?_ ⟨[],by simp⟩ (Nat.le_refl _)⟩
   rw[List.take_of_length_le (Nat.le_refl _)]
   rw[hfd]at hst
   simp[get_cons,hst]
 ·obtain rfl:k=s.funcs.length:=by omega
  simp only[go_sem,eq_false (show ¬ (s.funcs.length:Int)<s.funcs.length by omega)]
  rw[List.take_of_length_le (Nat.le_refl _)]
  exact ⟨_,Frz.pure rfl,rfl⟩
theorem fewL_c (s:SP) (h:SPOk s):Contract Tryz.prog 5 [spA s] (fun r=>∃ x,r=B x∧(x=true→SzP s∧s.words≤300∧FitP s)):=by
 refine Contract.of_call (VCall.of_body hmix f_sclaw22_few (by simp) ?_)
 simp only[go_sem,c_sclaw22_few]
 refine VCall.of_contract (few_c s h 300) (SleL.pure rfl) fun r hr=>?_
 subst hr
 cases hf:fewB s 300 with
 | false =>
  simp only[go_sem]
  exact ⟨_,Frz.pure rfl,false,rfl,nofun⟩
 | true =>
  obtain ⟨hin,hfit⟩:=small_in h (n:=300) (by decide) hf
  have hsz:sizeS s.funcs≤300:=by
   obtain ⟨_,h2⟩:=of_decide_eq_true hf
   omega
  by_cases h1:s.words≤300
  ·simp only[go_sem,eq_true h1]
   refine VCall.of_contract (r20right_c s hin h.w fun f=>⟨(h.at_ f).s,(h.at_ f).f⟩) (SleL.pure rfl) fun r hr=>?_
   subst hr
   cases hr:rightB s with
   | false =>
    simp only[go_sem]
    exact ⟨_,Frz.pure rfl,false,rfl,nofun⟩
   | true =>
    have hR:=rightB_iff.1 hr
    simp only[go_sem]
    refine VCall.of_contract (handed_c s hR (by omega)) (SleL.pure rfl) fun r hr=>?_
    subst hr
    by_cases h2:((hndN s:Nat):Int)≤2000
    ·simp only[go_sem,eq_true h2]
     exact ⟨_,Frz.pure rfl,true,rfl,fun _=>⟨⟨hR,(hfit hR).1,by omega,Nat.le_trans hsz (by decide),by omega⟩,h1,hfit hR⟩⟩
    ·simp only[go_sem,eq_false h2]
     exact ⟨_,Frz.pure rfl,false,rfl,nofun⟩
  ·simp only[go_sem,eq_false h1]
   exact ⟨_,Frz.pure rfl,false,rfl,nofun⟩
theorem fuel_c (s:SP) (n:Int) (hw:0≤s.words∧s.words≤32768) (hn:0≤n∧n≤1000000):Contract Tryz.prog 9 [spA s,I n] (fun r=>r=I ((n+1)*(64+8*s.words))):=by
 refine Contract.of_call (VCall.of_body hmix f_scref22_Fuel (by simp) ?_)
 have e1:IntKind.i64.wrap (n+1)=n+1:=i64_in (by omega) (by omega)
 have e2:IntKind.i64.wrap (8*s.words)=8*s.words:=i64_in (by omega) (by omega)
 have e3:IntKind.i64.wrap (64+8*s.words)=64+8*s.words:=i64_in (by omega) (by omega)
 have hm:0≤(n+1)*(64+8*s.words)∧(n+1)*(64+8*s.words)≤1000001*300000:=⟨Int.mul_nonneg (by omega) (by omega),Int.mul_le_mul (by omega) (by omega) (by omega) (by omega)⟩
 have e4:IntKind.i64.wrap ((n+1)*(64+8*s.words))=(n+1)*(64+8*s.words):=i64_in (by omega) (by omega)
 simp only[go_sem,c_scref22_Fuel,e1,e2,e3,e4]
 exact ⟨_,Frz.pure rfl,rfl⟩
theorem ends_c (a b:Int) (s t:ByteArray) (m n:Int):Contract Tryz.prog 11 [.agg [I a,.val (.string s),I m],.agg [I b,.val (.string t),I n]] (fun r=>r=B (decide (a=b) && (s.toList == t.toList))):=by
 refine Contract.of_call (VCall.of_body hmix f_scref10_Ends (by simp) ?_)
 by_cases h:a=b
 ·simp only[go_sem,c_scref10_Ends,eq_true h]
  exact ⟨_,Frz.pure rfl,by simp[]⟩
 ·simp only[go_sem,c_scref10_Ends,eq_false h]
  exact ⟨_,Frz.pure rfl,by simp[]⟩
/- The image of a program that is small. -/
theorem SzP.sim {s:SP} (h:SzP s):SimP s:=⟨h.r,fun f hf=>depS_sol h.r hf,h.ofH.dat,h.wf⟩
theorem SzP.cd {s:SP} (h:SzP s):CdOk (fixE s):=by
 refine ⟨fun i hi=>⟨(h.fix i hi).1,(h.fix i hi).2.1⟩,?_⟩
 have:(fixE s).length=(endE s).l.length:=by simp[fixE,fixY]
 have:=h.ofH.len
 omega
theorem SzP.cok {s:SP} (h:SzP s):(∀ x ∈ codeE s,In32 x)∧(codeE s).length≤1000000:=by
 have hc:=h.cd
 refine ⟨wrds_in hc,?_⟩
 unfold codeE;rw[List.length_map];exact hc.len
theorem SzP.run {s:SP} (h:SzP s) {inp:ByteArray} (hi:inp.size≤1000000000) {k:Nat} (hk:k≤60000) (hfin:(runS s inp (startS s) k).fin≠0) {F:Int} (hF:(((runS s inp (startS s) k).steps:Int)+1)*(64+8*s.words)≤F) :
 endF (runF (codeE s) (dataE s) inp F)=(runS s inp (startS s) k).fin∧(runF (codeE s) (dataE s) inp F).out=⟨(runS s inp (startS s) k).out.toArray⟩:=by
 have hw:=h.r.w0
 have h0:0≤(((runS s inp (startS s) k).steps:Int)+1)*(64+8*s.words):=Int.mul_nonneg (by omega) (by omega)
 obtain ⟨e1,e2⟩:=sim_end h.sim h.cd hi hk hfin (F:=F.toNat) (by omega)
 refine ⟨?_,?_⟩
 ·show (if (runN (wrds (fixE s)) inp (startF (dataE s)) F.toNat).fin=0 then 5 else (runN (wrds (fixE s)) inp (startF (dataE s)) F.toNat).fin)=_
  rw[e1,if_neg hfin]
 ·have:∀ (a:ByteArray) (l:List UInt8),a.data.toList=l→a=⟨l.toArray⟩:=fun a l e=>by subst e;cases a;simp
  exact this _ _ e2
/- The document's example. -/
def plE:SP:=⟨0,[⟨0,0,0,false,[⟨1,0,0,65⟩,⟨13,0,0,0⟩,⟨11,0,0,0⟩]⟩]⟩
theorem plE_right:RightP plE:=by
 refine ⟨by decide,by decide,by decide,by decide,fun f hf=>?_,rfl,rfl⟩
 obtain rfl:f=0:=by simp[plE]at hf;exact hf
 refine ⟨⟨by decide,by decide,by decide,by decide,by decide⟩,fits_of ?_,⟨[0,1,0],sol_of (by kernel_rfl)⟩⟩
 show ∀ x ∈ [(⟨1,0,0,65⟩:SI),⟨13,0,0,0⟩,⟨11,0,0,0⟩],FitsP plE 0 x
 intro x hx
 simp only[List.mem_cons,List.not_mem_nil,or_false]at hx
 rcases hx with rfl | rfl | rfl<;>decide
theorem plE_sz:SzP plE:=by
 refine ⟨plE_right,fun g hg x hx=>?_,by decide,by decide,by decide⟩
 rw[List.mem_singleton.1 hg]at hx
 simp only[List.mem_cons,List.not_mem_nil,or_false]at hx
 rcases hx with rfl | rfl | rfl<;>exact ⟨by decide,by decide⟩
theorem plE_run:runS plE ⟨#[]⟩ (startS plE) 3=⟨[],0,[65],3,1,⟨0,3,[]⟩,[]⟩:=by kernel_rfl
theorem plain_c:Contract Tryz.prog 10 [] (fun r=>r=spA plE):=by
 refine Contract.of_call (VCall.of_body hmix f_sclaw22_plain (by simp) ?_)
 simp only[go_sem,c_sclaw22_plain]
 exact ⟨_,frz_one 0 ⟨0,0,0,false,[⟨1,0,0,65⟩,⟨13,0,0,0⟩,⟨11,0,0,0⟩]⟩ rfl rfl,rfl⟩
theorem alive_c:Contract Tryz.prog 4 [] (fun r=>r=B true):=by
 refine Contract.of_call (VCall.of_body hmix f_sclaw22_alive (by simp) ?_)
 have hz:=plE_sz
 have hc:=hz.cok
 have hrun:=hz.run (inp:=⟨#[]⟩) (by decide) (k:=3) (by decide) (by rw[plE_run];decide) (F:=300) (by rw[plE_run];decide)
 rw[plE_run]at hrun
 have k1:=of22_c hz.ofH
 unfold ofA at k1
 have k2:=refRun_c (codeE plE) (dataE plE) ⟨#[]⟩ 300 hc.1 hc.2 (by decide) (by decide)
 unfold runA at k2
 rw[hrun.1,hrun.2]at k2
 generalize runF (codeE plE) (dataE plE) ⟨#[]⟩ 300=ρ at *
 generalize codeE plE=code at *
 generalize dataE plE=data at *
 simp only[go_sem,c_sclaw22_alive]
 refine VCall.of_contract plain_c (SleL.pure rfl) fun r hr=>?_
 subst hr
 simp only[go_sem]
 refine VCall.of_contract k1 (SleL.pure rfl) fun r hr=>?_
 subst hr
 simp only[go_sem,Int.reduceBEq]
 refine VCall.of_contract k2 (SleL.pure rfl) fun r hr=>?_
 subst hr
 simp only[go_sem]
 refine VCall.of_contract (ends_c _ _ _ _ _ _) (SleL.pure rfl) fun r hr=>?_
 subst hr
 simp only[go_sem]
 exact ⟨_,Frz.pure rfl,by simp⟩
set_option maxRecDepth 10000
open Go.V Go.ChangeShapes Go.WideShapes Go.ChangeAt Go.RowKit
theorem runS_le200 (s:SP) (inp:ByteArray):(runS s inp (startS s) 200).steps≤200:=by
 suffices h:∀ k,(runS s inp (startS s) k).steps≤k from h 200
 intro k
 induction k with
 | zero=>exact Nat.le_refl _
 | succ k ih =>
  show (stepS s inp (runS s inp (startS s) k)).steps≤k+1
  unfold stepS
  split
  ·rw[(stepI_sz s inp _ _).2.2.2.2];exact Nat.succ_le_succ ih
  ·exact Nat.le_succ_of_le ih
theorem emitruns_c (s:SP) (h:SPOk s) (inp:ByteArray):Contract Tryz.prog 3 [spA s,strv inp] (fun r=>r=B true):=by
 refine Contract.of_call (VCall.of_body hmix f_sclaw22_EmitRuns (by simp) ?_)
 simp only[go_sem,c_sclaw22_EmitRuns]
 refine VCall.of_contract alive_c (SleL.pure rfl) fun x hx=>?_
 subst hx
 simp only[go_sem]
 refine VCall.of_contract (fewL_c s h) (SleL.pure rfl) fun x hx=>?_
 obtain ⟨v,rfl,hv⟩:=hx
 cases v
 ·simp only[go_sem]
  exact ⟨_,Frz.pure rfl,rfl⟩
 obtain ⟨hz,hw,hfit⟩:=hv rfl
 by_cases hi:(60:Int)<(inp.size:Int)
 ·simp only[go_sem,eq_true hi]
  exact ⟨_,Frz.pure rfl,rfl⟩
 have hw0:=hz.r.w0
 have hc:=hz.cok
 have k1:=of22_c hz.ofH
 unfold ofA at k1
 have k2:=srun_c s inp 200 hfit (by decide) (by omega) fun k _=>runS_good hz.r inp k
 have e2:(200:Int).toNat=200:=rfl
 rw[e2]at k2
 have hst:=runS_le200 s inp
 have hm:(((runS s inp (startS s) 200).steps:Int)+1)*(64+8*s.words)≤201*2464:=Int.mul_le_mul (by omega) (by omega) (by omega) (by omega)
 have k4:=fun h0=>hz.run (inp:=inp) (by omega) (k:=200) (by decide) h0 (Int.le_refl _)
 have k3:=run_c (codeE s) (dataE s) inp ((((runS s inp (startS s) 200).steps:Int)+1)*(64+8*s.words)) hc.1 hc.2 (by omega) (by omega)
 unfold runA at k3
 have k5:=fuel_c s ((runS s inp (startS s) 200).steps:Nat) ⟨hw0,by omega⟩ ⟨by omega,by omega⟩
 generalize runF (codeE s) (dataE s) inp ((((runS s inp (startS s) 200).steps:Int)+1)*(64+8*s.words))=ρ at *
 generalize codeE s=code at *
 generalize dataE s=data at *
 simp only[go_sem,eq_false hi]
 refine VCall.of_contract (k1) (SleL.pure rfl) fun x hx=>?_
 subst hx
 simp only[go_sem]
 refine VCall.of_contract (k2) (SleL.pure rfl) fun x hx=>?_
 subst hx
 simp only[resS]
 by_cases h5:(if (runS s inp (startS s) 200).fin=0 then (5:Int) else (runS s inp (startS s) 200).fin)=5
 ·simp only[go_sem,eq_true h5]
  exact ⟨_,Frz.pure rfl,rfl⟩
 have h0:(runS s inp (startS s) 200).fin≠0:=fun e=>h5 (by rw[if_pos e])
 obtain ⟨e6,e7⟩:=k4 h0
 rw[e6,e7]at k3
 rw[if_neg h0]at h5
 simp only[if_neg h0]
 simp only[go_sem,eq_false h5]
 refine ECall.of (k5) (SleL.pure rfl) ⟨_,fun _=>Iff.rfl⟩ fun x hx=>?_
 subst hx
 simp only[go_sem]
 refine ECall.of (k3) (SleL.pure rfl) ⟨_,fun _=>Iff.rfl⟩ fun x hx=>?_
 subst hx
 simp only[go_sem,beq_self_eq_true]
 exact ⟨_,Frz.pure rfl,by simp⟩
set_option maxRecDepth 100000 in
theorem emitruns_lifted (os:Os) (started:os.Started) (H:Type) (enc:TypeId × Value→H) :
 ReturnsInHanded {} Tryz.checked os 3 .any (Rows.emitRunsSpec.pre6 enc Tryz.prog Tryz.f3 Rows.emitRunsRow.domain false) (Rows.emitRunsSpec.post enc Tryz.prog Tryz.f3 false true false false):=by
 refine returnsInHanded_of_change_sized (C:=Tryz.checked) Tryz.own started (by kernel_rfl) Tryz.func3
  (ChangeSpec.witness6 (enc:=enc) (C:=Tryz.checked) false ⟨#[],#[.agg #[.int .i64 0,.slice none 0 0],.string ⟨#[]⟩],[]⟩ 8 (by kernel_rfl) (by kernel_rfl) (by kernel_rfl) (by kernel_rfl)) ?_
 intro W base args ds gs before hval hW _ hwt _
 refine law_calls (P:=Tryz.prog) (n:=20) (shs:=[spSh,.str]) (tb:=4) Tryz.laidOut rfl (by kernel_rfl) (by kernel_rfl) (by decide +kernel) (by kernel_rfl) (fun ds h=>?_) (fun xs hx=>?_) hval hW hwt
 ·match ds,h with
  | [d1,d2],_=>rfl
 ·obtain ⟨x,xs',rfl,hx1,hxs⟩:=fitS_cons hx
  obtain ⟨y,ys',rfl,hy,hys⟩:=fitS_cons hxs
  simp only[Sh.fitL]at hys
  subst hys
  obtain ⟨s,rfl,h⟩:=sp_of hx1
  simp only[Sh.fit]at hy
  obtain ⟨inp,rfl,hy⟩:=hy
  exact emitruns_c s h inp
theorem emitruns_holds:Rows.EmitRunsSaid :=
 OpenClaim.holds_of_wide 3 Tryz.f3 rfl rfl rfl rfl rfl rfl rfl ⟨rfl,rfl,rfl,rfl,rfl⟩ rfl rfl rfl rfl rfl (by kernel_rfl) Tryz.func3 (by kernel_rfl)
  (of_decide_eq_true (by kernel_rfl)) (by unfold Func.isWrapper;first | (rw[if_pos (by decide +kernel)];kernel_rfl) | (rw[if_neg (by decide +kernel)];exact ⟨rfl,rfl⟩))
  (fun os started H enc _=>emitruns_lifted os started H enc)
end Go.Proofs.YtaedcpipilnpcaaGreat
