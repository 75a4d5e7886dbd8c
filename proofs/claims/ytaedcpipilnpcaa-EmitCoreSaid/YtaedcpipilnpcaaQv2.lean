/- A generator's code of all functions: contract. No condition. Images of stack code: emit.Of gives the image that is told plainly: contract. No condition. Images of stack code: emit.Of: contract. -/
import Derived.Test.YtaedcpipilnpcaaQv1
import Derived.Test.YtaedcpipilnpcaaUCode
import Derived.Test.YtaedcpipilnpcaaUG
import Derived.SizedLaws
import Derived.Test.YtaedcpipilnpcaaUH
import Derived.Test.YtaedcpipilnpcaaUC
import Derived.KernelRfl
set_option linter.unusedVariables false
set_option linter.unusedSimpArgs false
namespace Go.Proofs.Ytaedcpipilnpcaa
set_option linter.unusedSimpArgs false
set_option linter.unusedVariables false
set_option maxRecDepth 10000
open Go.V
structure RunP (s:SP) (S:S3) (o:List Nat):Prop where
 en:S.en.length=s.funcs.length
 rows:S.rows.length=s.funcs.length
 len:S.l.length≤80000
structure OfE (s:SP):Prop where
 r:RightP s
 i:InP s
 dat:∀ f≤s.funcs.length,0≤datE s f∧datE s f≤100000
 dep:∀ f<s.funcs.length,(depS s f).length≤100000∧∀ x ∈ depS s f,x≤100000
 ex:∀ f<s.funcs.length,ExOk (planS s s.funcs.length) (exE s f)∧FOk (exE s f)
 run:∀ j≤s.funcs.length-1,RunP s (runE s (ordJ s.funcs.length j)) (ordJ s.funcs.length j)
 jok:JOk (endE s).en (endE s).rows (endE s).l
 rwl:∀ i<s.funcs.length,((endE s).rows.getD i []).length=(s.fn i).code.length
structure GO (s:SP) (q:GI) (kM sM:Nat) (H:List VObj) (bl:List AV) (o:List Nat):Prop where
 w:∃ f d,GH s (planS s s.funcs.length) f d q H ((runE s o).l.map (·.1)) (spotL 0 (runE s o).l) (runE s o).en bl
 bln:bl.length=s.funcs.length
 one:∀ x ∈ bl,x.one=true
 rows:∀ i ∈ o,∃ kr sr,bl.getD i .dead = .ref kr sr 0 ((runE s o).rows.getD i []).length∧H[kr]? = some ⟨sr,3,1,((runE s o).rows.getD i []).map I⟩∧kr≠q.kE
 m:H[kM]? = some ⟨sM,0,0,meanC⟩
section
variable {s:SP} {q:GI} {kM sM:Nat}
theorem GO.step (h:OfE s) {H:List VObj} {bl:List AV} {o:List Nat} (hO:GO s q kM sM H bl o) (hMB:kM≠q.kB) (hME:kM≠q.kE) {i:Nat} (hi:i<s.funcs.length) (hol:(runE s o).l.length≤90000) (hoe:(runE s o).en.length=s.funcs.length) (hor:(runE s o).rows.length=s.funcs.length) (nx:Nat) (C:AV→List VObj→Nat→Prop)
 (hC:∀ r H' nx' bl',GO s q kM sM H' bl' (o++[i])→KeepG q H H'→C r H' nx') :
 VCall Try.prog 42 [.ptr q.kG q.sG 0,I (i:Nat),.mref kM sM] H nx C:=by
 obtain ⟨fn,d,hw⟩:=hO.w
 obtain ⟨hex,hfo⟩:=h.ex i hi
 refine function_v (c:=exE s i) hw hex hfo hol hoe hO.bln hO.one hO.m nx C fun r H' nx' kr sr d' w1 w2 w3 w4=>?_
 have hg:(exE s i).g=s.fn i:=rfl
 rw[hg]at w1 w2
 have hrowlen:(rowE (exE s i) ((runE s o).l.length+(headE (exE s i) (runE s o).l.length).length) (s.fn i).code.length).length=(s.fn i).code.length:=rowE_len _ _ _
 refine hC r H' nx' _ ⟨⟨_,_,by rw[runE_snoc];exact w1⟩,by rw[List.length_set];exact hO.bln,fun x hx=>?_,fun j hj=>?_,w4 _ _ hO.m (by simp) hME hMB⟩ w4
 ·rcases List.mem_or_eq_of_mem_set hx with hx | rfl
  ·exact hO.one x hx
  ·rfl
 ·rw[runE_snoc]
  simp only[stepE]
  by_cases e:i=j
  ·subst e
   refine ⟨kr,sr,?_,?_,w3⟩
   ·have eb:(bl.set (exE s i).fn (AV.ref kr sr 0 (s.fn i).code.length)).getD i .dead = .ref kr sr 0 (s.fn i).code.length:=by
     show ((bl.set i _)[i]?).getD _=_
     rw[List.getElem?_set_self (by rw[hO.bln];exact hi)];rfl
    rw[eb,List.getD,List.getElem?_set_self (by rw[hor];exact hi),Option.getD_some,hrowlen]
   ·rw[List.getD,List.getElem?_set_self (by rw[hor];exact hi),Option.getD_some];exact w2
  ·have hj':j ∈ o:=by
    rcases List.mem_append.1 hj with hj | hj
    ·exact hj
    ·exact absurd (List.mem_singleton.1 hj).symm e
   obtain ⟨kr',sr',e1,e2,e3⟩:=hO.rows j hj'
   refine ⟨kr',sr',?_,?_,e3⟩
   ·have eb:(bl.set (exE s i).fn (AV.ref kr sr 0 (s.fn i).code.length)).getD j .dead=bl.getD j .dead:=by
     show ((bl.set i _)[j]?).getD _=_
     rw[List.getElem?_set_ne e];rfl
    rw[eb,e1,List.getD,List.getD,List.getElem?_set_ne e]
   ·rw[List.getD,List.getElem?_set_ne e]
    exact w4 _ _ e2 (by simp) e3 (fun eb=>by
     obtain ⟨_,_,hww⟩:=hO.w
     have hb:=hww.b
     rw[← eb,e2]at hb;simp at hb)
theorem cp_all {F Z:List AV} {n:Nat} (hF:F.length=n*4) (hZ:Z.length=n*4):List.take (min n n*4) (List.take (n*4) F)++List.drop (min n n*4) Z=F:=by
 rw[Nat.min_self,List.take_of_length_le (by simp[hF]),List.take_of_length_le (by omega),List.drop_eq_nil_of_le (by omega),List.append_nil]
structure WQ where
 j:Nat
 H:List VObj
 nx:Nat
 bl:List AV
structure PQ2 where
 k:Nat
 code:List Ci
 H:List VObj
 nx:Nat
theorem ordJ_mem {n i:Nat} (hi:i<n):i ∈ ordJ n (n-1):=by
 unfold ordJ
 by_cases e:i=n-1
 ·subst e;exact List.mem_cons_self
 ·exact List.mem_cons_of_mem _ (List.mem_range.2 (by omega))
set_option maxHeartbeats 1000000 in
theorem whole_v (h:OfE s) {H0:List VObj} {bl0:List AV} (hw0:GH s (planS s s.funcs.length) 0 0 q H0 [] [] (List.replicate s.funcs.length 0) bl0) (hbn:bl0.length=s.funcs.length) (hb1:∀ x ∈ bl0,x.one=true) (nx0:Nat) (C:AV→List VObj→Nat→Prop)
 (hC:∀ H' nx' k s',H'[k]? = some ⟨s',86,4,((fixY (endE s).en (endE s).rows (endE s).l).map ciL).flatten⟩→KeepG q H0 H'→C (.ref k s' 0 (endE s).l.length) H' nx') :
 VCall Try.prog 26 [.ptr q.kG q.sG 0] H0 nx0 C:=by
 refine VCall.of_body hmix f_emit_generator_whole (by simp) ?_
 have h64:=h.r.n1
 have hn0:=h.r.n0
 have w1:IntKind.i64.wrap ((s.funcs.length:Int)-1)=((s.funcs.length-1:Nat):Int):=by rw[i64_in (by omega) (by omega)];omega
 simp only[go_sem,c_emit_generator_whole]
 refine meanings_v H0 nx0 _ ?_
 have hw1:=hw0.keep (KeepT.app [] H0 [⟨nx0,0,0,meanC⟩])
 have hM:(H0++[(⟨nx0,0,0,meanC⟩:VObj)])[H0.length]? = some ⟨nx0,0,0,meanC⟩:=by simp
 have hk0:KeepG q H0 (H0++[(⟨nx0,0,0,meanC⟩:VObj)]):=KeepG.of (KeepT.app _ _ _)
 have hME:H0.length≠q.kE:=by have:=(List.getElem?_eq_some_iff.1 hw0.e).1;omega
 have hMB:H0.length≠q.kB:=by have:=(List.getElem?_eq_some_iff.1 hw0.b).1;omega
 generalize H0++[(⟨nx0,0,0,meanC⟩:VObj)]=H1 at *
 generalize H0.length=kM at *
 obtain ⟨cv,pv,hg1,hc1,hp1⟩:=hw1.w
 simp only[go_sem,hg1,hc1.one,hp1.one,w1]
 refine put_v hw1 _ 1 15 0 1 (by simp) _ fun r H2 nx2 h2 k2=>?_
 have hk2:KeepG q H0 H2:=hk0.trans (KeepG.of k2)
 have hO0:GO s q kM nx0 H2 bl0 []:=⟨⟨0,0,h2⟩,hbn,hb1,fun i hi=>(by cases hi),k2 _ _ hM (by simp)⟩
 simp only[go_sem,w1]
 refine hO0.step h hMB hME (i:=s.funcs.length-1) (by omega) (by simp[runE]) (by simp[runE]) (by simp[runE]) _ _ fun r H3 nx3 bl3 hO3 k3=>?_
 simp only[go_sem,w1]
 refine VW_loop (fun x:WQ=>⟨[(0,.ptr q.kG q.sG 0),(3,.mref kM nx0),(23,I ((s.funcs.length-1:Nat):Int)),(24,I x.j)],x.H,x.nx⟩)
  (fun x=>x.j≤s.funcs.length-1∧GO s q kM nx0 x.H x.bl (ordJ s.funcs.length x.j)∧KeepG q H0 x.H) (fun x=>s.funcs.length-1-x.j) ⟨0,H3,nx3,bl3⟩
  (Wk.mk (by simp[get_cons]) ⟨[],by simp⟩ (Nat.le_refl _)) ⟨Nat.zero_le _,hO3,hk2.trans k3⟩ ?_
 rintro ⟨j,H,nx,bl⟩ ⟨hj,hO,hkj⟩
 simp only at hj hO hkj
 have hR:=h.run j hj
 by_cases hlt:j<s.funcs.length-1
 ·simp only[go_sem,eq_true (show (j:Int)<((s.funcs.length-1:Nat):Int) by omega)]
  refine hO.step h hMB hME (by omega) (by have:=hR.len;omega) hR.en hR.rows _ _ fun r H' nx' bl' hO' k'=>?_
  have e5:IntKind.i64.wrap ((j:Int)+1)=((j+1:Nat):Int):=by rw[i64_in (by omega) (by omega)];omega
  rw[← ordJ_succ]at hO'
  simp only[go_sem,e5]
  exact ⟨⟨j+1,H',nx',bl'⟩,⟨by simp only;omega,hO',hkj.trans k'⟩,by simp only;omega,Wk.mk (by simp[get_cons]) ⟨[],by simp⟩ (Nat.le_refl _)⟩
 ·obtain rfl:j=s.funcs.length-1:=by omega
  obtain ⟨f,d,hw⟩:=hO.w
  have hrl:=hR.len
  have hsl:=spotL_len (endE s).l 0
  have hmx:(200000000:Nat)≤maxLen:=by decide
  obtain ⟨cv,pv,hgX,⟨kC,sC,rfl,hkC⟩,⟨kP,sP,rfl,hkP⟩⟩:=hw.w
  rw[show runE s (ordJ s.funcs.length (s.funcs.length-1))=endE s from rfl]at *
  rw[List.length_map]at hgX
  have n1:=ne_len hgX
  have n2:=ne_len hkC
  have n3:=ne_len hkP
  have l1:=lt_of hgX
  have l2:=lt_of hkC
  have l3:=lt_of hkP
  have es:∀ (K:List VObj) (x y:VObj),(K++[x]).set K.length y=K++[y]:=fun K x y=>by simp
  have eg:∀ (K:List VObj) (x:VObj),(K++[x])[K.length]? = some x:=fun K x=>by simp
  have eo:∀ {K:List VObj} {k:Nat} {o:VObj},K[k]? = some o→∀ x:VObj,(K++[x])[k]? = some o:=fun h x=>ap_old h _
  simp only[go_sem,eq_false (show ¬ ((s.funcs.length-1:Nat):Int)<((s.funcs.length-1:Nat):Int) by omega),hgX,hkC,hkP,eo hgX,eo hkC,eo hkP,es,eg]
  have hall:((((endE s).l.map (·.1)).map ciL).flatten).all AV.one=true:=by
   rw[List.all_eq_true];intro x hx
   obtain ⟨y,hy,hx⟩:=List.mem_flatten.1 hx
   obtain ⟨i,_,rfl⟩:=List.mem_map.1 hy
   simp only[ciL,List.mem_cons,List.not_mem_nil,or_false]at hx
   rcases hx with rfl | rfl | rfl | rfl<;>rfl
  refine ⟨by omega,by omega,by omega,hall,?_⟩
  have hcl:(((endE s).l.map (·.1)).map ciL).flatten.length=(endE s).l.length*4:=by rw[sz_flat ciL 4 (fun _=>rfl)];simp
  have hHN:∃ HN,HN=H++[(⟨nx,86,4,(((endE s).l.map (·.1)).map ciL).flatten⟩:VObj)]:=⟨_,rfl⟩
  obtain ⟨HN,eHN⟩:=hHN
  have hN:HN[H.length]? = some ⟨nx,86,4,(((endE s).l.map (·.1)).map ciL).flatten⟩:=by rw[eHN];simp
  have up:∀ {i:Nat} {ob:VObj},H[i]? = some ob→HN[i]? = some ob:=fun h=>by rw[eHN];exact ap_old h _
  have hE:=up hw.e
  have hB:=up hw.b
  have hG:=up hgX
  have hP:=up hkP
  refine VW_loop (fun x:PQ2=>⟨[(0,.ptr q.kG q.sG 0),(6,.ref H.length nx 0 (endE s).l.length),(47,.ref kP sP 0 (spotL 0 (endE s).l).length),(48,I (spotL 0 (endE s).l).length),(49,I x.k)],x.H,x.nx⟩)
   (fun x=>x.k≤(spotL 0 (endE s).l).length∧x.H[H.length]? = some ⟨nx,86,4,(x.code.map ciL).flatten⟩∧patch (endE s).en (endE s).rows x.code ((spotL 0 (endE s).l).drop x.k)=fixY (endE s).en (endE s).rows (endE s).l∧x.code.length=(endE s).l.length∧KeepR [] H.length HN x.H) (fun x=>(spotL 0 (endE s).l).length-x.k) ⟨0,(endE s).l.map (·.1),HN,nx+1⟩
   (Wk.mk (by simp[get_cons]) ⟨[],by rw[List.append_nil];simp only;rw[cp_all hcl (by simp[Function.comp_def])];exact eHN.symm⟩ (Nat.le_refl _)) ⟨Nat.zero_le _,hN,by simpa using patch_spot (endE s).en (endE s).rows (endE s).l [],by simp,KeepR.refl _ _ _⟩ ?_
  rintro ⟨k,code,H5,nx5⟩ ⟨hk,hc5,hpa,hcl5,hkp⟩
  simp only at hk hc5 hpa hcl5 hkp
  have hP5:=hkp _ _ hP (by simp) (by have:=(List.getElem?_eq_some_iff.1 hkP).1;omega)
  by_cases hlt:k<(spotL 0 (endE s).l).length
  ·have hsm:(spotL 0 (endE s).l).getD k default ∈ spotL 0 (endE s).l:=mem_getD hlt
   obtain ⟨a1,a2,i0,a3⟩:=spotL_mem (endE s).l 0 _ hsm
   have hdrop:(spotL 0 (endE s).l).drop k=(spotL 0 (endE s).l).getD k default::(spotL 0 (endE s).l).drop (k+1):=by
    rw[List.drop_eq_getElem_cons hlt];simp[List.getD,List.getElem?_eq_getElem hlt]
   rw[hdrop,patch]at hpa
   obtain ⟨b1,b2,b3,b4⟩:=h.jok _ _ a3
   have hcF:∀ {C:AV→Prop},cellT ((spotL 0 (endE s).l).map spL).flatten (k*3) true 3 C .mk=C (.agg (spL ((spotL 0 (endE s).l).getD k default))):=fun {C}=>cellT_flat (f:=spL) (n:=3) (fun _=>rfl) hlt
   generalize hs:(spotL 0 (endE s).l).getD k default=sx at *
   obtain ⟨at',fn',to'⟩:=sx
   simp only at a1 a2 b1 b2 b3 b4
   have hG5:=hkp _ _ hG (by simp) (by have:=(List.getElem?_eq_some_iff.1 hgX).1;omega)
   have hE5:=hkp _ _ hE (by simp) (by have:=(List.getElem?_eq_some_iff.1 hw.e).1;omega)
   have hB5:=hkp _ _ hB (by simp) (by have:=(List.getElem?_eq_some_iff.1 hw.b).1;omega)
   have hrl2:(endE s).rows.length=s.funcs.length:=hR.rows
   have hel2:(endE s).en.length=s.funcs.length:=hR.en
   obtain ⟨kr,sr,hrow1,hrow0,_⟩:=hO.rows fn'.toNat (ordJ_mem (by omega))
   rw[show runE s (ordJ s.funcs.length (s.funcs.length-1))=endE s from rfl]at hrow0 hrow1
   have hrow2:=hkp _ _ (up hrow0) (by simp) (by have:=(List.getElem?_eq_some_iff.1 hrow0).1;omega)
   have hcell:∀ {C:AV→Prop},cellT bl fn'.toNat false 1 C .mk=C (.ref kr sr 0 ((endE s).rows.getD fn'.toNat []).length):=fun {C}=>cellT_at (by have:=hO.bln;omega) rfl hrow1
   have hci:∀ x:Int,((code.map ciL).flatten).set (at'.toNat*4+3) (I x)=((code.set at'.toNat { code.getD at'.toNat default with c:=x }).map ciL).flatten:=fun x=>ci_set code _ x (by omega)
   have hla:(code.map ciL).flatten.length=code.length*4:=sz_flat ciL 4 (fun _=>rfl) code
   have hX:(H5++[(⟨nx5,110,1,[I at',I fn',I to']⟩:VObj)])[H5.length]? = some ⟨nx5,110,1,[I at',I fn',I to']⟩:=by simp
   have n5:=ne_len hc5
   have l5:=lt_of hc5
   have e5:IntKind.i64.wrap ((k:Int)+1)=((k+1:Nat):Int):=by rw[i64_in (by omega) (by omega)];omega
   have yX:∀ c',((H5++[(⟨nx5,110,1,[I at',I fn',I to']⟩:VObj)]).set H.length ⟨nx,86,4,c'⟩)[H5.length]? = some ⟨nx5,110,1,[I at',I fn',I to']⟩:=fun c'=>by rw[set_ne (by have:=of_eq_true l5;omega)];simp
   have yN:∀ c',((H5++[(⟨nx5,110,1,[I at',I fn',I to']⟩:VObj)]).set H.length ⟨nx,86,4,c'⟩)[H.length]? = some ⟨nx,86,4,c'⟩:=fun c'=>set_get (eo hc5 _)
   have yo:∀ {i:Nat} {ob:VObj},H5[i]? = some ob→i≠H.length→∀ c',((H5++[(⟨nx5,110,1,[I at',I fn',I to']⟩:VObj)]).set H.length ⟨nx,86,4,c'⟩)[i]? = some ob:=fun h1 h2 c'=>by rw[set_ne (fun e=>h2 e.symm)];exact eo h1 _
   have yG:=yo hG5 (by have:=(List.getElem?_eq_some_iff.1 hgX).1;omega)
   have yB:=yo hB5 (by have:=(List.getElem?_eq_some_iff.1 hw.b).1;omega)
   have yR:=yo hrow2 (by have:=(List.getElem?_eq_some_iff.1 hrow0).1;omega)
   have keepY:∀ c',KeepR [] H.length HN ((H5++[(⟨nx5,110,1,[I at',I fn',I to']⟩:VObj)]).set H.length ⟨nx,86,4,c'⟩):=fun c'=>(hkp.trans (KeepR.of (KeepT.app _ _ _))).trans (KeepR.set _ _ _ _)
   have hl4:at'.toNat*4+3+1≤(code.map ciL).flatten.length:=by rw[hla];omega
   by_cases h0:0≤to'
   ·have htg:tgt (endE s).en (endE s).rows (fn',to')=((endE s).rows.getD fn'.toNat []).getD to'.toNat default:=if_pos h0
    simp only[go_sem,eq_true (show (k:Int)<(spotL 0 (endE s).l).length by omega),hs,hP5,hcF,es,eg,eo hG5,eo hE5,eo hB5,eo hrow2,eo hc5,hX,hcell,yX,yN,yG,yB,yR,List.set_set,eq_true h0,e5]
    repeat ((with_reducible refine And.intro ?_ ?_);· first | omega | exact hl4 | (rw[List.length_set];exact hl4) | (simp;omega))
    rw[hci (((endE s).rows.getD fn'.toNat []).getD to'.toNat default),← htg]
    exact ⟨⟨k+1,code.set at'.toNat { code.getD at'.toNat default with c:=tgt (endE s).en (endE s).rows (fn',to') },_,nx5+1⟩,⟨by simp only;omega,yN _,hpa,by simp[hcl5],keepY _⟩,by simp only;omega,Wk.mk (by simp[get_cons]) ⟨[],by rw[List.append_nil]⟩ (Nat.le_refl _)⟩
   ·have htg:tgt (endE s).en (endE s).rows (fn',to')=(endE s).en.getD fn'.toNat default:=if_neg h0
    simp only[go_sem,eq_true (show (k:Int)<(spotL 0 (endE s).l).length by omega),hs,hP5,hcF,es,eg,eo hG5,eo hE5,eo hB5,eo hrow2,eo hc5,hX,hcell,yX,yN,yG,yB,yR,List.set_set,eq_false h0,e5]
    repeat ((with_reducible refine And.intro ?_ ?_);· first | omega | exact hl4 | (rw[List.length_set];exact hl4) | (simp;omega))
    rw[hci ((endE s).en.getD fn'.toNat default),← htg]
    exact ⟨⟨k+1,code.set at'.toNat { code.getD at'.toNat default with c:=tgt (endE s).en (endE s).rows (fn',to') },_,nx5+1⟩,⟨by simp only;omega,yN _,hpa,by simp[hcl5],keepY _⟩,by simp only;omega,Wk.mk (by simp[get_cons]) ⟨[],by rw[List.append_nil]⟩ (Nat.le_refl _)⟩
  ·obtain rfl:k=(spotL 0 (endE s).l).length:=by omega
   rw[List.drop_length,patch]at hpa
   subst hpa
   simp only[go_sem,eq_false (show ¬ ((spotL 0 (endE s).l).length:Int)<(spotL 0 (endE s).l).length by omega)]
   refine hC _ _ _ _ hc5 fun i ob i1 i2 i3 i4=>?_
   have g1:=hkj i ob i1 i2 i3 i4
   exact hkp _ _ (up g1) (by simp) (by have:=(List.getElem?_eq_some_iff.1 g1).1;omega)
end
set_option maxRecDepth 10000
open Go.V
abbrev imgC (code:List Int) (data:Int):AV:=.agg [.imm 1 (code.map U32),I data]
noncomputable abbrev fixE (s:SP):List Ci:=fixY (endE s).en (endE s).rows (endE s).l
noncomputable def codeE (s:SP):List Int:=(fixE s).map encW
noncomputable abbrev ofA (s:SP):AV:=.tup [imgC (codeE s) (dataE s),I 0]
structure OfH (s:SP):Prop where
 e:OfE s
 ok:∀ i ∈ fixE s,okI i.op i.a i.b i.c=true
 len:(endE s).l.length≤16384
 dat:dataE s≤32768
section
variable {s:SP}
set_option maxHeartbeats 1000000 in
theorem of_B (h:OfH s) {q:GI} {H0:List VObj} {bl0:List AV} (hw0:GH s (planS s s.funcs.length) 0 0 q H0 [] [] (List.replicate s.funcs.length 0) bl0) (hbn:bl0.length=s.funcs.length) (hb1:∀ x ∈ bl0,x.one=true)
 (h1:H0[1]? = some ⟨1,38,1,[nilv,I 0]⟩) (h2:H0[2]? = some ⟨2,77,1,[dlsA (dlsS s s.funcs.length),ints (bksS s s.funcs.length),ints (bssS s s.funcs.length),I (dataE s)]⟩) (h1E:1≠q.kE) (h1B:1≠q.kB) (h2E:2≠q.kE) (h2B:2≠q.kB) (nx0:Nat) :
 VWs Try.prog (tailC 4 c_emit_Of) (retQ Try.prog [.cell 2 true 2,.tmp 3] fun r H nx=>∃ y,FrzN H nx r y∧y=ofA s) ⟨[(2,.ptr 1 1 0),(4,.ptr 2 2 0),(5,.ptr q.kG q.sG 0)],H0,nx0⟩:=by
 have hmx:(200000000:Nat)≤maxLen:=by decide
 have hlen:=h.len
 have hfl:(fixE s).length=(endE s).l.length:=by simp[fixE,fixY]
 have hok:=h.ok
 simp only[tailC,c_emit_Of,go_sem,VWs_seq,VWs_ret,VWs_ops,VWs_cond]
 refine whole_v h.e hw0 hbn hb1 nx0 _ fun H nx k s' hk kp=>?_
 have g1:=kp _ _ h1 (by simp) h1E h1B
 have g2:=kp _ _ h2 (by simp) h2E h2B
 simp only[go_sem,VWs_seq,VWs_ret,VWs_ops,VWs_cond]
 refine ⟨_,Wk.refl _,?_⟩
 simp only[go_sem,VWs_seq,VWs_ret,VWs_ops,VWs_cond,hk,eq_false (show ¬ (16384:Int)<((endE s).l.length:Int) by omega)]
 refine ⟨_,Wk.refl _,?_⟩
 simp only[go_sem,VWs_seq,VWs_ret,VWs_ops,VWs_cond,hk]
 refine ⟨by omega,by omega,by omega,?_⟩
 refine ⟨_,Wk.refl _,?_⟩
 simp only[go_sem,VWs_seq,VWs_ret,VWs_ops,VWs_cond,hk,ap_old hk]
 rw[flat_rep,show List.replicate (endE s).l.length (AV.val (.int .u32 0))=(wlJ (fixE s) 0).map U32 by rw[wlJ_zero,hfl,List.map_replicate]]
 have hrow0:(H++[(⟨nx,30,1,(wlJ (fixE s) 0).map U32⟩:VObj)])[H.length]? = some ⟨nx,30,1,(wlJ (fixE s) 0).map U32⟩:=by simp
 refine VW_loop (fun x:LQ=>⟨[(2,.ptr 1 1 0),(4,.ptr 2 2 0),(7,.ref H.length nx 0 (endE s).l.length),(39,.ref k s' 0 (endE s).l.length),(40,I (endE s).l.length),(41,I x.j)],x.H,x.nx⟩)
  (fun x=>x.j≤(endE s).l.length∧x.H[H.length]? = some ⟨nx,30,1,(wlJ (fixE s) x.j).map U32⟩∧KeepR [] H.length H x.H) (fun x=>(endE s).l.length-x.j) ⟨0,H++[⟨nx,30,1,(wlJ (fixE s) 0).map U32⟩],nx+1⟩
  (Wk.mk (by simp[get_cons]) ⟨[],by simp⟩ (Nat.le_refl _)) ⟨Nat.zero_le _,hrow0,KeepR.of (KeepT.app _ _ _)⟩ ?_
 rintro ⟨i,H5,nx5⟩ ⟨hi,hr5,hk5⟩
 simp only at hi hr5 hk5
 have hkl:=(List.getElem?_eq_some_iff.1 hk).1
 have hc5:=hk5 _ _ hk (by simp) (by omega)
 by_cases hil:i<(endE s).l.length
 ·have hm1:=hok _ (mem_getD (show i<(fixE s).length by omega))
  have hcF:∀ {C:AV→Prop},cellT ((fixE s).map ciL).flatten (i*4) true 4 C .mk=C (.agg (ciL ((fixE s).getD i default))):=fun {C}=>cellT_flat (f:=ciL) (n:=4) (fun _=>rfl) (by omega)
  have hsw:=wlJ_set (fixE s) (show i<(fixE s).length by omega)
  generalize hs:(fixE s).getD i default=t at *
  have l7:=lt_of hr5
  have es:∀ (K:List VObj) (x y:VObj),(K++[x]).set K.length y=K++[y]:=fun K x y=>by simp
  have eg:∀ (K:List VObj) (x:VObj),(K++[x])[K.length]? = some x:=fun K x=>by simp
  have eo:∀ {K:List VObj} {k:Nat} {o:VObj},K[k]? = some o→∀ x:VObj,(K++[x])[k]? = some o:=fun h x=>ap_old h _
  have e5:IntKind.i64.wrap ((i:Int)+1)=((i+1:Nat):Int):=by rw[i64_in (by omega) (by omega)];omega
  simp only[go_sem,eq_true (show (i:Int)<(endE s).l.length by omega),hc5,hcF,es,eg]
  repeat ((with_reducible refine And.intro ?_ ?_);· first | omega | (simp;omega))
  refine VCall.of_contract (encI_c t.op t.a t.b t.c hm1) (SleL.pure rfl) fun x hx=>?_
  subst hx
  simp only[go_sem,eo hr5,Int.reduceEq,bne_self_eq_false,e5]
  refine ⟨hil,by rw[wlJ_len];omega,?_⟩
  rw[show ((wlJ (fixE s) i).map U32).set i (U32 (encI t.op t.a t.b t.c))=(wlJ (fixE s) (i+1)).map U32 by rw[← hsw,List.map_set]]
  exact ⟨⟨i+1,_,nx5+1⟩,⟨by simp only;omega,set_get (eo hr5 _),(hk5.trans (KeepR.of (KeepT.app _ _ _))).trans (KeepR.set _ _ _ _)⟩,by simp only;omega,Wk.mk (by simp[get_cons]) ⟨[],by rw[List.append_nil]⟩ (Nat.le_refl _)⟩
 ·obtain rfl:i=(endE s).l.length:=by omega
  have q1:=hk5 _ _ g1 (by simp) (by have:=(List.getElem?_eq_some_iff.1 g1).1;omega)
  have q2:=hk5 _ _ g2 (by simp) (by have:=(List.getElem?_eq_some_iff.1 g2).1;omega)
  rw[wlJ_all (fixE s) (by omega)]at hr5
  have hr6:∀ w,(H5.set 1 w)[H.length]? = some ⟨nx,30,1,(codeE s).map U32⟩:=fun w=>by
   rw[set_ne (by have:=(List.getElem?_eq_some_iff.1 g1).1;omega)];exact hr5
  simp only[go_sem,VWs_seq,VWs_ret,VWs_ops,VWs_cond,eq_false (show ¬ ((endE s).l.length:Int)<(endE s).l.length by omega)]
  refine ⟨_,Wk.refl _,?_⟩
  simp only[go_sem,VWs_seq,VWs_ret,VWs_ops,VWs_cond,q1,q2]
  refine ⟨_,Wk.refl _,?_⟩
  simp only[go_sem,VWs_seq,VWs_ret,VWs_ops,VWs_cond,q1,q2,set_get q1]
  exact ⟨_,FrzN.tup ⟨_,_,rfl,FrzN.agg ⟨_,_,rfl,frzN_words (hr6 _) (by simp[codeE,hfl]),_,_,rfl,FrzN.val,rfl⟩,_,_,rfl,FrzN.val,rfl⟩,rfl⟩
end
set_option maxRecDepth 10000
open Go.V
section
variable {s:SP}
theorem gen_virt1 (s:SP) (P:PL) (q:GI) (r:AV):∀ (j:Nat) x y,(genL s P q nilv nilv 0 0)[j]? = some x→(genL s P q r nilv 0 0)[j]? = some y→x=y∨(x = .val (.slice none 0 0)∧y=r):=fun j x y hx hy=>by
 rcases j with _ | _ | _ | _ | _ | _ | _ | j<;>simp only[List.getElem?_cons_succ,List.getElem?_cons_zero,Option.some.injEq]at hx hy
 iterate 6 (· left;rw[← hx,← hy])
 ·right;exact ⟨hx.symm,hy.symm⟩
 ·left;rw[hx]at hy;exact Option.some.inj hy
theorem gen_virt2 (s:SP) (P:PL) (q:GI) (r t:AV):∀ (j:Nat) x y,(genL s P q r nilv 0 0)[j]? = some x→(genL s P q r t 0 0)[j]? = some y→x=y∨(x = .val (.slice none 0 0)∧y=t):=fun j x y hx hy=>by
 rcases j with _ | _ | _ | _ | _ | _ | _ | _ | _ | _ | j<;>simp only[List.getElem?_cons_succ,List.getElem?_cons_zero,Option.some.injEq]at hx hy
 iterate 9 (· left;rw[← hx,← hy])
 ·right;exact ⟨hx.symm,hy.symm⟩
 ·left;rw[hx]at hy;exact Option.some.inj hy
theorem of_A (h:OfH s) {env:List (Nat × AV)} {H:List VObj} {kG kE kB:Nat} (g2:get env 2 = .ptr 1 1 0) (g4:get env 4 = .ptr 2 2 0) (g5:get env 5 = .ptr kG kG 0)
 (h1:H[1]? = some ⟨1,38,1,[nilv,I 0]⟩) (h2:H[2]? = some ⟨2,77,1,[dlsA (dlsS s s.funcs.length),ints (bksS s s.funcs.length),ints (bssS s s.funcs.length),I (dataE s)]⟩) (hl:H.length=6)
 (hG:H[kG]? = some ⟨kG,83,1,genL s (planS s s.funcs.length) ⟨kG,kG,kE,kE,kB,kB⟩ nilv nilv 0 0⟩)
 (hE:H[kE]? = some ⟨kE,3,1,List.replicate s.funcs.length (I 0)⟩) (hB:H[kB]? = some ⟨kB,75,1,List.replicate s.funcs.length nilv⟩)
 (h1E:1≠kE) (h1B:1≠kB) (h2E:2≠kE) (h2B:2≠kB) :
 ∃ st'',Wk ⟨env,H,6⟩ st''∧VWs Try.prog (tailC 4 c_emit_Of) (retQ Try.prog [.cell 2 true 2,.tmp 3] fun r H nx=>∃ y,FrzN H nx r y∧y=ofA s) st'':=by
 have hkG:kG<H.length:=(List.getElem?_eq_some_iff.1 hG).1
 have v1:=virt_at (env:=[(2,.ptr 1 1 0),(4,.ptr 2 2 0),(5,.ptr kG kG 0)]) (H:=H) (nx:=6) (i:=kG) (cs':=genL s (planS s s.funcs.length) ⟨kG,kG,kE,kE,kB,kB⟩ (.ref H.length 6 0 0) nilv 0 0) 86 4 (by decide) (by simp[get_cons]) hG (by simp) rfl (gen_virt1 s _ _ _)
 have hG1:(H.set kG ⟨kG,83,1,genL s (planS s s.funcs.length) ⟨kG,kG,kE,kE,kB,kB⟩ (.ref H.length 6 0 0) nilv 0 0⟩++[(⟨6,86,4,[]⟩:VObj)])[kG]? = some ⟨kG,83,1,genL s (planS s s.funcs.length) ⟨kG,kG,kE,kE,kB,kB⟩ (.ref H.length 6 0 0) nilv 0 0⟩:=ap_old (set_get hG) _
 have hI1:(H.set kG ⟨kG,83,1,genL s (planS s s.funcs.length) ⟨kG,kG,kE,kE,kB,kB⟩ (.ref H.length 6 0 0) nilv 0 0⟩++[(⟨6,86,4,[]⟩:VObj)])[H.length]? = some ⟨6,86,4,[]⟩:=by
  rw[List.getElem?_append_right (by simp)];simp
 have t1:∀ {i:Nat} {ob:VObj},H[i]? = some ob→i≠kG→(H.set kG ⟨kG,83,1,genL s (planS s s.funcs.length) ⟨kG,kG,kE,kE,kB,kB⟩ (.ref H.length 6 0 0) nilv 0 0⟩++[(⟨6,86,4,[]⟩:VObj)])[i]? = some ob:=fun {i ob} a1 a2=>ap_old (by rw[set_ne (fun e=>a2 e.symm)];exact a1) _
 generalize (H.set kG ⟨kG,83,1,genL s (planS s s.funcs.length) ⟨kG,kG,kE,kE,kB,kB⟩ (.ref H.length 6 0 0) nilv 0 0⟩++[(⟨6,86,4,[]⟩:VObj)])=H1 at *
 have v2:=virt_at (env:=[(2,.ptr 1 1 0),(4,.ptr 2 2 0),(5,.ptr kG kG 0)]) (H:=H1) (nx:=7) (i:=kG) (cs':=genL s (planS s s.funcs.length) ⟨kG,kG,kE,kE,kB,kB⟩ (.ref H.length 6 0 0) (.ref H1.length 7 0 0) 0 0) 110 3 (by decide) (by simp[get_cons]) hG1 (by simp) rfl (gen_virt2 s _ _ _ _)
 have t2:∀ {i:Nat} {ob:VObj},H1[i]? = some ob→i≠kG→(H1.set kG ⟨kG,83,1,genL s (planS s s.funcs.length) ⟨kG,kG,kE,kE,kB,kB⟩ (.ref H.length 6 0 0) (.ref H1.length 7 0 0) 0 0⟩++[(⟨7,110,3,[]⟩:VObj)])[i]? = some ob:=fun {i ob} a1 a2=>ap_old (by rw[set_ne (fun e=>a2 e.symm)];exact a1) _
 have hG2:(H1.set kG ⟨kG,83,1,genL s (planS s s.funcs.length) ⟨kG,kG,kE,kE,kB,kB⟩ (.ref H.length 6 0 0) (.ref H1.length 7 0 0) 0 0⟩++[(⟨7,110,3,[]⟩:VObj)])[kG]? = some ⟨kG,83,1,genL s (planS s s.funcs.length) ⟨kG,kG,kE,kE,kB,kB⟩ (.ref H.length 6 0 0) (.ref H1.length 7 0 0) 0 0⟩:=ap_old (set_get hG1) _
 have hI2:(H1.set kG ⟨kG,83,1,genL s (planS s s.funcs.length) ⟨kG,kG,kE,kE,kB,kB⟩ (.ref H.length 6 0 0) (.ref H1.length 7 0 0) 0 0⟩++[(⟨7,110,3,[]⟩:VObj)])[H1.length]? = some ⟨7,110,3,[]⟩:=by
  rw[List.getElem?_append_right (by simp)];simp
 generalize (H1.set kG ⟨kG,83,1,genL s (planS s s.funcs.length) ⟨kG,kG,kE,kE,kB,kB⟩ (.ref H.length 6 0 0) (.ref H1.length 7 0 0) 0 0⟩++[(⟨7,110,3,[]⟩:VObj)])=H2 at *
 have ne:∀ {i:Nat} {ob:VObj},H[i]? = some ob→ob.ty≠83→i≠kG:=fun {i ob} a1 a2 e=>by subst e;rw[hG]at a1;cases a1;exact a2 rfl
 have tt:∀ {i:Nat} {ob:VObj},H[i]? = some ob→ob.ty≠83→H2[i]? = some ob:=fun a1 a2=>t2 (t1 a1 (ne a1 a2)) (ne a1 a2)
 have er:List.replicate s.funcs.length (I 0)=(List.replicate s.funcs.length (0:Int)).map I:=by rw[List.map_replicate]
 rw[er]at hE
 have hGH:GH s (planS s s.funcs.length) 0 0 ⟨kG,kG,kE,kE,kB,kB⟩ H2 [] [] (List.replicate s.funcs.length 0) (List.replicate s.funcs.length nilv) :=
  ⟨⟨_,_,hG2,⟨H.length,6,rfl,t2 hI1 (by omega)⟩,⟨H1.length,7,rfl,hI2⟩⟩,tt hE (by simp),tt hB (by simp)⟩
 have v0:Wk ⟨env,H,6⟩ ⟨[(2,.ptr 1 1 0),(4,.ptr 2 2 0),(5,.ptr kG kG 0)],H,6⟩:=by
  refine Wk.mk (fun p hp=>?_) ⟨[],by simp⟩ (Nat.le_refl _)
  simp only[List.mem_cons,List.not_mem_nil,or_false]at hp
  rcases hp with rfl | rfl | rfl
  ·exact g2
  ·exact g4
  ·exact g5
 exact ⟨_,v0.trans (v1.trans v2),of_B h hGH (by simp) (fun x hx=>by rw[(List.mem_replicate.1 hx).2];rfl) (tt h1 (by simp)) (tt h2 (by simp)) h1E h1B h2E h2B _⟩
set_option maxHeartbeats 4000000 in
theorem of22N_c (h:OfH s):ContractN Try.prog 10 [spA s] (fun r=>r=ofA s):=by
 have hq:=f_emit_Of
 unfold compF compFp at hq
 refine ContractN.of_call (VCall.of_bodyS (pt:=false) (pf:=false) hmix hq (by simp) ?_)
 have h64:=h.e.r.n1
 have hmx:(200000:Nat)≤maxLen:=by decide
 have hdat:=h.dat
 have key:=fun env H kG kE kB=>of_A h (env:=env) (H:=H) (kG:=kG) (kE:=kE) (kB:=kB)
 simp only[tailC,c_emit_Of]at key
 simp only[c_emit_Of,go_sem,VWs_seq,VWs_ret,VWs_ops,VWs_cond]
 refine ⟨⟨[(1,.ptr 0 0 0),(2,.ptr 1 1 0)],[⟨0,24,1,[I s.words,fnsA s.funcs]⟩,⟨1,38,1,[nilv,I 0]⟩],2⟩,Wk.mk (by simp[get_cons]) ⟨[],by simp⟩ (Nat.le_refl _),?_⟩
 simp only[go_sem,VWs_seq,VWs_ret,VWs_ops,VWs_cond]
 refine VCall.of_contract (plan_c s h.e.i h.e.r h.e.dat h.e.dep) (SleL.pure rfl) fun x hx=>?_
 subst hx
 simp only[go_sem,VWs_seq,VWs_ret,VWs_ops,VWs_cond]
 have hd2:¬ (32768:Int)<datE s s.funcs.length:=by have:=h.dat;unfold dataE at this;omega
 refine ⟨⟨[(1,.ptr 0 0 0),(2,.ptr 1 1 0),(4,.ptr 2 2 0)],[⟨0,24,1,[I s.words,fnsA s.funcs]⟩,⟨1,38,1,[nilv,I 0]⟩,⟨2,77,1,[dlsA (dlsS s s.funcs.length),ints (bksS s s.funcs.length),ints (bssS s s.funcs.length),I (datE s s.funcs.length)]⟩],3⟩,Wk.mk (by simp[get_cons]) ⟨[],by simp[planS]⟩ (Nat.le_refl _),?_⟩
 simp only[go_sem,VWs_seq,VWs_ret,VWs_ops,VWs_cond,eq_false hd2]
 refine ⟨⟨[(1,.ptr 0 0 0),(2,.ptr 1 1 0),(4,.ptr 2 2 0)],[⟨0,24,1,[I s.words,fnsA s.funcs]⟩,⟨1,38,1,[nilv,I 0]⟩,⟨2,77,1,[dlsA (dlsS s s.funcs.length),ints (bksS s s.funcs.length),ints (bssS s s.funcs.length),I (datE s s.funcs.length)]⟩],3⟩,Wk.mk (by simp[get_cons]) ⟨[],by simp⟩ (Nat.le_refl _),?_⟩
 simp only[go_sem,VWs_seq,VWs_ret,VWs_ops,VWs_cond,flat_rep]
 repeat' (with_reducible apply And.intro)
 all_goals try omega
 ·exact key _ _ 5 3 4 rfl rfl rfl rfl rfl rfl rfl rfl rfl (by decide) (by decide) (by decide) (by decide)
 ·exact key _ _ 5 4 3 rfl rfl rfl rfl rfl rfl rfl rfl rfl (by decide) (by decide) (by decide) (by decide)
theorem of22_c (h:OfH s):Contract Try.prog 10 [spA s] (fun r=>r=ofA s):=(of22N_c h).old
end
def filD (L:Nat) (d:List Int) (P:Nat→Bool):List Int:=(List.range L).map fun i=>if P i then d.getD i (-1) else -1
theorem fil_len (L:Nat) (d:List Int) (P:Nat→Bool):(filD L d P).length=L:=by simp[filD]
theorem fil_at {L:Nat} {d:List Int} {P:Nat→Bool} {i:Nat} (h:i<L):(filD L d P).getD i (-1)=if P i then d.getD i (-1) else -1:=by simp[filD,List.getD,h]
theorem fil_out {L:Nat} {d:List Int} {P:Nat→Bool} {i:Nat} (h:L≤i):(filD L d P).getD i (-1) = -1:=by
 rw[List.getD,List.getElem?_eq_none (by rw[fil_len];exact h)];rfl
theorem neg_out {d:List Int} {i:Nat} (h:0≤d.getD i (-1)):i<d.length:=Classical.byContradiction fun hn=>by
 rw[List.getD,List.getElem?_eq_none (by omega)]at h;exact absurd h (by decide)
section
variable {s:SP} {f:Nat}
theorem fil_sol {d:List Int} (hd:Sol s f d) (P:Nat→Bool) (h0:P 0=true)
 (hs:∀ i,P i=true→0≤d.getD i (-1)→∀ v,effD s f ((s.fn f).code.getD i default) (d.getD i (-1))=some v→∀ k ∈ nextL ((s.fn f).code.getD i default) i,d.getD k.toNat (-1)=v→P k.toNat=true) :
 Sol s f (filD (s.fn f).code.length d P):=by
 have hl:0<(s.fn f).code.length:=List.length_pos_iff.2 hd.ne
 refine ⟨hd.ne,fil_len _ _ _,by rw[fil_at hl,h0];exact hd.zero,fun i hi hp=>?_⟩
 rw[fil_len]at hi
 rw[fil_at hi]at hp
 by_cases hP:P i=true
 ·rw[if_pos hP]at hp
  obtain ⟨v,h1,h2⟩:=hd.cl i (by rw[hd.len];exact hi) hp
  refine ⟨v,by rw[fil_at hi,if_pos hP];exact h1,fun k hk=>?_⟩
  obtain ⟨k1,k2,k3⟩:=h2 k hk
  exact ⟨k1,k2,by rw[fil_at (by omega),if_pos (hs i hP hp v h1 k hk k3)];exact k3⟩
 ·rw[if_neg hP]at hp;exact absurd hp (by decide)
theorem negs_cmp:∀ (l m:List Int),l.length=m.length→(∀ i,l.getD i (-1)<0→m.getD i (-1)<0)→negs l≤negs m∧((∃ i,0≤l.getD i (-1)∧m.getD i (-1)<0)→negs l<negs m)
 | [],[],_,_=>⟨Nat.le_refl _,fun ⟨i,h,_⟩=>absurd (neg_out h) (Nat.not_lt_zero _)⟩
 | [],_::_,h,_=>by simp at h
 | _::_,[],h,_=>by simp at h
 | a::l,b::m,hl,h=>by
  obtain ⟨i1,i2⟩:=negs_cmp l m (by simpa using hl) fun i hi=>by have:=h (i+1);simp only[List.getD_cons_succ]at this;exact this hi
  have h0:=h 0
  simp only[List.getD_cons_zero]at h0
  unfold negs at *
  simp only[List.countP_cons,decide_eq_true_eq]
  by_cases ha:a<0
  ·rw[if_pos ha,if_pos (h0 ha)]
   refine ⟨by omega,fun ⟨i,g1,g2⟩=>?_⟩
   cases i with
   | zero=>simp only[List.getD_cons_zero]at g1;omega
   | succ i=>simp only[List.getD_cons_succ]at g1 g2;have:=i2 ⟨i,g1,g2⟩;omega
  ·rw[if_neg ha]
   refine ⟨by split<;>omega,fun ⟨i,g1,g2⟩=>?_⟩
   cases i with
   | zero=>simp only[List.getD_cons_zero]at g2;rw[if_pos g2];omega
   | succ i=>simp only[List.getD_cons_succ]at g1 g2;have:=i2 ⟨i,g1,g2⟩;split<;>omega
theorem sol_max:∀ (n:Nat) (d:List Int),Sol s f d→(s.fn f).code.length-negs d≤n→∃ d,Sol s f d∧∀ e,Sol s f e→negs e≤negs d
 | 0,d,hd,hn=>⟨d,hd,fun e he=>by have:=negs_le (dl:=e);have:=he.len;omega⟩
 | n+1,d,hd,hn=>by
  by_cases h:∃ e,Sol s f e∧negs d<negs e
  ·obtain ⟨e,he,hlt⟩:=h
   have:=negs_le (dl:=e);have:=he.len
   exact sol_max n e he (by omega)
  ·exact ⟨d,hd,fun e he=>Classical.byContradiction fun hn=>h ⟨e,he,by omega⟩⟩
theorem fil_negs {d:List Int} {P:Nat→Bool} (hd:d.length=(s.fn f).code.length):negs d≤negs (filD (s.fn f).code.length d P)∧((∃ i,0≤d.getD i (-1)∧P i=false)→negs d<negs (filD (s.fn f).code.length d P)):=by
 obtain ⟨h1,h2⟩:=negs_cmp d (filD (s.fn f).code.length d P) (by rw[fil_len,hd]) fun i hi=>by
  by_cases hl:i<(s.fn f).code.length
  ·rw[fil_at hl];split
   ·exact hi
   ·decide
  ·rw[fil_out (by omega)];decide
 refine ⟨h1,fun ⟨i,g1,g2⟩=>h2 ⟨i,g1,?_⟩⟩
 rw[fil_at (by rw[← hd];exact neg_out g1),g2,if_neg (by decide)];decide
theorem cnt_step (v:Int) (hv:0≤v):∀ (l:List Int) (i:Nat),l[i]? = some v→l.countP (fun x=>decide (0≤x∧x<v))+1≤l.countP (fun x=>decide (0≤x∧x<v+1))
 | [],i,h=>by simp at h
 | a::l,i,h=>by
  have hm:l.countP (fun x=>decide (0≤x∧x<v))≤l.countP (fun x=>decide (0≤x∧x<v+1)):=List.countP_mono_left fun x _ hx=>by simp only[decide_eq_true_eq]at hx ⊢;omega
  simp only[List.countP_cons,decide_eq_true_eq]
  cases i with
  | zero =>
   simp only[List.getElem?_cons_zero,Option.some.injEq]at h;subst h
   rw[if_neg (by omega),if_pos (by omega)];omega
  | succ i =>
   have:=cnt_step v hv l i (by simpa using h)
   by_cases g:0≤a∧a<v
   ·rw[if_pos g,if_pos (by omega)];omega
   ·rw[if_neg g];split<;>omega
theorem depR_ex (h:∃ d,Sol s f d):∃ d,DepthsR s f d true:=by
 obtain ⟨d0,h0⟩:=h
 obtain ⟨d1,h1,m1⟩:=sol_max _ d0 h0 (Nat.le_refl _)
 obtain ⟨d,hd⟩:∃ d,d=filD (s.fn f).code.length d1 (fun i=>decide (0≤d1.getD i (-1))):=⟨_,rfl⟩
 have hs:Sol s f d:=by
  rw[hd]
  exact fil_sol h1 _ (by rw[h1.zero];rfl) fun i hi hp v hv k hk e=>by
   have:=effD_bound hv
   rw[decide_eq_true_eq];omega
 have hm:∀ e,Sol s f e→negs e≤negs d:=fun e he=>Nat.le_trans (m1 e he) (by rw[hd];exact (fil_negs h1.len).1)
 have hge:∀ i,-1≤d.getD i (-1):=fun i=>by
  rw[hd]
  by_cases hl:i<(s.fn f).code.length
  ·rw[fil_at hl];split
   ·rename_i h;rw[decide_eq_true_eq]at h;omega
   ·decide
  ·rw[fil_out (by omega)];decide
 clear hd
 have none:∀ P:Nat→Bool,Sol s f (filD (s.fn f).code.length d P)→∀ i,0≤d.getD i (-1)→P i=true:=fun P hP i hi=>Classical.byContradiction fun hn=>by
  have:=(fil_negs (P:=P) hs.len).2 ⟨i,hi,by simpa using hn⟩
  have:=hm _ hP
  omega
 have hpos:0<d.length:=by rw[hs.len];exact List.length_pos_iff.2 hs.ne
 have hval:∀ v:Nat,(∃ i,(v:Int)≤d.getD i (-1))→∃ i,d[i]? = some (v:Int):=fun v ⟨i,hi⟩=>by
  refine Classical.byContradiction fun hn=>?_
  have hne:∀ k,d.getD k (-1)≠(v:Int):=fun k e=>hn ⟨k,by
   have:=neg_out (d:=d) (i:=k) (by omega)
   rw[List.getD,List.getElem?_eq_getElem this]at e
   rw[List.getElem?_eq_getElem this,← e];rfl⟩
  have hv0:v≠0:=fun e=>by subst e;exact hne 0 hs.zero
  have:=none (fun i=>decide (d.getD i (-1)<(v:Int))) (fil_sol hs _ (by rw[decide_eq_true_eq,hs.zero];omega) fun i hi hp w hw k hk e=>by
   rw[decide_eq_true_eq]at hi ⊢
   have:=effD_bound hw
   have:=hne k.toNat
   omega) i (by omega)
  rw[decide_eq_true_eq]at this
  omega
 have hcnt:∀ v:Nat,(∃ i,(v:Int)≤d.getD i (-1))→v≤d.countP (fun x=>decide (0≤x∧x<(v:Int))):=fun v=>by
  induction v with
  | zero=>exact fun _=>Nat.zero_le _
  | succ v ih =>
   intro ⟨i,hi⟩
   have h1:=ih ⟨i,by omega⟩
   obtain ⟨j,hj⟩:=hval v ⟨i,by omega⟩
   have:=cnt_step (v:Int) (by omega) d j hj
   rw[show ((v+1:Nat):Int)=(v:Int)+1 by omega];omega
 refine ⟨d,fun _=>⟨hs,fun i=>?_,hge⟩,fun out ho=>⟨rfl,fun i hi=>?_⟩⟩
 ·by_cases hi:0≤d.getD i (-1)
  ·have:=hcnt (d.getD i (-1)).toNat ⟨i,by omega⟩
   have:=List.countP_le_length (l:=d) (p:=fun x=>decide (0≤x∧x<((d.getD i (-1)).toNat:Int)))
   omega
  ·omega
 ·have:=none (fun i=>decide (out.getD i (-1)=d.getD i (-1))) (fil_sol hs _ (by rw[decide_eq_true_eq,hs.zero,ho.zero]) fun i hi hp v hv k hk e=>by
   rw[decide_eq_true_eq]at hi ⊢
   have hlt:=neg_out (d:=out) (i:=i) (by omega)
   obtain ⟨w,k1,k2⟩:=ho.cl i hlt (by omega)
   rw[hi,hv]at k1
   cases k1
   rw[(k2 k hk).2.2,e]) i hi
  rw[decide_eq_true_eq]at this
  exact this
end
theorem foldmax_ge:∀ (l:List Int) (a:Int),a≤l.foldl max a∧∀ x ∈ l,x≤l.foldl max a
 | [],a=>⟨Int.le_refl _,fun x hx=>by cases hx⟩
 | y::l,a=>by
  obtain ⟨h1,h2⟩:=foldmax_ge l (max a y)
  simp only[List.foldl_cons]
  refine ⟨by omega,fun x hx=>?_⟩
  rcases List.mem_cons.1 hx with rfl | hx
  ·omega
  ·exact h2 x hx
theorem foldmax_le {n:Int}:∀ (l:List Int) (a:Int),a≤n→(∀ x ∈ l,x≤n)→l.foldl max a≤n
 | [],a,h,_=>h
 | y::l,a,h,k=>foldmax_le l (max a y) (by have:=k y List.mem_cons_self;omega) fun x hx=>k x (List.mem_cons_of_mem _ hx)
theorem dpE_nn (l:List Int):0≤dpE l:=(foldmax_ge l 0).1
theorem dpE_at {l:List Int} {k:Nat} {d:Nat} (h:l.getD k (-1)=(d:Int)):(d:Int)≤dpE l:=by
 rw[List.getD]at h
 cases hk:l[k]? with
 | none=>rw[hk]at h;simp at h;try omega
 | some x=>rw[hk]at h;exact (foldmax_ge l 0).2 _ (by rw[← h];exact List.mem_of_getElem? hk)
section
variable {s:SP}
theorem datE_next (f:Nat):datE s (f+1)=baseE s f+dpE (depS s f):=rfl
theorem base_ge (f:Nat):datE s f≤baseE s f:=by unfold baseE;split<;>omega
theorem base_le (f:Nat):baseE s f≤datE s f+1:=by unfold baseE;split<;>omega
theorem base_back {f:Nat} (h:f+1<s.funcs.length):baseE s f=datE s f+1:=by unfold baseE;rw[if_neg (by omega)]
theorem datE_mono {f g:Nat} (h:f≤g):datE s f≤datE s g:=by
 induction h with
 | refl=>exact Int.le_refl _
 | @step m h ih=>have:=base_ge (s:=s) m;have:=dpE_nn (depS s m);rw[Nat.succ_eq_add_one,datE_next];omega
theorem words_le (f:Nat):s.words≤datE s f:=datE_mono (Nat.zero_le f)
theorem datE_le {f:Nat} (h:f≤s.funcs.length):datE s f≤dataE s:=datE_mono h
theorem depS_R (h:RightP s) {f:Nat} (hf:f<s.funcs.length):DepthsR s f (depS s f) true:=by
 obtain ⟨d,hd⟩:=depR_ex (h.fn f hf).sol
 rw[depS_eq hd];exact hd
theorem depS_sol (h:RightP s) {f:Nat} (hf:f<s.funcs.length):Sol s f (depS s f):=((depS_R h hf).1 rfl).1
theorem depS_mem (h:RightP s) {f:Nat} (hf:f<s.funcs.length) {x:Int} (hx:x ∈ depS s f):x≤(s.fn f).code.length:=by
 obtain ⟨h1,h2,_⟩:=(depS_R h hf).1 rfl
 obtain ⟨i,hi,rfl⟩:=List.getElem_of_mem hx
 have:=h2 i
 rw[List.getD,List.getElem?_eq_getElem hi,h1.len]at this
 exact this
theorem dpS_le (h:RightP s) {f:Nat} (hf:f<s.funcs.length):dpE (depS s f)≤(s.fn f).code.length:=foldmax_le _ _ (by omega) fun x hx=>depS_mem h hf hx
def hndI (s:SP) (x:SI):Nat:=if x.op=10 then (s.fn x.a.toNat).params.toNat else 0
def hndL (s:SP) (l:List SI):Nat:=(l.map (hndI s)).sum
def totS (w:SF→Nat) (l:List SF):Nat:=(l.map w).sum
theorem totS_step (w:SF→Nat) (l:List SF) {k:Nat} (h:k<l.length):totS w (l.take (k+1))=totS w (l.take k)+w (l.getD k default):=by
 unfold totS
 have e:l.take (k+1)=l.take k++[l.getD k default]:=by rw[List.take_add_one];simp[List.getD,List.getElem?_eq_getElem h]
 rw[e];simp
theorem totS_take (w:SF→Nat) (l:List SF) (k:Nat):totS w (l.take k)≤totS w l:=by
 conv=>rhs;rw[← List.take_append_drop k l]
 unfold totS
 rw[List.map_append,List.sum_append];omega
theorem totS_mem {w:SF→Nat}:∀ {l:List SF} {x:SF},x ∈ l→w x≤totS w l
 | a::l,x,h=>by
  simp only[totS,List.map_cons,List.sum_cons]
  rcases List.mem_cons.1 h with rfl | h
  ·omega
  ·have:=totS_mem (w:=w) h;unfold totS at this;omega
def lenF (g:SF):Nat:=g.code.length
def sizeN (s:SP):Nat:=totS lenF s.funcs
def hndN (s:SP):Nat:=totS (fun g=>hndL s g.code) s.funcs
theorem fn_mem {f:Nat} (hf:f<s.funcs.length):s.fn f ∈ s.funcs:=by
 unfold SP.fn;rw[List.getD,List.getElem?_eq_getElem hf];exact List.getElem_mem hf
theorem datE_bd (h:RightP s):∀ f≤s.funcs.length,datE s f≤s.words+f+totS lenF (s.funcs.take f)
 | 0,_=>by show s.words≤_;omega
 | f+1,hf=>by
  have h1:=datE_bd h f (by omega)
  have h2:=base_le (s:=s) f
  have h3:=dpS_le h (f:=f) (by omega)
  rw[datE_next,totS_step lenF s.funcs (by omega)]
  show _≤s.words+((f+1:Nat):Int)+((totS lenF (s.funcs.take f)+(s.fn f).code.length:Nat):Int)
  omega
end
set_option maxRecDepth 10000
open Go.V
section
variable {α:Type}
end
section
variable (c0 c1 c2 vs vc c5 c6 c7:AV) (o0 o1 o2 o4:VObj) (T:List VObj) (sm nx:Nat)
end
set_option maxRecDepth 10000
open Go.V
section
variable (c0 c1 vs vc vo:AV) (inp:ByteArray) (o0 o1 o4:VObj) (T:List VObj) (s2 sm nx:Nat) (mem:List Int) (rd:Nat)
abbrev wdO (s2:Nat) (mem:List Int):VObj:=⟨s2,30,1,mem.map U32⟩
end
set_option maxRecDepth 10000
open Go.V
theorem PW.add {T:List VObj} {v:AV} {l:List Int} (h:PW T v l) (R:List VObj):PW (T++R) v l:=h.kp (ty:=1000000) (Kp.add R) (by decide)
theorem PO.add {T:List VObj} {v:AV} {l:List UInt8} (h:PO T v l) (R:List VObj):PO (T++R) v l:=h.kp (ty:=1000000) (Kp.add R) (by decide)
theorem byteS_eq (r:Int):((byteS r).toNat:Int)=IntKind.u8.wrap r:=by
 unfold byteS
 rw[IntKind.wrap_u8]
 simp only[UInt8.toNat_ofNat']
 omega
set_option maxRecDepth 10000
open Go.V
theorem stepS_eq {s:SP} {inp:ByteArray} {σ:SM} (h:σ.fin=0):stepS s inp σ=stepI s inp (s.ins σ.top.f σ.top.at_) σ.next:=if_pos h
theorem effD_some {s:SP} {f:Nat} {x:SI} {d e:Int} (h:effD s f x d=some e):∃ t p,tkS s f x=some (t,p)∧0≤t∧t≤d∧(x.op=11→d=t)∧e=d-t+p:=by
 unfold effD at h
 split at h
 ·cases h
 ·rename_i t p ht
  split at h
  ·cases h
  ·rename_i hn
   cases h
   refine ⟨t,p,ht,by omega,by omega,fun h11=>?_,rfl⟩
   exact Classical.byContradiction fun hd=>hn (.inr (.inr ⟨h11,hd⟩))
structure Fr1 (s:SP) (D:Nat→List Int) (c:Fm) (e:Nat):Prop where
 f:c.f<s.funcs.length
 k:c.at_<(s.fn c.f).code.length
 d:(D c.f).getD c.at_ (-1)=((c.L.length+e:Nat):Int)
def BelOK (s:SP) (D:Nat→List Int):Nat→List Fm→Prop
 | f,[]=>(s.fn f).word=false
 | f,c::rest=>Fr1 s D c (cntB (s.fn f).word)∧BelOK s D c.f rest
structure InvS (s:SP) (D:Nat→List Int) (σ:SM):Prop where
 mem:σ.mem.length=s.words.toNat
 top:Fr1 s D σ.top 0
 below:BelOK s D σ.top.f σ.below
theorem inv_at {s:SP} {D:Nat→List Int} {σ:SM} (hD:∀ f,f<s.funcs.length→Sol s f (D f)) (h:InvS s D σ) :
 ∃ t p,tkS s σ.top.f (s.ins σ.top.f σ.top.at_)=some (t,p)∧0≤t∧t≤σ.top.L.length∧((s.ins σ.top.f σ.top.at_).op=11→(σ.top.L.length:Int)=t) ∧
  ∀ k ∈ nextL (s.ins σ.top.f σ.top.at_) σ.top.at_,0≤k∧k<(s.fn σ.top.f).code.length∧(D σ.top.f).getD k.toNat (-1)=σ.top.L.length-t+p:=by
 have hs:=hD _ h.top.f
 obtain ⟨e,h1,h2⟩:=hs.cl σ.top.at_ (by rw[hs.len];exact h.top.k) (by rw[h.top.d];omega)
 rw[h.top.d]at h1
 obtain ⟨t,p,g1,g2,g3,g4,g5⟩:=effD_some h1
 refine ⟨t,p,g1,g2,by omega,fun h11=>by have:=g4 h11;omega,fun k hk=>?_⟩
 obtain ⟨q1,q2,q3⟩:=h2 k hk
 exact ⟨q1,q2,by rw[q3,g5];omega⟩
theorem inv_good {s:SP} {D:Nat→List Int} {σ:SM} (hR:RightP s) (hD:∀ f,f<s.funcs.length→Sol s f (D f)) (h:InvS s D σ):Good s σ:=by
 obtain ⟨t,p,h1,h2,h3,h4,h5⟩:=inv_at hD h
 have hfit:=(hR.fn _ h.top.f).fits _ h.top.k
 refine ⟨h.top.f,h.top.k,?_⟩
 have hm:=h.mem
 have hw0:=hR.w0
 generalize s.ins σ.top.f σ.top.at_=x at *
 obtain ⟨f1,f2,f3⟩:=hfit
 unfold OkI
 rcases f3 with ⟨g1,g2⟩ | ⟨g1,g2,g3⟩ | ⟨g1,g2,g3,g4,g5⟩ | ⟨g1,g2,g3⟩ | ⟨g1,g2,g3⟩ | ⟨g1,g2,g3⟩
 ·rcases g1 with e | e | e | e | e
  ·exact .inl e
  ·have ht:tkS s σ.top.f x=some (1,1):=by simp[tkS,e]
   rw[ht]at h1;cases h1
   exact .inr (.inr (.inr (.inr (.inr (.inr (.inl ⟨e,by omega⟩))))))
  ·have ht:tkS s σ.top.f x=some (((cntB (s.fn σ.top.f).word:Nat):Int),0):=by simp[tkS,e]
   rw[ht]at h1;cases h1
   have:=h4 e
   exact .inr (.inr (.inr (.inr (.inr (.inr (.inr (.inr (.inr (.inr (.inl ⟨e,by omega⟩))))))))))
  ·exact .inr (.inr (.inr (.inr (.inr (.inr (.inr (.inr (.inr (.inr (.inr (.inl e)))))))))))
  ·have ht:tkS s σ.top.f x=some (1,0):=by simp[tkS,e]
   rw[ht]at h1;cases h1
   exact .inr (.inr (.inr (.inr (.inr (.inr (.inr (.inr (.inr (.inr (.inr (.inr ⟨e,by omega⟩)))))))))))
 ·rcases g1 with e | e
  ·exact .inr (.inl ⟨e,g2,by omega⟩)
  ·have ht:tkS s σ.top.f x=some (1,0):=by simp[tkS,e]
   rw[ht]at h1;cases h1
   exact .inr (.inr (.inl ⟨e,g2,by omega,by omega⟩))
 ·rcases g1 with e | e
  ·have ht:tkS s σ.top.f x=some (1,1):=by simp[tkS,e]
   rw[ht]at h1;cases h1
   exact .inr (.inr (.inr (.inl ⟨e,g2,by omega,by omega,by omega⟩)))
  ·have ht:tkS s σ.top.f x=some (2,0):=by simp[tkS,e]
   rw[ht]at h1;cases h1
   exact .inr (.inr (.inr (.inr (.inl ⟨e,g2,by omega,by omega,by omega⟩))))
 ·have ht:tkS s σ.top.f x=some (2,1):=by simp[tkS,g1]
  rw[ht]at h1;cases h1
  exact .inr (.inr (.inr (.inr (.inr (.inl ⟨g1,by omega⟩)))))
 ·rcases g1 with e | e
  ·exact .inr (.inr (.inr (.inr (.inr (.inr (.inr (.inl ⟨e,g2⟩)))))))
  ·have ht:tkS s σ.top.f x=some (1,0):=by simp[tkS,e]
   rw[ht]at h1;cases h1
   exact .inr (.inr (.inr (.inr (.inr (.inr (.inr (.inr (.inl ⟨e,g2,by omega⟩))))))))
 ·have hf:=h.top.f
  have ha:x.a<(s.funcs.length:Int):=by omega
  have ht:tkS s σ.top.f x=some ((s.fn x.a.toNat).params,((cntB (s.fn x.a.toNat).word:Nat):Int)):=by simp[tkS,g1,g2,ha]
  rw[ht]at h1;cases h1
  obtain ⟨k1,k2,k3,k4,k5⟩:=(hR.fn x.a.toNat (by omega)).h
  exact .inr (.inr (.inr (.inr (.inr (.inr (.inr (.inr (.inr (.inl ⟨g1,g2,ha,k1,k2,k3,by omega,by omega⟩)))))))))
theorem inv_step {s:SP} {D:Nat→List Int} {σ:SM} {inp:ByteArray} (hR:RightP s) (hD:∀ f,f<s.funcs.length→Sol s f (D f)) (h:InvS s D σ) (h0:σ.fin=0) (hn:(stepS s inp σ).fin=0):InvS s D (stepS s inp σ):=by
 have hg:=(inv_good hR hD h).ok
 obtain ⟨t,p,h1,h2,h3,h4,h5⟩:=inv_at hD h
 rw[stepS_eq h0]at hn ⊢
 obtain ⟨mem,rd,out,steps,fin,⟨f,k,L⟩,below⟩:=σ
 obtain ⟨im,it,ib⟩:=h
 simp only at h1 h2 h3 h4 h5 im it ib h0
 subst h0
 obtain ⟨jf,jk,jd⟩:=it
 simp only at jf jk jd
 generalize s.ins f k=x at *
 simp only[SM.next]at hn ⊢
 have ok:∀ mem' rd' out' (L':List Int),mem'.length=mem.length→nextL x k=[(k:Int)+1]→(L'.length:Int)=L.length-t+p→InvS s D ⟨mem',rd',out',steps+1,0,⟨f,k+1,L'⟩,below⟩:=fun mem' rd' out' L' e1 e2 e3=>by
  obtain ⟨q1,q2,q3⟩:=h5 ((k:Int)+1) (by rw[e2];simp)
  refine ⟨e1.trans im,⟨jf,by simp only;omega,?_⟩,ib⟩
  rw[show ((k:Int)+1).toNat=k+1 by omega]at q3
  simp only;rw[q3,← e3];simp
 unfold OkI at hg
 rcases hg with e | ⟨e,ha,hb⟩ | ⟨e,ha,hb,hl⟩ | ⟨e,ha,hb,hab,hl⟩ | ⟨e,ha,hb,hab,hl⟩ | ⟨e,hl⟩ | ⟨e,hl⟩ | ⟨e,ha⟩ | ⟨e,ha,hl⟩ | ⟨e,ha,hb,hc⟩ | ⟨e,hl⟩ | e | ⟨e,hl⟩
 all_goals try simp only at *
 ·rw[show tkS s f x=some (0,1) by simp[tkS,e]]at h1;cases h1
  simp only[stepI,e,Int.reduceEq,if_true,if_false,SM.setL]at hn ⊢
  exact ok _ _ _ _ rfl (by simp[nextL,e]) (by simp)
 ·rw[show tkS s f x=some (0,1) by simp[tkS,e]]at h1;cases h1
  simp only[stepI,e,Int.reduceEq,if_true,if_false,SM.setL]at hn ⊢
  exact ok _ _ _ _ rfl (by simp[nextL,e]) (by simp)
 ·rw[show tkS s f x=some (1,0) by simp[tkS,e]]at h1;cases h1
  simp only[stepI,e,Int.reduceEq,if_true,if_false,SM.setL]at hn ⊢
  exact ok _ _ _ _ (by simp) (by simp[nextL,e]) (by simp;omega)
 ·rw[show tkS s f x=some (1,1) by simp[tkS,e]]at h1;cases h1
  simp only[stepI,e,Int.reduceEq,if_true,if_false,SM.setL]at hn ⊢
  by_cases hx:L.headD 0<x.b
  ·rw[if_pos hx];exact ok _ _ _ _ rfl (by simp[nextL,e]) (by simp;omega)
  ·rw[if_neg hx]at hn;simp at hn
 ·rw[show tkS s f x=some (2,0) by simp[tkS,e]]at h1;cases h1
  simp only[stepI,e,Int.reduceEq,if_true,if_false,SM.setL]at hn ⊢
  by_cases hx:L.tail.headD 0<x.b
  ·rw[if_pos hx];exact ok _ _ _ _ (by simp) (by simp[nextL,e]) (by simp;omega)
  ·rw[if_neg hx]at hn;simp at hn
 ·rw[show tkS s f x=some (2,1) by simp[tkS,e]]at h1;cases h1
  simp only[stepI,e,Int.reduceEq,if_true,if_false,SM.setL]at hn ⊢
  by_cases hx:(applyW x.a (L.tail.headD 0) (L.headD 0)).2=0
  ·rw[if_pos hx];exact ok _ _ _ _ rfl (by simp[nextL,e]) (by simp;omega)
  ·rw[if_neg hx]at hn;simp at hn
 ·rw[show tkS s f x=some (1,1) by simp[tkS,e]]at h1;cases h1
  simp only[stepI,e,Int.reduceEq,if_true,if_false,SM.setL]at hn ⊢
  exact ok _ _ _ _ rfl (by simp[nextL,e]) (by simp;omega)
 ·rw[show tkS s f x=some (0,0) by simp[tkS,e]]at h1;cases h1
  simp only[stepI,e,Int.reduceEq,if_true,if_false,SM.jump]at hn ⊢
  obtain ⟨q1,q2,q3⟩:=h5 x.a (by simp[nextL,e])
  exact ⟨im,⟨jf,by simp only;omega,by simp only;rw[q3];simp⟩,ib⟩
 ·rw[show tkS s f x=some (1,0) by simp[tkS,e]]at h1;cases h1
  simp only[stepI,e,Int.reduceEq,if_true,if_false,SM.jump,SM.setL]at hn ⊢
  by_cases hx:L.headD 0=0
  ·rw[if_pos hx]
   obtain ⟨q1,q2,q3⟩:=h5 x.a (by simp[nextL,e])
   exact ⟨im,⟨jf,by simp only;omega,by simp only;rw[q3];simp;omega⟩,ib⟩
  ·rw[if_neg hx]
   obtain ⟨q1,q2,q3⟩:=h5 ((k:Int)+1) (by simp[nextL,e])
   rw[show ((k:Int)+1).toNat=k+1 by omega]at q3
   exact ⟨im,⟨jf,by simp only;omega,by simp only;rw[q3];simp;omega⟩,ib⟩
 ·rw[show tkS s f x=some ((s.fn x.a.toNat).params,((cntB (s.fn x.a.toNat).word:Nat):Int)) by simp[tkS,e,ha,hb]]at h1;cases h1
  simp only[stepI,e,Int.reduceEq,if_true,if_false,SM.call]at hn ⊢
  have hgl:x.a.toNat<s.funcs.length:=by omega
  have hz:=(hD x.a.toNat hgl).zero
  have hne:=(hD x.a.toNat hgl).ne
  obtain ⟨q1,q2,q3⟩:=h5 ((k:Int)+1) (by simp[nextL,e])
  rw[show ((k:Int)+1).toNat=k+1 by omega]at q3
  refine ⟨?_,⟨hgl,?_,?_⟩,⟨jf,by simp only;omega,?_⟩,ib⟩
  ·simp only
   rw[← im]
   refine putR_length ?_
   rw[ownW_length hc rfl]
   have:=hc.fs;have:=hc.f0;have:=hc.p0;have:=hc.ps
   omega
  ·simp only
   cases hcd:(s.fn x.a.toNat).code with
   | nil=>exact absurd hcd hne
   | cons a l=>simp
  ·simp only;rw[hz];simp
  ·simp only;rw[q3]
   have:=hc.deep
   simp only[List.length_drop];omega
 ·simp only[stepI,e,Int.reduceEq,if_true,if_false,SM.ret]at hn ⊢
  cases below with
  | nil=>simp at hn
  | cons c rest =>
   simp only at hn ⊢
   obtain ⟨⟨b1,b2,b3⟩,b4⟩:=ib
   refine ⟨im,⟨b1,b2,?_⟩,b4⟩
   simp only;rw[b3]
   cases (s.fn f).word<;>simp[cntB]<;>omega
 ·rw[show tkS s f x=some (0,1) by simp[tkS,e]]at h1;cases h1
  simp only[stepI,e,Int.reduceEq,if_true,if_false,SM.setL]at hn ⊢
  by_cases hx:rd<inp.size
  ·rw[if_pos hx];exact ok _ _ _ _ rfl (by simp[nextL,e]) (by simp)
  ·rw[if_neg hx];exact ok _ _ _ _ rfl (by simp[nextL,e]) (by simp)
 ·rw[show tkS s f x=some (1,0) by simp[tkS,e]]at h1;cases h1
  simp only[stepI,e,Int.reduceEq,if_true,if_false,SM.setL]at hn ⊢
  exact ok _ _ _ _ rfl (by simp[nextL,e]) (by simp;omega)
set_option maxRecDepth 10000
open Go.V
section
variable {op a b c:Int}
theorem ok_num (ho:op=16∨op=17) (ha:0≤a∧a≤15) (hb:0≤b∧b≤15) (hc:0≤c∧c≤65535):okI op a b c=true:=by
 rcases ho with rfl | rfl<;>simp[okI,vOp,winB,hA,hB,cK]<;>omega
theorem ok_one (ho:op=1∨op=2∨op=19∨op=20∨op=21∨op=25) (ha:0≤a∧a≤15) (hc:0≤c∧c≤65535):okI op a 0 c=true:=by
 rcases ho with rfl | rfl | rfl | rfl | rfl | rfl<;>simp[okI,vOp,winB,hA,hB,cK]<;>omega
theorem ok_jmp (hc:0≤c∧c≤65535):okI 18 0 0 c=true:=by simp[okI,vOp,winB,hA,hB,cK];omega
theorem ok_reg (ho:op=22∨op=23∨op=24) (ha:0≤a∧a≤15):okI op a 0 0=true:=by
 rcases ho with rfl | rfl | rfl<;>simp[okI,vOp,winB,hA,hB,cK]<;>omega
theorem ok_halt:okI 26 0 0 0=true:=by decide
theorem ok_op (ho:4≤op∧op≤15) (ha:0≤a∧a≤15) (hb:0≤b∧b≤15) (hc:0≤c∧c≤15):okI op a b c=true:=by
 have h1:op≠18:=by omega
 have h2:op≠26:=by omega
 have e1:vOp op=true:=by simp[vOp];omega
 have e2:hA op=true:=by simp[hA,e1,h1,h2]
 have e3:hB op=true:=by simp[hB];omega
 have e4:cK op=2:=by unfold cK;rw[if_pos ho]
 simp[okI,e1,e2,e3,e4,winB];omega
end
structure SzP (s:SP):Prop where
 r:RightP s
 wf:WfP s
 w:s.words≤8000
 n:sizeN s≤2000
 h:hndN s≤2000
def HasGet (s:SP):Prop:=∃ f<s.funcs.length,∃ k<(s.fn f).code.length,(s.ins f k).op=12
structure SyOk (s:SP) (y:Sy):Prop where
 ok:y.2=none→okI y.1.op y.1.a y.1.b y.1.c=true
 j:∀ p,y.2=some p→(∀ x,0≤x∧x≤65535→okI y.1.op y.1.a y.1.b x=true)∧0≤p.1∧p.1<s.funcs.length∧p.2<((s.fn p.1.toNat).code.length:Int)
 n27:y.1.op≠27
 g:y.1.op=23→HasGet s
theorem SyOk.p {s:SP} {op a bb c:Int} (h:okI op a bb c=true) (h27:op≠27) (h23:op≠23):SyOk s (pY op a bb c):=⟨fun _=>h,fun p hp=>by simp[pY]at hp,h27,fun e=>absurd e h23⟩
theorem SyOk.jm {s:SP} {op a f to:Int} (h:∀ x,0≤x∧x≤65535→okI op a 0 x=true) (h0:0≤f) (h1:f<s.funcs.length) (h2:to<((s.fn f.toNat).code.length:Int)) (h27:op≠27) (h23:op≠23):SyOk s (jY op a f to) :=
 ⟨fun e=>by simp[jY]at e,fun p hp=>by simp only[jY,Option.some.injEq]at hp;subst hp;exact ⟨h,h0,h1,h2⟩,h27,fun e=>absurd e h23⟩
theorem all_app {P:Sy→Prop} {l m:List Sy} (h1:∀ y ∈ l,P y) (h2:∀ y ∈ m,P y):∀ y ∈ l++m,P y:=fun y hy=>(List.mem_append.1 hy).elim (h1 y) (h2 y)
theorem all_cons {P:Sy→Prop} {x:Sy} {l:List Sy} (h:P x) (h2:∀ y ∈ l,P y):∀ y ∈ x::l,P y:=fun y hy=>(List.mem_cons.1 hy).elim (fun e=>by rw[e];exact h) (h2 y)
theorem all_nil {P:Sy→Prop}:∀ y ∈ ([]:List Sy),P y:=fun y hy=>by cases hy
section
variable {s:SP} {f:Nat}
theorem SzP.dat (h:SzP s) {f:Nat} (hf:f≤s.funcs.length):0≤datE s f∧datE s f≤10100:=by
 have h1:=datE_bd h.r f hf
 have h2:=words_le (s:=s) f
 have h3:=h.r.w0
 have h4:=h.r.n1
 have h5:=totS_take lenF s.funcs f
 have h6:=h.n
 have h7:=h.w
 unfold sizeN at h6
 omega
theorem SzP.code (h:SzP s) {f:Nat} (hf:f<s.funcs.length):(s.fn f).code.length≤2000:=by
 have:=totS_mem (w:=lenF) (fn_mem (s:=s) hf)
 have:=h.n
 unfold sizeN at this;unfold lenF at *;omega
theorem ld_ok {d b r:Int} (h:0≤baseE s f+d-b∧baseE s f+d-b≤65535) (hr:0≤r∧r≤15):SyOk s (ldE (exE s f) d r b):=SyOk.p (ok_num (.inl rfl) hr ⟨by decide,by decide⟩ h) (by decide) (by decide)
theorem st_ok {d b r:Int} (h:0≤baseE s f+d-b∧baseE s f+d-b≤65535) (hr:0≤r∧r≤15):SyOk s (stE (exE s f) d r b):=SyOk.p (ok_num (.inr rfl) hr ⟨by decide,by decide⟩ h) (by decide) (by decide)
theorem ins_ok (h:SzP s) (hf:f<s.funcs.length) {k:Nat} (hk:k<(s.fn f).code.length) {d e:Int} (hd:0≤d∧d≤dpE (depS s f)) (he:effD s f (s.ins f k) d=some e):∀ y ∈ insE (exE s f) d (s.ins f k),SyOk s y:=by
 have hfit:=(h.r.fn f hf).fits k hk
 have hn:=ins_wf h.wf hf hk
 have hg:(s.ins f k).op=12→HasGet s:=fun e=>⟨f,hf,k,hk,e⟩
 obtain ⟨t,p,h1,h2,h3,h4,h5⟩:=effD_some he
 have b0:=words_le (s:=s) f
 have b1:=base_ge (s:=s) f
 have b2:=(h.dat (f:=f+1) (by omega)).2
 have w0:=h.r.w0
 have hw:=h.w
 have hcode:=h.code hf
 rw[datE_next]at b2
 have hfn:∀ g<s.funcs.length,FunH s g:=fun g hg=>(h.r.fn g hg).h
 have hne:∀ g<s.funcs.length,0<(s.fn g).code.length:=fun g hg=>by
  obtain ⟨_,hs⟩:=(h.r.fn g hg).sol;exact List.length_pos_iff.2 hs.ne
 generalize s.ins f k=x at *
 obtain ⟨op,a,b,n⟩:=x
 obtain ⟨n1,n2⟩:=hn
 obtain ⟨f1,f2,f3⟩:=hfit
 simp only at f1 f2 f3 n1 n2 h1 h4 hg
 have r1:0≤(1:Int)∧(1:Int)≤15:=by decide
 have r2:0≤(2:Int)∧(2:Int)≤15:=by decide
 have r0:0≤(0:Int)∧(0:Int)≤15:=by decide
 have r14:0≤(14:Int)∧(14:Int)≤15:=by decide
 rcases f3 with ⟨g1,g2⟩ | ⟨g1,g2,g3⟩ | ⟨g1,g2,g3,g4,g5⟩ | ⟨g1,g2,g3⟩ | ⟨g1,g2,g3⟩ | ⟨g1,g2,g3⟩
 ·rcases g1 with rfl | rfl | rfl | rfl | rfl
  ·simp only[insE,Int.reduceEq,if_true,if_false]
   refine all_app (all_cons (SyOk.p (ok_one (.inl rfl) r1 ⟨by omega,by omega⟩) (by decide) (by decide)) ?_) (all_cons (st_ok ⟨by omega,by omega⟩ r1) all_nil)
   split
   ·exact all_cons (SyOk.p (ok_one (.inr (.inl rfl)) r1 ⟨by omega,by omega⟩) (by decide) (by decide)) all_nil
   ·exact all_nil
  ·have ht:tkS s f ⟨7,a,b,n⟩=some (1,1):=by simp[tkS]
   rw[ht]at h1;cases h1
   simp only[insE,Int.reduceEq,if_true,if_false]
   exact all_cons (ld_ok ⟨by omega,by omega⟩ r1) (all_cons (SyOk.p (ok_op ⟨by decide,by decide⟩ r1 r1 r0) (by decide) (by decide)) (all_cons (st_ok ⟨by omega,by omega⟩ r1) all_nil))
  ·have ht:tkS s f ⟨11,a,b,n⟩=some (((cntB (s.fn f).word:Nat):Int),0):=by simp[tkS]
   rw[ht]at h1;cases h1
   simp only[insE,Int.reduceEq,if_true,if_false,leaveE]
   split
   ·exact all_cons (SyOk.p ok_halt (by decide) (by decide)) all_nil
   ·have hb3:=h.dat (f:=f) (by omega)
    refine all_app ?_ (all_cons (SyOk.p (ok_num (.inl rfl) r14 r0 (by show 0≤datE s f∧datE s f≤65535;omega)) (by decide) (by decide)) (all_cons (SyOk.p (ok_reg (.inl rfl) r14) (by decide) (by decide)) all_nil))
    split
    ·rename_i hw
     rw[show (s.fn f).word=true from hw]at h3
     have:((cntB true:Nat):Int)=1:=rfl
     exact all_cons (ld_ok ⟨by omega,by omega⟩ r1) all_nil
    ·exact all_nil
  ·simp only[insE,Int.reduceEq,if_true,if_false]
   exact all_cons ⟨fun _=>ok_reg (.inr (.inl rfl)) r1,fun p hp=>by simp[pY]at hp,by decide,fun _=>hg rfl⟩ (all_cons (st_ok ⟨by omega,by omega⟩ r1) all_nil)
  ·have ht:tkS s f ⟨13,a,b,n⟩=some (1,0):=by simp[tkS]
   rw[ht]at h1;cases h1
   simp only[insE,Int.reduceEq,if_true,if_false]
   exact all_cons (ld_ok ⟨by omega,by omega⟩ r1) (all_cons (SyOk.p (ok_reg (.inr (.inr rfl)) r1) (by decide) (by decide)) all_nil)
 ·rcases g1 with rfl | rfl
  ·simp only[insE,Int.reduceEq,if_true,if_false]
   exact all_cons (SyOk.p (ok_num (.inl rfl) r1 r0 ⟨by omega,by omega⟩) (by decide) (by decide)) (all_cons (st_ok ⟨by omega,by omega⟩ r1) all_nil)
  ·have ht:tkS s f ⟨3,a,b,n⟩=some (1,0):=by simp[tkS]
   rw[ht]at h1;cases h1
   simp only[insE,Int.reduceEq,if_true,if_false]
   exact all_cons (ld_ok ⟨by omega,by omega⟩ r1) (all_cons (SyOk.p (ok_num (.inr rfl) r1 r0 ⟨by omega,by omega⟩) (by decide) (by decide)) all_nil)
 ·rcases g1 with rfl | rfl
  ·have ht:tkS s f ⟨4,a,b,n⟩=some (1,1):=by simp[tkS]
   rw[ht]at h1;cases h1
   simp only[insE,Int.reduceEq,if_true,if_false]
   exact all_cons (ld_ok ⟨by omega,by omega⟩ r1) (all_cons (SyOk.p (ok_one (by omega) r1 ⟨by omega,by omega⟩) (by decide) (by decide)) (all_cons (SyOk.p (ok_num (.inl rfl) r1 r1 ⟨by omega,by omega⟩) (by decide) (by decide)) (all_cons (st_ok ⟨by omega,by omega⟩ r1) all_nil)))
  ·have ht:tkS s f ⟨5,a,b,n⟩=some (2,0):=by simp[tkS]
   rw[ht]at h1;cases h1
   simp only[insE,Int.reduceEq,if_true,if_false]
   exact all_cons (ld_ok ⟨by omega,by omega⟩ r1) (all_cons (SyOk.p (ok_one (by omega) r1 ⟨by omega,by omega⟩) (by decide) (by decide)) (all_cons (ld_ok ⟨by omega,by omega⟩ r2) (all_cons (SyOk.p (ok_num (.inr rfl) r2 r1 ⟨by omega,by omega⟩) (by decide) (by decide)) all_nil)))
 ·subst g1
  have ht:tkS s f ⟨6,a,b,n⟩=some (2,1):=by simp[tkS]
  rw[ht]at h1;cases h1
  simp only[insE,Int.reduceEq,if_true,if_false]
  exact all_cons (ld_ok ⟨by omega,by omega⟩ r1) (all_cons (ld_ok ⟨by omega,by omega⟩ r2) (all_cons (SyOk.p (ok_op ⟨g2,g3⟩ r1 r1 r2) (by omega) (by omega)) (all_cons (st_ok ⟨by omega,by omega⟩ r1) all_nil)))
 ·rcases g1 with rfl | rfl
  ·simp only[insE,Int.reduceEq,if_true,if_false]
   exact all_cons (SyOk.jm (fun x hx=>ok_jmp hx) (by show (0:Int)≤(f:Int);omega) (by show (f:Int)<_;omega) (by simpa [exE] using g3) (by decide) (by decide)) all_nil
  ·have ht:tkS s f ⟨9,a,b,n⟩=some (1,0):=by simp[tkS]
   rw[ht]at h1;cases h1
   simp only[insE,Int.reduceEq,if_true,if_false]
   exact all_cons (ld_ok ⟨by omega,by omega⟩ r1) (all_cons (SyOk.jm (fun x hx=>ok_one (by omega) r1 hx) (by show (0:Int)≤(f:Int);omega) (by show (f:Int)<_;omega) (by simpa [exE] using g3) (by decide) (by decide)) all_nil)
 ·subst g1
  have ha:a<(s.funcs.length:Int):=by omega
  have ht:tkS s f ⟨10,a,b,n⟩=some ((s.fn a.toNat).params,((cntB (s.fn a.toNat).word:Nat):Int)):=by simp[tkS,g2,ha]
  rw[ht]at h1;cases h1
  obtain ⟨k1,k2,k3,k4,k5⟩:=hfn a.toNat (by omega)
  simp only[insE,Int.reduceEq,if_true,if_false,callE]
  refine all_app (all_app (fun y hy=>?_) (all_cons (SyOk.jm (fun x hx=>ok_one (by omega) r14 hx) g2 ha (by have:=hne a.toNat (by omega);omega) (by decide) (by decide)) all_nil)) ?_
  ·obtain ⟨j,hj,hy⟩:=List.mem_flatMap.1 hy
   have hj:=List.mem_range.1 hj
   have e:(exE s f).s=s:=rfl
   rw[e]at hj hy
   exact all_cons (P:=SyOk s) (ld_ok ⟨by omega,by omega⟩ r1) (all_cons (SyOk.p (ok_num (.inr rfl) r1 r0 ⟨by omega,by omega⟩) (by decide) (by decide)) all_nil) y hy
  ·split
   ·have e:(exE s f).s=s:=rfl
    rw[e]
    exact all_cons (st_ok ⟨by omega,by omega⟩ r1) all_nil
   ·exact all_nil
theorem ite_len {p:Prop} [Decidable p] {a b:List Sy} {n:Nat} (h1:p→a.length≤n) (h2:¬ p→b.length≤n):(if p then a else b).length≤n:=by
 by_cases h:p
 ·rw[if_pos h];exact h1 h
 ·rw[if_neg h];exact h2 h
theorem insE_len (c:Ex) (d:Int) (x:SI):(insE c d x).length≤4+2*hndI c.s x:=by
 unfold insE
 by_cases e:x.op=10
 ·simp only[e,Int.reduceEq,if_true,if_false,callE,hndI,List.length_append,argsE_len,List.length_cons,List.length_nil]
  split<;>simp<;>omega
 ·have hn:(numE 1 x.n).length≤2:=by unfold numE;split<;>simp
  have hl:(leaveE c d).length≤3:=by
   unfold leaveE
   split
   ·simp
   ·split<;>simp
  iterate 9 (refine ite_len (fun _=>?_) fun _=>?_;· (try simp only[List.length_append,List.length_cons,List.length_nil]);omega)
  refine ite_len (fun e2=>absurd e2 e) fun _=>?_
  iterate 3 (refine ite_len (fun _=>?_) fun _=>?_;· (try simp only[List.length_append,List.length_cons,List.length_nil]);omega)
  simp
theorem restE_len (c:Ex):∀ (l:List SI) (i:Nat),(restE c i l).length≤4*l.length+2*hndL c.s l
 | [],i=>by simp[restE]
 | x::l,i=>by
  have h1:=restE_len c l (i+1)
  have h2:=insE_len c (c.dl.getD i (-1)) x
  simp only[restE,List.length_append,List.length_cons,hndL,List.map_cons,List.sum_cons]at h1 ⊢
  have h3:(atE c i x).length≤4+2*hndI c.s x:=by
   unfold atE;split
   ·exact h2
   ·simp
  omega
theorem hndL_take (l:List SI) (k:Nat):hndL s (l.take k)≤hndL s l:=by
 conv=>rhs;rw[← List.take_append_drop k l]
 unfold hndL
 rw[List.map_append,List.sum_append];omega
def wF (s:SP) (g:SF):Nat:=7+4*g.code.length+2*hndL s g.code
theorem wF_tot (s:SP):∀ l:List SF,totS (wF s) l=7*l.length+4*totS lenF l+2*totS (fun g=>hndL s g.code) l
 | []=>rfl
 | g::l=>by
  have:=wF_tot s l
  simp only[totS,List.map_cons,List.sum_cons,List.length_cons]at this ⊢
  rw[this];unfold wF lenF;omega
theorem SzP.wtot (h:SzP s):totS (wF s) s.funcs≤12448:=by
 have h1:=h.n
 have h2:=h.h
 have h3:=h.r.n1
 unfold sizeN at h1
 unfold hndN at h2
 rw[wF_tot];omega
theorem funE_len (s:SP) (f n:Nat):(funE (exE s f) n).length≤wF s (s.fn f):=by
 have h1:=headE_len (exE s f) n
 have h2:=restE_len (exE s f) (exE s f).g.code 0
 unfold funE wF
 rw[List.length_append]
 have e:(exE s f).g=s.fn f:=rfl
 have e2:(exE s f).s=s:=rfl
 rw[e2]at h2
 rw[e]at h2 ⊢
 omega
theorem restE_mem (c:Ex) {y:Sy}:∀ (l:List SI) (i:Nat),y ∈ restE c i l→∃ k<l.length,y ∈ atE c (i+k) (l.getD k default)
 | [],i,h=>by simp[restE]at h
 | x::l,i,h=>by
  simp only[restE]at h
  rcases List.mem_append.1 h with h | h
  ·exact ⟨0,by simp,by simpa using h⟩
  ·obtain ⟨k,h1,h2⟩:=restE_mem c l (i+1) h
   exact ⟨k+1,by simp;omega,by rw[show i+(k+1)=i+1+k by omega];simpa using h2⟩
theorem fun_ok (h:SzP s) (hf:f<s.funcs.length) {n:Nat} (hn:n≤60000):∀ y ∈ funE (exE s f) n,SyOk s y:=by
 have hs:=depS_sol h.r hf
 refine all_app ?_ fun y hy=>?_
 ·have hfh:=(h.r.fn f hf).h
  obtain ⟨k1,k2,k3,k4,k5⟩:=hfh
  have hw:=h.w
  have hb:=h.dat (f:=f) (by omega)
  unfold headE
  split
  ·exact all_nil
  ·refine all_app (all_cons (SyOk.p (ok_num (.inr rfl) ⟨by decide,by decide⟩ ⟨by decide,by decide⟩ (by show 0≤datE s f∧datE s f≤65535;omega)) (by decide) (by decide)) all_nil) ?_
   have e:(exE s f).g=s.fn f:=rfl
   rw[e]
   unfold clearE
   split
   ·intro y hy
    unfold zerosE at hy
    obtain ⟨j,hj,rfl⟩:=List.mem_map.1 hy
    have hj:=List.mem_range.1 hj
    exact SyOk.p (ok_num (.inr rfl) ⟨by decide,by decide⟩ ⟨by decide,by decide⟩ ⟨by omega,by omega⟩) (by decide) (by decide)
   ·exact all_cons (SyOk.p (ok_one (.inl rfl) ⟨by decide,by decide⟩ ⟨by omega,by omega⟩) (by decide) (by decide)) (all_cons (SyOk.p (ok_one (.inl rfl) ⟨by decide,by decide⟩ ⟨by omega,by omega⟩) (by decide) (by decide))
     (all_cons (SyOk.p (by decide) (by decide) (by decide)) (all_cons (SyOk.p (by decide) (by decide) (by decide)) (all_cons (SyOk.p (by decide) (by decide) (by decide)) (all_cons (SyOk.p (ok_one (by omega) ⟨by decide,by decide⟩ ⟨by omega,by omega⟩) (by decide) (by decide)) all_nil)))))
 ·obtain ⟨k,hk,hy⟩:=restE_mem (exE s f) _ 0 hy
  rw[Nat.zero_add]at hy
  unfold atE at hy
  have hk':k<(s.fn f).code.length:=hk
  have e1:(exE s f).dl=depS s f:=rfl
  rw[e1]at hy
  split at hy
  ·rename_i hd
   obtain ⟨v,hv,_⟩:=hs.cl k (by rw[hs.len];exact hk') hd
   have hdp:(depS s f).getD k (-1)≤dpE (depS s f):=by
    obtain ⟨n,hn⟩:=Int.eq_ofNat_of_zero_le hd
    rw[hn];exact dpE_at hn
   exact ins_ok h hf hk' ⟨hd,hdp⟩ hv y hy
  ·cases hy
structure RunQ (s:SP) (S:S3) (o:List Nat) (N:Nat):Prop where
 en:S.en.length=s.funcs.length
 rows:S.rows.length=s.funcs.length
 ok:∀ y ∈ S.l,SyOk s y
 len:S.l.length≤N
 env:∀ x ∈ S.en,0≤x∧x≤(S.l.length:Int)
 rwv:∀ r ∈ S.rows,∀ x ∈ r,0≤x∧x≤(S.l.length:Int)
 rwl:∀ i ∈ o,(S.rows.getD i []).length=(s.fn i).code.length
theorem RunQ.step (h:SzP s) {S:S3} {o:List Nat} {N i:Nat} (hS:RunQ s S o N) (hN:N≤60000) (hi:i<s.funcs.length):RunQ s (stepE s S i) (o++[i]) (N+wF s (s.fn i)):=by
 have hfl:=funE_len s i S.l.length
 have hSl:=hS.len
 have hrow:∀ x ∈ rowE (exE s i) (S.l.length+(headE (exE s i) S.l.length).length) (s.fn i).code.length,0≤x∧x≤((S.l++funE (exE s i) S.l.length).length:Int):=fun x hx=>by
  unfold rowE at hx
  obtain ⟨k,hk,rfl⟩:=List.mem_map.1 hx
  have hk':k<(s.fn i).code.length:=List.mem_range.1 hk
  rw[if_pos hk']
  have e:restE (exE s i) 0 (exE s i).g.code=restE (exE s i) 0 ((exE s i).g.code.take k)++restE (exE s i) (0+((exE s i).g.code.take k).length) ((exE s i).g.code.drop k):=by
   have:∀ (l m:List SI) (j:Nat),restE (exE s i) j (l++m)=restE (exE s i) j l++restE (exE s i) (j+l.length) m:=by
    intro l
    induction l with
    | nil=>intro m j;simp[restE]
    | cons a l ih=>intro m j;simp only[List.cons_append,restE,ih,List.append_assoc,List.length_cons];rw[show j+1+l.length=j+(l.length+1) by omega]
   rw[← this,List.take_append_drop]
  unfold funE
  rw[e]
  simp only[List.length_append]
  omega
 refine ⟨by simp[stepE,hS.en],by simp[stepE,hS.rows],all_app hS.ok (fun_ok h hi (by omega)),?_,fun x hx=>?_,fun r hr x hx=>?_,fun k hk=>?_⟩
 ·simp only[stepE,List.length_append];omega
 ·simp only[stepE]at hx ⊢
  rw[List.length_append]
  rcases List.mem_or_eq_of_mem_set hx with hx | rfl
  ·have:=hS.env x hx;omega
  ·omega
 ·simp only[stepE]at hr ⊢
  rcases List.mem_or_eq_of_mem_set hr with hr | rfl
  ·have:=hS.rwv r hr x hx
   rw[List.length_append];omega
  ·exact hrow x hx
 ·simp only[stepE]
  by_cases e:i=k
  ·subst e
   rw[List.getD,List.getElem?_set_self (by rw[hS.rows];exact hi)]
   exact rowE_len _ _ _
  ·rw[List.getD,List.getElem?_set_ne e]
   rcases List.mem_append.1 hk with hk | hk
   ·exact hS.rwl k hk
   ·exact absurd (List.mem_singleton.1 hk).symm e
theorem wF_two (s:SP) {j:Nat} (hj:j≤s.funcs.length-1) (hn:1≤s.funcs.length):wF s (s.fn (s.funcs.length-1))+totS (wF s) (s.funcs.take j)≤totS (wF s) s.funcs:=by
 have e:=totS_step (wF s) s.funcs (k:=s.funcs.length-1) (by omega)
 rw[show s.funcs.length-1+1=s.funcs.length by omega,List.take_of_length_le (Nat.le_refl _)]at e
 have h1:=totS_take (wF s) (s.funcs.take (s.funcs.length-1)) j
 rw[List.take_take,Nat.min_eq_left hj]at h1
 have:wF s (s.fn (s.funcs.length-1))=wF s (s.funcs.getD (s.funcs.length-1) default):=rfl
 omega
theorem RunQ.all (h:SzP s):∀ j,j≤s.funcs.length-1→RunQ s (runE s (ordJ s.funcs.length j)) (ordJ s.funcs.length j) (1+wF s (s.fn (s.funcs.length-1))+totS (wF s) (s.funcs.take j))
 | 0,_=>by
  have hn:=h.r.n0
  have h0:RunQ s ⟨[pY 1 15 0 1],List.replicate s.funcs.length 0,List.replicate s.funcs.length []⟩ [] 1:=⟨by simp,by simp,all_cons (SyOk.p (by decide) (by decide) (by decide)) all_nil,by simp,fun x hx=>(by rw[(List.mem_replicate.1 hx).2];simp),fun r hr x hx=>(by rw[(List.mem_replicate.1 hr).2]at hx;cases hx),fun i hi=>(by cases hi)⟩
  have:=RunQ.step h h0 (by omega) (i:=s.funcs.length-1) (by omega)
  simpa [ordJ,runE,totS] using this
 | j+1,hj=>by
  have h1:=RunQ.all h j (by omega)
  have h3:=wF_two s (j:=j) (by omega) h.r.n0
  have h4:=h.wtot
  have h2:=RunQ.step h h1 (by omega) (i:=j) (by omega)
  rw[ordJ_succ,runE_snoc,totS_step (wF s) s.funcs (show j<s.funcs.length by omega),← Nat.add_assoc]
  exact h2
theorem SzP.fin (h:SzP s):RunQ s (endE s) (ordJ s.funcs.length (s.funcs.length-1)) 12449:=by
 have h1:=RunQ.all h (s.funcs.length-1) (Nat.le_refl _)
 have h3:=wF_two s (Nat.le_refl _) h.r.n0
 have h4:=h.wtot
 obtain ⟨a1,a2,a3,a4,a5,a6,a7⟩:=h1
 exact ⟨a1,a2,a3,by show (runE s _).l.length≤_;omega,a5,a6,a7⟩
theorem SzP.jok (h:SzP s):JOk (endE s).en (endE s).rows (endE s).l:=fun i p hp=>by
 have hR:=h.fin
 obtain ⟨_,a1,a2,a3⟩:=(hR.ok _ hp).j p rfl
 refine ⟨a1,by rw[hR.en];exact a2,by rw[hR.rows];exact a2,?_⟩
 rw[hR.rwl p.1.toNat (ordJ_mem (by omega))]
 exact a3
theorem SzP.fix (h:SzP s):∀ i ∈ fixE s,okI i.op i.a i.b i.c=true∧i.op≠27∧(i.op=23→HasGet s):=fun i hi=>by
 have hR:=h.fin
 have hlen:=hR.len
 unfold fixE fixY at hi
 obtain ⟨⟨ci,o⟩,hy,rfl⟩:=List.mem_map.1 hi
 obtain ⟨k1,k2,k3,k4⟩:=hR.ok _ hy
 cases o with
 | none=>exact ⟨k1 rfl,k3,k4⟩
 | some p =>
  obtain ⟨g1,g2,g3,g4⟩:=k2 p rfl
  obtain ⟨j1,j2,j3,j4⟩:=h.jok ci p hy
  have key:0≤tgt (endE s).en (endE s).rows p∧tgt (endE s).en (endE s).rows p≤65535:=by
   unfold tgt
   by_cases h0:0≤p.2
   ·rw[if_pos h0]
    have hr:=hR.rwv ((endE s).rows.getD p.1.toNat []) (by rw[List.getD,List.getElem?_eq_getElem (by omega)];exact List.getElem_mem _) (((endE s).rows.getD p.1.toNat []).getD p.2.toNat default) (mem_getD (by omega))
    omega
   ·rw[if_neg h0]
    have hr:=hR.env ((endE s).en.getD p.1.toNat default) (mem_getD (by omega))
    omega
  exact ⟨g1 _ key,k3,k4⟩
theorem SzP.ofH (h:SzP s):OfH s:=by
 have hn1:=h.r.n1
 have hn0:=h.r.n0
 have hw:=h.w
 have hw0:=h.r.w0
 have hR:=h.fin
 have dflt:∀ f,¬ f<s.funcs.length→s.fn f=default:=fun f hf=>by unfold SP.fn;rw[List.getD,List.getElem?_eq_none (by omega)];rfl
 refine ⟨⟨h.r,⟨by omega,fun f=>?_,fun f=>?_⟩,fun f hf=>?_,fun f hf=>⟨?_,fun x hx=>?_⟩,fun f hf=>⟨⟨hf,by show s.funcs.length≤64;omega,?_,?_,?_,?_,?_,?_,?_,?_,?_,fun g hg=>(h.r.fn g hg).h⟩,⟨?_,fun i hi=>?_,fun i hi=>⟨?_,?_⟩,?_,fun k=>?_⟩⟩,fun j hj=>?_,h.jok,fun i hi=>hR.rwl i (ordJ_mem hi)⟩,fun i hi=>(h.fix i hi).1,by have:=hR.len;omega,?_⟩
 ·by_cases hf:f<s.funcs.length
  ·have:=h.code hf;omega
  ·rw[dflt f hf];exact Nat.zero_le _
 ·by_cases hf:f<s.funcs.length
  ·obtain ⟨k1,k2,k3,k4,k5⟩:=(h.r.fn f hf).h
   exact ⟨by omega,by omega⟩
  ·rw[dflt f hf];exact ⟨by decide,by decide⟩
 ·have:=h.dat hf;omega
 ·rw[(depS_sol h.r hf).len];have:=h.code hf;omega
 ·have:=depS_mem h.r hf hx;have:=h.code hf;omega
 ·show (bssS s s.funcs.length).getD f default=baseE s f
  simp[bssS,List.getD,hf]
 ·show f<(bssS s s.funcs.length).length
  simp[bssS,hf]
 ·show (bksS s s.funcs.length).getD f default=datE s f
  simp[bksS,List.getD,hf]
 ·show f<(bksS s s.funcs.length).length
  simp[bksS,hf]
 ·show (dlsS s s.funcs.length).getD f default=depS s f
  simp[dlsS,List.getD,hf]
 ·show f<(dlsS s s.funcs.length).length
  simp[dlsS,hf]
 ·show 0≤baseE s f∧baseE s f≤100000
  have:=h.dat (f:=f) (by omega);have:=base_ge (s:=s) f;have:=base_le (s:=s) f;omega
 ·show 0≤datE s f∧datE s f≤100000
  have:=h.dat (f:=f) (by omega);omega
 ·show 0≤s.words∧s.words≤40000
  omega
 ·exact (depS_sol h.r hf).len
 ·obtain ⟨g1,g2,g3⟩:=(depS_R h.r hf).1 rfl
  have hcd:=h.code hf
  have:=g1.len
  have:=g2 i
  have:=g3 i
  show -1≤(depS s f).getD i (-1)∧(depS s f).getD i (-1)≤100000
  omega
 ·exact (h.r.fn f hf).fits i hi
 ·exact ins_wf h.wf hf hi
 ·show (s.fn f).code.length≤100000
  have:=h.code hf;omega
 ·have h1:=restE_len (exE s f) ((exE s f).g.code.take k) 0
  have h2:=hndL_take (s:=s) (s.fn f).code k
  have h3:=h.code hf
  have h4:=totS_mem (w:=fun g=>hndL s g.code) (fn_mem (s:=s) hf)
  have h5:=h.h
  unfold hndN at h5
  have e1:(exE s f).s=s:=rfl
  have e2:(exE s f).g=s.fn f:=rfl
  rw[e1,e2,List.length_take]at h1
  rw[e2]
  omega
 ·have h1:=RunQ.all h j hj
  have h3:=wF_two s hj h.r.n0
  have h4:=h.wtot
  exact ⟨h1.en,h1.rows,by have:=h1.len;omega⟩
 ·show datE s s.funcs.length≤32768
  have:=h.dat (Nat.le_refl s.funcs.length);omega
end
set_option maxRecDepth 10000
open Go.V Go.ChangeShapes Go.WideShapes Go.ChangeAt Go.RowKit
theorem Try.own:ownKnob Try.prog.godebug=none:=by kernel_rfl
theorem Try.laidOut:laidOutB Try.prog=true:=by kernel_rfl
set_option maxRecDepth 10000
open Go.V Go.ChangeShapes Go.WideShapes Go.ChangeAt Go.RowKit
def SIOk (x:SI):Prop:=Int64 x.op∧Int64 x.a∧Int64 x.b∧In32 x.n
structure SFOk (g:SF):Prop where
 p:Int64 g.params
 s:Int64 g.slots
 f:Int64 g.first
 len:g.code.length*32≤140737488351232
 code:∀ x ∈ g.code,SIOk x
structure SPOk (s:SP):Prop where
 w:Int64 s.words
 len:s.funcs.length*56≤140737488351232
 fn:∀ g ∈ s.funcs,SFOk g
theorem SPOk.at_ {s:SP} (h:SPOk s) (f:Nat):SFOk (s.fn f):=by
 unfold SP.fn
 rw[List.getD]
 cases hf:s.funcs[f]? with
 | none=>exact ⟨⟨by decide,by decide⟩,⟨by decide,by decide⟩,⟨by decide,by decide⟩,by decide,fun x hx=>by cases hx⟩
 | some g=>exact h.fn g (List.mem_of_getElem? hf)
theorem fitS_cons {s:Sh} {ss:List Sh} {ys:List AV} (h:Sh.fitL (s::ss) ys):∃ y ys',ys=y::ys'∧s.fit y∧Sh.fitL ss ys':=by
 simp only[Sh.fitL]at h;exact h
end Go.Proofs.Ytaedcpipilnpcaa
namespace Go.V
set_option linter.unusedSimpArgs false
set_option linter.unusedVariables false
section
variable {P:Program}
theorem rl0_vals {w:World} {I J:Nat→Prop}:∀ {us:List Value} {vs:List Value},RL0 w I (us.map .val) vs→RL0 w J (us.map .val) vs
 | [],vs,h=>by simpa only [List.map_nil,RL0] using h
 | u::us,vs,h=>by
  simp only[List.map_cons,RL0]at h ⊢
  obtain ⟨v,vs',rfl,h1,h2⟩:=h
  exact ⟨v,vs',rfl,by simpa only [RV0] using h1,rl0_vals h2⟩
theorem Contract.vals {f:Nat} {args:List AV} {C:AV→Prop} (h:Contract P f args C) (hC:∀ r,C r→(∃ u,r = .val u)∨∃ us:List Value,r = .agg (us.map .val)):ContractN P f args C :=
 ⟨h.1,fun I w vs hI hvs=>(h.2 I w vs hI hvs).mono fun e w' hp=>by
   obtain ⟨v,r,h1,h2,h3,h4⟩:=hp
   refine ⟨v,r,h1,?_,h3,h4⟩
   rcases hC r h4 with ⟨u,rfl⟩ | ⟨us,rfl⟩
   ·simpa only [RV0] using h2
   ·simp only[RV0]at h2 ⊢
    obtain ⟨vs,e1,e2⟩:=h2
    exact ⟨vs,e1,rl0_vals e2⟩⟩
end
theorem flat_get {α:Type} {z:Nat}:∀ {ls:List (List α)},(∀ l ∈ ls,l.length=z)→∀ {i j:Nat} {l:List α} {u:α},ls[i]? = some l→l[j]? = some u→ls.flatten[i*z+j]? = some u
 | [],_,i,j,l,u,h,_=>by simp at h
 | a::ls,hz,i,j,l,u,h,hu=>by
  have ha:=hz a (by simp)
  cases i with
  | zero =>
   simp at h;subst h
   rw[List.flatten_cons,Nat.zero_mul,Nat.zero_add,List.getElem?_append_left (List.getElem?_eq_some_iff.1 hu).1];exact hu
  | succ i =>
   simp only[List.getElem?_cons_succ]at h
   rw[List.flatten_cons,List.getElem?_append_right (by rw[ha,Nat.succ_mul];omega),ha,show (i+1)*z+j-z=i*z+j by rw[Nat.succ_mul];omega]
   exact flat_get (fun l hl=>hz l (by simp[hl])) h hu
theorem RL.split {M:MM}:∀ {xs ys:List AV} {vs:List Value},RL M (xs++ys) vs→∃ v1 v2,vs=v1++v2∧RL M xs v1∧RL M ys v2
 | [],ys,vs,h=>⟨[],vs,rfl,by simp only[RL],h⟩
 | x::xs,ys,vs,h=>by
  simp only[List.cons_append,RL]at h
  obtain ⟨v,vs',rfl,h1,h2⟩:=h
  obtain ⟨v1,v2,rfl,h3,h4⟩:=RL.split h2
  exact ⟨v::v1,v2,rfl,by simp only[RL];exact ⟨v,v1,rfl,h1,h3⟩,h4⟩
theorem RL.chunks {M:MM}:∀ {yss:List (List AV)} {vs:List Value},RL M yss.flatten vs→∃ vss:List (List Value),vs=vss.flatten∧vss.length=yss.length∧∀ (i:Nat) (l:List AV) (v:List Value),yss[i]? = some l→vss[i]? = some v→RL M l v
 | [],vs,h=>by
  simp only[List.flatten_nil,RL]at h
  exact ⟨[],h,rfl,fun i l v h=>by simp at h⟩
 | y::yss,vs,h=>by
  rw[List.flatten_cons]at h
  obtain ⟨v1,v2,rfl,h1,h2⟩:=RL.split h
  obtain ⟨vss,rfl,h3,h4⟩:=RL.chunks h2
  refine ⟨v1::vss,by simp,by simp[h3],fun i l v hl hv=>?_⟩
  cases i with
  | zero=>simp at hl hv;subst hl;subst hv;exact h1
  | succ i=>exact h4 i l v (by simpa using hl) (by simpa using hv)
def FrzLL (n:Nat) (H:List VObj) (nx:Nat):List (List AV)→List (List AV)→Prop
 | [],zs=>zs=[]
 | y::ys,zs=>∃ z zs',zs=z::zs'∧FrzL n H nx y z∧FrzLL n H nx ys zs'
theorem FrzLL.pure {n:Nat} {H:List VObj} {nx:Nat}:∀ {yss:List (List AV)},(∀ l ∈ yss,l.all AV.pure=true)→FrzLL n H nx yss yss
 | [],_=>rfl
 | y::ys,h=>⟨y,ys,rfl,FrzL.pure (h y (by simp)),FrzLL.pure fun l hl=>h l (by simp[hl])⟩
theorem FrzLL.length {n:Nat} {H:List VObj} {nx:Nat}:∀ {yss zss:List (List AV)},FrzLL n H nx yss zss→zss.length=yss.length
 | [],_,h=>by simp only[FrzLL]at h;subst h;rfl
 | y::ys,_,h=>by
  simp only[FrzLL]at h
  obtain ⟨z,zs',rfl,_,h3⟩:=h
  simp[FrzLL.length h3]
theorem rl0_aggsT {M:MM} {n:Nat} (hR:RH M):∀ {yss zss:List (List AV)} {vss:List (List Value)},vss.length=yss.length→(∀ (i:Nat) (l:List AV) (v:List Value),yss[i]? = some l→vss[i]? = some v→RL M l v)→FrzLL n M.H M.nx yss zss →
 RL0 M.w (Drop M n) (zss.map .agg) (vss.map fun l=>Value.agg l.toArray)
 | [],_,[],_,_,h=>by simp only[FrzLL]at h;subst h;simp only[List.map_nil,RL0]
 | [],_,v::vs,h,_,_=>by simp at h
 | y::ys,_,[],h,_,_=>by simp at h
 | y::ys,_,v::vs,h,h1,h2=>by
  simp only[FrzLL]at h2
  obtain ⟨z,zs',rfl,h2,h3⟩:=h2
  simp only[List.map_cons,RL0]
  refine ⟨_,_,rfl,?_,rl0_aggsT hR (by simpa using h) (fun i l v hl hv=>h1 (i+1) l v (by simpa using hl) (by simpa using hv)) h3⟩
  simp only[RV0]
  exact ⟨v,rfl,h2.rl hR rfl rfl (h1 0 y v (by simp) (by simp))⟩
theorem flatz_len {α:Type} {z:Nat}:∀ {ls:List (List α)},(∀ l ∈ ls,l.length=z)→ls.flatten.length=ls.length*z
 | [],_=>by simp
 | y::ys,h=>by rw[List.flatten_cons,List.length_append,flatz_len (fun l hl=>h l (by simp[hl])),h y (by simp),List.length_cons,Nat.succ_mul];omega
theorem Frz.refT {n:Nat} {H:List VObj} {nx id s len z:Nat} {ob:VObj} {yss zss:List (List AV)} (hid:n≤id) (ho:H[id]? = some ob) (hs:ob.s=s) (hz:ob.sz=z) (hcs:ob.cs=yss.flatten)
 (hy:∀ l ∈ yss,l.length=z) (hlen:len=yss.length) (hf:FrzLL n H nx yss zss):Frz n H nx (.ref id s 0 len) (.imm z (zss.map .agg)):=fun M hR hH hnx v r=>by
 subst hH;subst hnx;subst hlen
 simp only[RV]at r
 obtain ⟨hzz,r⟩:=r.2.2 ob ho hs
 have hfl:yss.flatten.length=yss.length*z:=flatz_len hy
 cases hm:M.m.getD id none with
 | none =>
  rw[hm]at r
  obtain ⟨rfl,h1,h2⟩:=r
  have:yss=[]:=List.length_eq_zero_iff.1 (by omega)
  subst this
  simp only[FrzLL]at hf
  subst hf
  simp only[List.map_nil,RV0,RL0]
  exact ⟨none,0,0,[],rfl,rfl,Nat.le_refl _,by simp[maxLen],rfl,by simp,.inl rfl⟩
 | some g =>
  rw[hm]at r
  obtain ⟨oo,cap,rfl,q2,q3,q4,q5,q6⟩:=r
  obtain ⟨vs,g1,g2,g3⟩:=hR.cells ho hzz hm 0 (yss.length*z) (by rw[hcs,hfl];omega)
  rw[List.drop_zero,hcs,List.take_of_length_le (by omega)]at g2
  obtain ⟨vss,rfl,h3,h4⟩:=RL.chunks g2
  have hlv:∀ i v,vss[i]? = some v→∃ l,yss[i]? = some l∧RL M l v∧v.length=z:=fun i v hv=>by
   have hi:i<yss.length:=by have:=(List.getElem?_eq_some_iff.1 hv).1;omega
   have hl:=List.getElem?_eq_getElem hi
   have:=h4 i _ v hl hv
   exact ⟨_,hl,this,by rw[this.length];exact hy _ (List.getElem_mem hi)⟩
  have hmem:∀ v ∈ vss,v.length=z:=fun v hv=>by
   obtain ⟨i,hi⟩:=List.getElem?_of_mem hv
   obtain ⟨_,_,_,e⟩:=hlv i v hi
   exact e
  simp only[RV0]
  refine ⟨_,yss.length,cap,vss.map fun l=>Value.agg l.toArray,rfl,by simp[h3,hf.length],q2,q3,?_,fun u hu=>?_,?_⟩
  ·exact rl0_aggsT hR h3 h4 hf
  ·obtain ⟨l,hl,rfl⟩:=List.mem_map.1 hu
   simp[Value.cells,hmem l hl]
  ·by_cases hl:yss.length=0
   ·exact .inl hl
   ·refine .inr ⟨g,oo,rfl,⟨.inr ⟨(hR.lt hm).1,(hR.lt hm).2.1⟩,fun j hj e=>by have:=hR.inj j id g e hm;omega⟩,fun i u hu j x hx=>?_⟩
    have hoo:oo=M.o id+0:=by rcases q5 with q5 | q5<;>omega
    rw[List.getElem?_map]at hu
    cases hv:vss[i]? with
    | none=>rw[hv]at hu;cases hu
    | some l =>
     rw[hv]at hu
     simp only[Option.map_some,Option.some.injEq]at hu
     subst hu
     have hx':l[j]? = some x:=by simpa [Value.cells] using hx
     have:=g3 _ _ (flat_get hmem hv hx')
     rw[hoo,Nat.add_assoc];exact this
end Go.V
namespace Go.Proofs.Ytaedcpipilnpcaa
set_option linter.unusedSimpArgs false
set_option linter.unusedVariables false
open Go.V
abbrev siC (x:SI):List AV:=[I x.op,I x.a,I x.b,U32 x.n]
theorem frz_code {H:List VObj} {nx id s ty len:Nat} (code:List SI) (ho:H[id]? = some ⟨s,ty,4,(code.map siC).flatten⟩) (hl:len=code.length):Frz 0 H nx (.ref id s 0 len) (.imm 4 (code.map siA)):=by
 have h:=Frz.refT (n:=0) (nx:=nx) (len:=len) (Nat.zero_le _) ho rfl rfl (yss:=code.map siC) (zss:=code.map siC) rfl (fun l hl=>?_) (by simp[hl]) (FrzLL.pure fun l hl=>?_)
 ·rw[List.map_map]at h;exact h
 ·obtain ⟨x,_,rfl⟩:=List.mem_map.1 hl;rfl
 ·obtain ⟨x,_,rfl⟩:=List.mem_map.1 hl;rfl
theorem frz_one {H:List VObj} {nx idF sF tF idL sL tL:Nat} (w:Int) (g:SF) (hF:H[idF]? = some ⟨sF,tF,5,[I g.params,I g.slots,I g.first,B g.word,.ref idL sL 0 g.code.length]⟩) (hL:H[idL]? = some ⟨sL,tL,4,(g.code.map siC).flatten⟩) :
 Frz 0 H nx (.agg [I w,.ref idF sF 0 1]) (spA ⟨w,[g]⟩) :=
 Frz.agg ⟨_,_,rfl,Frz.pure rfl,_,_,rfl,Frz.refT (Nat.zero_le _) hF rfl rfl (yss:=[[I g.params,I g.slots,I g.first,B g.word,.ref idL sL 0 g.code.length]]) (zss:=[[I g.params,I g.slots,I g.first,B g.word,.imm 4 (g.code.map siA)]]) rfl (by simp) rfl
  ⟨_,_,rfl,⟨_,_,rfl,Frz.pure rfl,_,_,rfl,Frz.pure rfl,_,_,rfl,Frz.pure rfl,_,_,rfl,Frz.pure rfl,_,_,rfl,frz_code g.code hL rfl,rfl⟩,rfl⟩,rfl⟩
def clB (s:SP) (f:Nat) (code:List SI) (dl:List Int) (i:Nat):Bool :=
 match effD s f (code.getD i default) (dl.getD i (-1)) with
 | none=>false
 | some e=>(nextL (code.getD i default) i).all fun k=>decide (0≤k∧k<(code.length:Int)∧dl.getD k.toNat (-1)=e)
def solB (s:SP) (f:Nat) (dl:List Int):Bool :=
 !(s.fn f).code.isEmpty && (dl.length == (s.fn f).code.length) && decide (dl.getD 0 (-1)=0) && (List.range dl.length).all fun i=>decide (dl.getD i (-1)<0) || clB s f (s.fn f).code dl i
theorem sol_of {s:SP} {f:Nat} {dl:List Int} (h:solB s f dl=true):Sol s f dl:=by
 simp only[solB,Bool.and_eq_true,List.all_eq_true,Bool.or_eq_true,decide_eq_true_eq,beq_iff_eq]at h
 obtain ⟨⟨⟨h1,h2⟩,h3⟩,h4⟩:=h
 refine ⟨fun e=>by (rw[e]at h1;cases h1),h2,h3,fun i hi h0=>?_⟩
 rcases h4 i (List.mem_range.2 hi) with h5 | h5
 ·omega
 ·unfold clB at h5
  split at h5
  ·cases h5
  ·rename_i e he
   exact ⟨e,he,fun k hk=>by simpa using List.all_eq_true.1 h5 k hk⟩
theorem fits_of {s:SP} {f:Nat} (h:∀ x ∈ (s.fn f).code,FitsP s f x):∀ k,k<(s.fn f).code.length→FitsP s f (s.ins f k):=fun k hk=>by
 unfold SP.ins
 rw[List.getD,List.getElem?_eq_getElem hk]
 exact h _ (List.getElem_mem hk)
structure Mc where
 pc:Int
 rg:Nat→Int
 me:List Int
 rd:Nat
 out:List UInt8
def byteM (r:Int):UInt8:=UInt8.ofNat (IntKind.u8.wrap r).toNat
def upM (f:Nat→Int) (j:Nat) (v:Int):Nat→Int:=fun k=>if k=j then v else f k
def stM (s:Mc) (a v:Int):Mc:={ s with rg:=upM s.rg a.toNat v,pc:=s.pc+1 }
def adM (s:Mc) (b c:Int):Int:=w32 (s.rg b.toNat+c)
def mI (inp:ByteArray) (s:Mc) (i:Ci):Mc × Int :=
 if i.op=18 then ({ s with pc:=i.c },0)
 else if i.op=19 then ({ s with pc:=if s.rg i.a.toNat=0 then i.c else s.pc+1 },0)
 else if i.op=20 then ({ s with pc:=if s.rg i.a.toNat=0 then s.pc+1 else i.c },0)
 else if i.op=21 then ({ s with rg:=upM s.rg i.a.toNat (s.pc+1),pc:=i.c },0)
 else if i.op=22 then ({ s with pc:=s.rg i.a.toNat },0)
 else if i.op=1 then (stM s i.a i.c,0)
 else if i.op=2 then (stM s i.a (s.rg i.a.toNat % 65536+i.c*65536),0)
 else if i.op=3 then (stM s i.a (s.rg i.b.toNat),0)
 else if i.op=16 then (if adM s i.b i.c<s.me.length then (stM s i.a (s.me.getD (adM s i.b i.c).toNat default),0) else (s,8))
 else if i.op=17 then (if adM s i.b i.c<s.me.length then ({ s with me:=s.me.set (adM s i.b i.c).toNat (s.rg i.a.toNat),pc:=s.pc+1 },0) else (s,8))
 else if i.op=23 then (if s.rd<inp.size then ({ stM s i.a (byteAt inp s.rd) with rd:=s.rd+1 },0) else (stM s i.a 256,0))
 else if i.op=24 then (if 65536≤s.out.length then (s,4) else ({ s with out:=s.out++[byteM (s.rg i.a.toNat)],pc:=s.pc+1 },0))
 else if i.op=25 then (if s.rg i.a.toNat<i.c then ({ s with pc:=s.pc+1 },0) else (s,3))
 else if i.op=26 then (s,1)
 else if (applyW i.op (s.rg i.b.toNat) (s.rg i.c.toNat)).2=0 then (stM s i.a (applyW i.op (s.rg i.b.toNat) (s.rg i.c.toNat)).1,0) else (s,2)
def Mx (code:List Ci) (inp:ByteArray):Nat→Mc→Mc→Prop
 | 0,s,s'=>s=s'
 | n+1,s,s'=>0≤s.pc∧s.pc<code.length∧(mI inp s (code.getD s.pc.toNat default)).2=0∧Mx code inp n (mI inp s (code.getD s.pc.toNat default)).1 s'
def Mn (code:List Ci) (inp:ByteArray) (n:Nat) (s:Mc) (e:Int) (s':Mc):Prop:=∃ s1,Mx code inp n s s1∧0≤s1.pc∧s1.pc<code.length∧mI inp s1 (code.getD s1.pc.toNat default)=(s',e)∧e≠0
theorem Mx.trans {code:List Ci} {inp:ByteArray}:∀ {n m:Nat} {a b c:Mc},Mx code inp n a b→Mx code inp m b c→Mx code inp (n+m) a c
 | 0,m,a,b,c,h,k=>by rw[show a=b from h,Nat.zero_add];exact k
 | n+1,m,a,b,c,h,k=>by
  rw[show n+1+m=(n+m)+1 by omega]
  exact ⟨h.1,h.2.1,h.2.2.1,Mx.trans h.2.2.2 k⟩
theorem Mx.end_ {code:List Ci} {inp:ByteArray} {n m:Nat} {a b c:Mc} {e:Int} (h:Mx code inp n a b) (k:Mn code inp m b e c):Mn code inp (n+m) a e c:=by
 obtain ⟨s1,k1,k2,k3,k4,k5⟩:=k
 exact ⟨s1,h.trans k1,k2,k3,k4,k5⟩
def At (code:List Ci) (k:Nat) (l:List Ci):Prop:=∀ i<l.length,code[k+i]? = l[i]?
theorem At.app {code:List Ci} {k:Nat} {l m:List Ci} (h:At code k (l++m)):At code k l∧At code (k+l.length) m:=by
 refine ⟨fun i hi=>?_,fun i hi=>?_⟩
 ·rw[h i (by rw[List.length_append];omega),List.getElem?_append_left hi]
 ·rw[Nat.add_assoc,h (l.length+i) (by rw[List.length_append];omega),List.getElem?_append_right (by omega)]
  congr 1;omega
theorem At.one {code:List Ci} {k:Nat} {i:Ci} (h:At code k [i]):k<code.length∧code.getD k default=i:=by
 have:=h 0 (by simp)
 simp only[Nat.add_zero,List.getElem?_cons_zero]at this
 exact ⟨(List.getElem?_eq_some_iff.1 this).1,by rw[List.getD,this];rfl⟩
theorem Mx.one {code:List Ci} {inp:ByteArray} {k:Nat} {i:Ci} {s s':Mc} (h:At code k [i]) (hp:s.pc=k) (hm:mI inp s i=(s',0)):Mx code inp 1 s s':=by
 obtain ⟨h1,h2⟩:=h.one
 have e:s.pc.toNat=k:=by omega
 refine ⟨by omega,by omega,?_,?_⟩
 ·rw[e,h2,hm]
 ·rw[e,h2,hm];rfl
theorem Mn.one {code:List Ci} {inp:ByteArray} {k:Nat} {i:Ci} {s s':Mc} {e:Int} (h:At code k [i]) (hp:s.pc=k) (hm:mI inp s i=(s',e)) (he:e≠0):Mn code inp 0 s e s':=by
 obtain ⟨h1,h2⟩:=h.one
 have ek:s.pc.toNat=k:=by omega
 exact ⟨s,rfl,by omega,by omega,by rw[ek,h2,hm],he⟩
theorem mI_ld (inp:ByteArray) (s:Mc) (a b c:Int) (h:0≤s.rg b.toNat+c∧s.rg b.toNat+c<4294967296) (hl:s.rg b.toNat+c<s.me.length):mI inp s ⟨16,a,b,c⟩=(stM s a (s.me.getD (s.rg b.toNat+c).toNat default),0):=by
 have e:adM s b c=s.rg b.toNat+c:=w32_in h
 simp only[mI,Int.reduceEq,if_false,if_true,e,if_pos hl]
theorem mI_st (inp:ByteArray) (s:Mc) (a b c:Int) (h:0≤s.rg b.toNat+c∧s.rg b.toNat+c<4294967296) (hl:s.rg b.toNat+c<s.me.length):mI inp s ⟨17,a,b,c⟩=({ s with me:=s.me.set (s.rg b.toNat+c).toNat (s.rg a.toNat),pc:=s.pc+1 },0):=by
 have e:adM s b c=s.rg b.toNat+c:=w32_in h
 simp only[mI,Int.reduceEq,if_false,if_true,e,if_pos hl]
theorem mI_li (inp:ByteArray) (s:Mc) (a b c:Int):mI inp s ⟨1,a,b,c⟩=(stM s a c,0):=by simp[mI]
theorem mI_lui (inp:ByteArray) (s:Mc) (a b c:Int):mI inp s ⟨2,a,b,c⟩=(stM s a (s.rg a.toNat % 65536+c*65536),0):=by simp[mI]
theorem getD_set_self {α:Type} {l:List α} {i:Nat} {x d:α} (h:i<l.length):(l.set i x).getD i d=x:=by simp[List.getD,h]
theorem getD_set_ne {α:Type} {l:List α} {i j:Nat} {x d:α} (h:i≠j):(l.set i x).getD j d=l.getD j d:=by simp[List.getD,List.getElem?_set_ne h]
def Lay (s:SP) (S:S3) (i:Nat):Prop:=∃ pre post,S.l=pre++funE (exE s i) pre.length++post∧S.en.getD i default=((pre.length:Nat):Int)∧S.rows.getD i []=rowE (exE s i) (pre.length+(headE (exE s i) pre.length).length) (s.fn i).code.length
structure LayA (s:SP) (S:S3) (o:List Nat):Prop where
 en:S.en.length=s.funcs.length
 rows:S.rows.length=s.funcs.length
 lay:∀ i ∈ o,Lay s S i
 one:∃ r,S.l=pY 1 15 0 1::r
theorem LayA.step {s:SP} {S:S3} {o:List Nat} (h:LayA s S o) {i:Nat} (hi:i<s.funcs.length) (hn:i ∉ o):LayA s (stepE s S i) (o++[i]):=by
 obtain ⟨r,hr⟩:=h.one
 refine ⟨by simp[stepE,h.en],by simp[stepE,h.rows],fun j hj=>?_,⟨r++funE (exE s i) S.l.length,by simp[stepE,hr]⟩⟩
 by_cases e:j=i
 ·subst e
  exact ⟨S.l,[],by simp[stepE],by simp only[stepE];exact getD_set_self (by rw[h.en];exact hi),by simp only[stepE];exact getD_set_self (by rw[h.rows];exact hi)⟩
 ·rcases List.mem_append.1 hj with hj | hj
  ·obtain ⟨pre,post,h1,h2,h3⟩:=h.lay j hj
   refine ⟨pre,post++funE (exE s i) S.l.length,?_,?_,?_⟩
   ·show S.l++funE (exE s i) S.l.length=pre++funE (exE s j) pre.length++(post++funE (exE s i) S.l.length)
    rw[← List.append_assoc,← h1]
   ·simp only[stepE];rw[getD_set_ne (fun e2=>e e2.symm)];exact h2
   ·simp only[stepE];rw[getD_set_ne (fun e2=>e e2.symm)];exact h3
  ·exact absurd (List.mem_singleton.1 hj) e
theorem layA {s:SP} (hn:1≤s.funcs.length):∀ j≤s.funcs.length-1,LayA s (runE s (ordJ s.funcs.length j)) (ordJ s.funcs.length j)∧(runE s (ordJ s.funcs.length j)).en.getD (s.funcs.length-1) default=1
 | 0,_=>by
  have h0:LayA s ⟨[pY 1 15 0 1],List.replicate s.funcs.length 0,List.replicate s.funcs.length []⟩ []:=⟨by simp,by simp,fun i hi=>absurd hi (by simp),[],rfl⟩
  have:=h0.step (i:=s.funcs.length-1) (by omega) (by simp)
  exact ⟨this,by show (stepE s _ _).en.getD _ _=1;simp only[stepE];rw[getD_set_self (by simp;omega)];rfl⟩
 | j+1,h=>by
  obtain ⟨h1,h2⟩:=layA hn j (by omega)
  rw[ordJ_succ,runE_snoc]
  refine ⟨h1.step (by omega) ?_,?_⟩
  ·unfold ordJ
   simp only[List.mem_cons,List.mem_range,not_or];omega
  ·simp only[stepE];rw[getD_set_ne (by omega)];exact h2
noncomputable def entE (s:SP) (i:Nat):Nat:=((endE s).en.getD i default).toNat
noncomputable def fxE (s:SP) (l:List Sy):List Ci:=fixY (endE s).en (endE s).rows l
noncomputable def adr (s:SP) (i k:Nat):Nat:=entE s i+(headE (exE s i) (entE s i)).length+(restE (exE s i) 0 ((s.fn i).code.take k)).length
theorem fxE_app (s:SP) (a b:List Sy):fxE s (a++b)=fxE s a++fxE s b:=by simp[fxE,fixY]
theorem fxE_len (s:SP) (a:List Sy):(fxE s a).length=a.length:=by simp[fxE,fixY]
theorem restE_app (c:Ex) (m:List SI):∀ (l:List SI) (i:Nat),restE c i (l++m)=restE c i l++restE c (i+l.length) m
 | [],i=>by simp[restE]
 | y::l,i=>by
  simp only[List.cons_append,restE,restE_app c m l,List.length_cons,List.append_assoc]
  rw[show i+1+l.length=i+(l.length+1) by omega]
theorem At.mid (A B C:List Ci):At (A++B++C) A.length B:=fun i hi=>by
 rw[List.getElem?_append_left (by rw[List.length_append];omega),List.getElem?_append_right (by omega)];congr 1;omega
section
variable {s:SP}
theorem lay_of (hn:1≤s.funcs.length) {i:Nat} (hi:i<s.funcs.length):∃ pre post,(endE s).l=pre++funE (exE s i) pre.length++post∧entE s i=pre.length∧(endE s).en.getD i default=((entE s i:Nat):Int)∧(endE s).rows.getD i []=rowE (exE s i) (entE s i+(headE (exE s i) (entE s i)).length) (s.fn i).code.length:=by
 obtain ⟨pre,post,h1,h2,h3⟩:=(layA hn _ (Nat.le_refl _)).1.lay i (ordJ_mem hi)
 have e:entE s i=pre.length:=by
  unfold entE
  rw[show (endE s).en.getD i default=((pre.length:Nat):Int) from h2];simp
 refine ⟨pre,post,h1,e,by rw[e];exact h2,by rw[e];exact h3⟩
theorem ent_en (hn:1≤s.funcs.length) {i:Nat} (hi:i<s.funcs.length):(endE s).en.getD i default=((entE s i:Nat):Int):=(lay_of hn hi).choose_spec.choose_spec.2.2.1
theorem ent_last (hn:1≤s.funcs.length):entE s (s.funcs.length-1)=1:=by
 unfold entE
 rw[show (endE s).en.getD (s.funcs.length-1) default=1 from (layA hn _ (Nat.le_refl _)).2];rfl
theorem at_one (hn:1≤s.funcs.length):At (fixE s) 0 [⟨1,15,0,1⟩]:=by
 obtain ⟨r,hr⟩:=(layA hn _ (Nat.le_refl _)).1.one
 have:fixE s=[⟨1,15,0,1⟩]++fxE s r:=by
  show fxE s (endE s).l=_
  rw[show (endE s).l=_ from hr];rfl
 rw[this]
 exact At.mid [] [⟨1,15,0,1⟩] (fxE s r)
theorem at_head (hn:1≤s.funcs.length) {i:Nat} (hi:i<s.funcs.length):At (fixE s) (entE s i) (fxE s (headE (exE s i) (entE s i))):=by
 obtain ⟨pre,post,h1,h2,_,_⟩:=lay_of hn hi
 rw[← h2]at h1
 have:fixE s=fxE s pre++fxE s (headE (exE s i) (entE s i))++fxE s (restE (exE s i) 0 (exE s i).g.code++post):=by
  show fxE s (endE s).l=_
  rw[h1];simp only[funE,fxE_app,List.append_assoc]
 have ha:=At.mid (fxE s pre) (fxE s (headE (exE s i) (entE s i))) (fxE s (restE (exE s i) 0 (exE s i).g.code++post))
 rw[← this,fxE_len,← h2]at ha
 exact ha
theorem take_at {f k:Nat} (hk:k<(s.fn f).code.length):(s.fn f).code=(s.fn f).code.take k++[s.ins f k]++(s.fn f).code.drop (k+1):=by
 have:s.ins f k=(s.fn f).code[k]:=by unfold SP.ins;simp[List.getD,hk]
 rw[this];simp
theorem at_ins (hn:1≤s.funcs.length) {i:Nat} (hi:i<s.funcs.length) {k:Nat} (hk:k<(s.fn i).code.length):At (fixE s) (adr s i k) (fxE s (atE (exE s i) k (s.ins i k))):=by
 obtain ⟨pre,post,h1,h2,_,_⟩:=lay_of hn hi
 rw[← h2]at h1
 have hc:restE (exE s i) 0 (exE s i).g.code=restE (exE s i) 0 ((s.fn i).code.take k)++(atE (exE s i) k (s.ins i k)++restE (exE s i) (k+1) ((s.fn i).code.drop (k+1))):=by
  show restE (exE s i) 0 (s.fn i).code=_
  conv=>lhs;rw[take_at hk]
  rw[List.append_assoc,restE_app]
  simp only[List.cons_append,List.nil_append,restE,Nat.zero_add,List.length_take]
  rw[show min k (s.fn i).code.length=k by omega]
 have:fixE s=fxE s (pre++headE (exE s i) (entE s i)++restE (exE s i) 0 ((s.fn i).code.take k))++fxE s (atE (exE s i) k (s.ins i k))++fxE s (restE (exE s i) (k+1) ((s.fn i).code.drop (k+1))++post):=by
  show fxE s (endE s).l=_
  rw[h1,funE,hc];simp only[fxE_app,List.append_assoc]
 have ha:=At.mid (fxE s (pre++headE (exE s i) (entE s i)++restE (exE s i) 0 ((s.fn i).code.take k))) (fxE s (atE (exE s i) k (s.ins i k))) (fxE s (restE (exE s i) (k+1) ((s.fn i).code.drop (k+1))++post))
 rw[← this,fxE_len]at ha
 unfold adr
 rw[h2]at ha ⊢
 rw[List.length_append,List.length_append]at ha
 exact ha
theorem adr_succ {f k:Nat} (hk:k<(s.fn f).code.length):adr s f (k+1)=adr s f k+(atE (exE s f) k (s.ins f k)).length:=by
 have e:(s.fn f).code.take (k+1)=(s.fn f).code.take k++[s.ins f k]:=by
  have:s.ins f k=(s.fn f).code[k]:=by unfold SP.ins;simp[List.getD,hk]
  rw[this,List.take_add_one,List.getElem?_eq_getElem hk];rfl
 unfold adr
 rw[e,restE_snoc,List.length_append,List.length_take,show min k (s.fn f).code.length=k by omega,Nat.zero_add]
 omega
theorem adr_zero (f:Nat):adr s f 0=entE s f+(headE (exE s f) (entE s f)).length:=by simp[adr,restE]
theorem adr_row (hn:1≤s.funcs.length) {i:Nat} (hi:i<s.funcs.length) {k:Nat} (hk:k<(s.fn i).code.length):((endE s).rows.getD i []).getD k default=((adr s i k:Nat):Int):=by
 obtain ⟨pre,post,_,_,_,h4⟩:=lay_of hn hi
 rw[h4]
 unfold rowE
 have hk':k<(exE s i).g.code.length:=hk
 rw[List.getD,List.getElem?_map,List.getElem?_range hk']
 simp only[Option.map_some,Option.getD_some]
 rw[if_pos hk];rfl
end
def StkAt (me:List Int) (b:Int):List Int→Prop
 | []=>True
 | v::L=>me.getD (b+L.length).toNat default=v∧StkAt me b L
theorem StkAt.agree {me me':List Int} {b:Int}:∀ {L:List Int},StkAt me b L→(∀ a:Int,b≤a→a<b+L.length→me'.getD a.toNat default=me.getD a.toNat default)→StkAt me' b L
 | [],_,_=>trivial
 | v::L,h,k=>by
  simp only[List.length_cons]at k
  exact ⟨(k _ (by omega) (by omega)).trans h.1,StkAt.agree h.2 fun a h1 h2=>k a h1 (by omega)⟩
theorem StkAt.drop {me:List Int} {b:Int}:∀ {L:List Int} (n:Nat),StkAt me b L→StkAt me b (L.drop n)
 | L,0,h=>h
 | [],n+1,h=>trivial
 | v::L,n+1,h=>StkAt.drop n h.2
theorem StkAt.tail {me:List Int} {b:Int} {L:List Int} (h:StkAt me b L):StkAt me b L.tail:=by
 cases L with
 | nil=>trivial
 | cons v L=>exact h.2
theorem StkAt.get {me:List Int} {b:Int}:∀ {L:List Int} {j:Nat},StkAt me b L→j<L.length→me.getD (b+((L.length-1-j:Nat):Int)).toNat default=L.getD j default
 | [],j,_,h=>absurd h (Nat.not_lt_zero _)
 | v::L,0,h,_=>by simpa using h.1
 | v::L,j+1,h,hj=>by
  have:=StkAt.get (j:=j) h.2 (by simpa using hj)
  simp only[List.length_cons,List.getD_cons_succ]
  rw[← this];congr 3;omega
theorem StkAt.top {me:List Int} {b:Int} {L:List Int} (h:StkAt me b L) (h1:1≤L.length):me.getD (b+L.length-1).toNat default=L.headD 0:=by
 cases L with
 | nil=>simp at h1
 | cons v L=>simp only[List.length_cons,List.headD_cons];rw[← h.1];congr 2;omega
theorem StkAt.snd {me:List Int} {b:Int} {L:List Int} (h:StkAt me b L) (h1:2≤L.length):me.getD (b+L.length-2).toNat default=L.tail.headD 0:=by
 cases L with
 | nil=>simp at h1
 | cons v L =>
  simp only[List.length_cons,List.tail_cons]at h1 ⊢
  rw[← StkAt.top h.2 (by omega)];congr 2;omega
theorem StkAt.set {me:List Int} {b:Int} {T:List Int} {v:Int} (h:StkAt me b T) (hb:0≤b) (hl:b+T.length<me.length):StkAt (me.set (b+T.length).toNat v) b (v::T) :=
 ⟨getD_set_self (by omega),h.agree fun a h1 h2=>getD_set_ne (by omega)⟩
def RetAt (s:SP) (g:Nat) (c:Fm) (a:Nat):Prop:=a+cntB (s.fn g).word=adr s c.f c.at_∧((s.fn g).word=true→At (fixE s) a [⟨17,1,0,baseE s c.f+c.L.length⟩])
def BelAt (s:SP) (me:List Int):Nat→List Fm→Prop
 | f,[]=>f+1=s.funcs.length
 | f,c::rest=>f<c.f∧c.f<s.funcs.length∧(∃ a:Nat,me.getD (datE s f).toNat default=(a:Int)∧RetAt s f c a)∧StkAt me (baseE s c.f) c.L∧BelAt s me c.f rest
theorem BelAt.agree {s:SP} {me me':List Int}:∀ {l:List Fm} {f:Nat},BelAt s me f l→(∀ a:Int,(a=datE s f∧f+1<s.funcs.length)∨datE s (f+1)≤a→me'.getD a.toNat default=me.getD a.toNat default)→BelAt s me' f l
 | [],f,h,_=>h
 | c::rest,f,h,k=>by
  obtain ⟨h1,h2,⟨a,h3,h4⟩,h5,h6⟩:=h
  have hm:=datE_mono (s:=s) (show f+1≤c.f by omega)
  have hb:=base_ge (s:=s) c.f
  have hm2:=datE_mono (s:=s) (show c.f≤c.f+1 by omega)
  exact ⟨h1,h2,⟨a,(k _ (.inl ⟨rfl,by omega⟩)).trans h3,h4⟩,h5.agree fun a g1 g2=>k a (.inr (by omega)),h6.agree fun a ha=>k a (.inr (by omega))⟩
structure Rk (s:SP) (σ:SM) (m:Mc):Prop where
 z:m.rg 0=0
 u:m.rg 15=1
 pc:m.pc=adr s σ.top.f σ.top.at_
 n:(m.me.length:Int)=dataE s
 w:∀ a<s.words.toNat,m.me.getD a default=σ.mem.getD a default
 o:m.out=σ.out
 d:m.rd=σ.rd
 k:StkAt m.me (baseE s σ.top.f) σ.top.L
 b:BelAt s m.me σ.top.f σ.below
structure SimP (s:SP):Prop where
 r:RightP s
 dep:∀ f<s.funcs.length,Sol s f (depS s f)
 dat:dataE s≤32768
 wf:WfP s
section
variable {s:SP} {σ σ':SM} {m m':Mc} {T:List Int} {v:Int}
theorem Rk.push (hP:SimP s) (hft:σ.top.f<s.funcs.length) (h:Rk s σ m) (hf:σ'.top.f=σ.top.f) (hb:σ'.below=σ.below) (hL:σ'.top.L=v::T) (hT:StkAt m.me (baseE s σ.top.f) T) (hm:σ'.mem=σ.mem) (ho:m'.out=σ'.out) (hd:m'.rd=σ'.rd)
 (hpc:m'.pc=adr s σ.top.f σ'.top.at_) (z:m'.rg 0=0) (u:m'.rg 15=1) (hme:m'.me=m.me.set (baseE s σ.top.f+T.length).toNat v) (hbd:baseE s σ.top.f+T.length<datE s (σ.top.f+1)):Rk s σ' m':=by
 have hw0:=hP.r.w0
 have hb1:=base_ge (s:=s) σ.top.f
 have hb2:=words_le (s:=s) σ.top.f
 have hb3:=datE_le (s:=s) (show σ.top.f+1≤s.funcs.length by omega)
 have hn:=h.n
 refine ⟨z,u,by rw[hf];exact hpc,by rw[hme,List.length_set];exact h.n,fun a ha=>?_,ho,hd,?_,?_⟩
 ·rw[hme,hm,getD_set_ne (by omega)];exact h.w a ha
 ·rw[hf,hL,hme];exact hT.set (by omega) (by omega)
 ·rw[hf,hb,hme]
  refine h.b.agree fun a ha=>getD_set_ne ?_
  rcases ha with ⟨ha,hl⟩ | ha
  ·have:=base_back hl;omega
  ·omega
theorem Rk.pop (h:Rk s σ m) (hf:σ'.top.f=σ.top.f) (hb:σ'.below=σ.below) (hT:StkAt m.me (baseE s σ.top.f) σ'.top.L) (hm:σ'.mem=σ.mem) (ho:m'.out=σ'.out) (hd:m'.rd=σ'.rd)
 (hpc:m'.pc=adr s σ.top.f σ'.top.at_) (z:m'.rg 0=0) (u:m'.rg 15=1) (hme:m'.me=m.me):Rk s σ' m' :=
 ⟨z,u,by rw[hf];exact hpc,by rw[hme];exact h.n,fun a ha=>by rw[hme,hm];exact h.w a ha,ho,hd,by rw[hf,hme];exact hT,by rw[hf,hb,hme];exact h.b⟩
theorem Rk.store (hP:SimP s) (hI:σ.mem.length=s.words.toNat) (h:Rk s σ m) {a:Int} (ha:0≤a∧a<s.words) (hf:σ'.top.f=σ.top.f) (hb:σ'.below=σ.below) (hT:StkAt m.me (baseE s σ.top.f) σ'.top.L) (hm:σ'.mem=σ.mem.set a.toNat v) (ho:m'.out=σ'.out) (hd:m'.rd=σ'.rd)
 (hpc:m'.pc=adr s σ.top.f σ'.top.at_) (z:m'.rg 0=0) (u:m'.rg 15=1) (hme:m'.me=m.me.set a.toNat v):Rk s σ' m':=by
 have hb1:=base_ge (s:=s) σ.top.f
 have hb2:=words_le (s:=s) σ.top.f
 have hb3:=datE_mono (s:=s) (show σ.top.f≤σ.top.f+1 by omega)
 have hb4:=datE_mono (s:=s) (show 0≤s.funcs.length by omega)
 have hn:=h.n
 have hd0:dataE s=datE s s.funcs.length:=rfl
 have hd1:datE s 0=s.words:=rfl
 refine ⟨z,u,by rw[hf];exact hpc,by rw[hme,List.length_set];exact h.n,fun b hb=>?_,ho,hd,?_,?_⟩
 ·rw[hme,hm]
  by_cases e:a.toNat=b
  ·subst e;rw[getD_set_self (by omega),getD_set_self (by omega)]
  ·rw[getD_set_ne e,getD_set_ne e];exact h.w b hb
 ·rw[hf,hme];exact hT.agree fun b h1 h2=>getD_set_ne (by omega)
 ·rw[hf,hb,hme];exact h.b.agree fun b hb=>getD_set_ne (by omega)
end
structure Gm (m m1:Mc):Prop where
 z:m1.rg 0=m.rg 0
 u:m1.rg 15=m.rg 15
 me:m1.me=m.me
 o:m1.out=m.out
 d:m1.rd=m.rd
theorem Gm.refl (m:Mc):Gm m m:=⟨rfl,rfl,rfl,rfl,rfl⟩
theorem Gm.stM {m m1:Mc} (h:Gm m m1) {r v:Int} (hr:1≤r∧r≤14):Gm m (stM m1 r v) :=
 ⟨by simp only[Go.Proofs.Ytaedcpipilnpcaa.stM,upM];rw[if_neg (by omega)];exact h.z,by simp only[Go.Proofs.Ytaedcpipilnpcaa.stM,upM];rw[if_neg (by omega)];exact h.u,h.me,h.o,h.d⟩
theorem At.cons {code:List Ci} {k:Nat} {i:Ci} {l:List Ci} (h:At code k (i::l)):At code k [i]∧At code (k+1) l:=by
 have:=At.app (l:=[i]) (m:=l) h
 simpa using this
section
variable {code:List Ci} {inp:ByteArray} {m m1:Mc} {j:Nat} {l:List Ci} {r p:Int}
theorem go_set (h:Gm m m1) {i:Ci} {v:Int} (ha:At code j (i::l)) (hp:m1.pc=j) (hr:1≤r∧r≤14) (hm:mI inp m1 i=(stM m1 r v,0)) :
 ∃ m2,Mx code inp 1 m1 m2∧m2.pc=((j+1:Nat):Int)∧Gm m m2∧m2.rg r.toNat=v∧(∀ q,q≠r.toNat→m2.rg q=m1.rg q)∧At code (j+1) l :=
 ⟨_,Mx.one ha.cons.1 hp hm,by simp[stM,hp],h.stM hr,by simp[stM,upM],fun q hq=>by simp[stM,upM,hq],ha.cons.2⟩
theorem go_ld (h:Gm m m1) (z:m.rg 0=0) (ha:At code j (⟨16,r,0,p⟩::l)) (hp:m1.pc=j) (hr:1≤r∧r≤14) (hb:0≤p∧p<m.me.length) (hl:m.me.length≤32768) :
 ∃ m2,Mx code inp 1 m1 m2∧m2.pc=((j+1:Nat):Int)∧Gm m m2∧m2.rg r.toNat=m.me.getD p.toNat default∧(∀ q,q≠r.toNat→m2.rg q=m1.rg q)∧At code (j+1) l:=by
 have hz:m1.rg (0:Int).toNat=0:=h.z.trans z
 have:=mI_ld inp m1 r 0 p (by rw[hz];omega) (by rw[hz,h.me];omega)
 rw[hz,Int.zero_add,h.me]at this
 exact go_set h ha hp hr this
theorem go_st (h:Gm m m1) (z:m.rg 0=0) (ha:At code j (⟨17,r,0,p⟩::l)) (hp:m1.pc=j) (hb:0≤p∧p<m.me.length) (hl:m.me.length≤32768) :
 ∃ m2,Mx code inp 1 m1 m2∧m2.pc=((j+1:Nat):Int)∧m2.me=m.me.set p.toNat (m1.rg r.toNat)∧m2.rg=m1.rg∧m2.out=m.out∧m2.rd=m.rd∧At code (j+1) l:=by
 have hz:m1.rg (0:Int).toNat=0:=h.z.trans z
 have:=mI_st inp m1 r 0 p (by rw[hz];omega) (by rw[hz,h.me];omega)
 rw[hz,Int.zero_add,h.me]at this
 exact ⟨_,Mx.one ha.cons.1 hp this,by simp[hp],rfl,rfl,h.o,h.d,ha.cons.2⟩
end
def GoesK (s:SP) (inp:ByteArray) (σ:SM) (m:Mc):Prop:=∃ (n:Nat) (m':Mc),(n:Int)≤64+8*s.words∧Mx (fixE s) inp n m m'∧Rk s (stepS s inp σ) m'
def EndsK (s:SP) (inp:ByteArray) (σ:SM) (m:Mc):Prop:=∃ (n:Nat) (m':Mc),(n:Int)+1≤64+8*s.words∧Mn (fixE s) inp n m (stepS s inp σ).fin m'∧m'.out=(stepS s inp σ).out
structure CmK (s:SP) (σ:SM) (m:Mc) (x:SI):Prop where
 l:m.me.length≤32768
 at_:At (fixE s) (adr s σ.top.f σ.top.at_) (fxE s (insE (exE s σ.top.f) σ.top.L.length x))
 nx:adr s σ.top.f (σ.top.at_+1)=adr s σ.top.f σ.top.at_+(insE (exE s σ.top.f) σ.top.L.length x).length
 b0:0≤baseE s σ.top.f
 bd:baseE s σ.top.f+σ.top.L.length≤datE s (σ.top.f+1)
 bm:datE s (σ.top.f+1)≤m.me.length
 bw:s.words≤baseE s σ.top.f
 w0:0≤s.words
section
variable {s:SP} {σ:SM} {m:Mc} {inp:ByteArray}
theorem inv_bd {σ:SM} (hI:InvS s (depS s) σ):baseE s σ.top.f+σ.top.L.length≤datE s (σ.top.f+1):=by
 have h1:=hI.top.d
 rw[Nat.add_zero]at h1
 have:=dpE_at h1
 rw[datE_next];omega
theorem cmK (hP:SimP s) (hI:InvS s (depS s) σ) (h:Rk s σ m):CmK s σ m (s.ins σ.top.f σ.top.at_):=by
 have hn:=h.n
 have hd:=hP.dat
 have hn0:=hP.r.n0
 have e:atE (exE s σ.top.f) σ.top.at_ (s.ins σ.top.f σ.top.at_)=insE (exE s σ.top.f) σ.top.L.length (s.ins σ.top.f σ.top.at_):=by
  have h1:=hI.top.d
  rw[Nat.add_zero]at h1
  unfold atE
  rw[show (exE s σ.top.f).dl=depS s σ.top.f from rfl,h1,if_pos (by omega)]
 have ha:=at_ins hn0 hI.top.f hI.top.k
 have hs:=adr_succ (s:=s) hI.top.k
 rw[e]at ha hs
 have hb1:=base_ge (s:=s) σ.top.f
 have hb2:=words_le (s:=s) σ.top.f
 have hb3:=datE_le (s:=s) (show σ.top.f+1≤s.funcs.length from hI.top.f)
 have hw0:=hP.r.w0
 exact ⟨by omega,ha,hs,by omega,inv_bd hI,by omega,by omega,hw0⟩
theorem fx_p (op a b c:Int):fxE s [pY op a b c]=[⟨op,a,b,c⟩]:=rfl
theorem tgt_in (hn:1≤s.funcs.length) {f:Nat} (hf:f<s.funcs.length) {a:Int} (ha:0≤a∧a<((s.fn f).code.length:Int)):tgt (endE s).en (endE s).rows ((f:Int),a)=((adr s f a.toNat:Nat):Int):=by
 unfold tgt
 rw[if_pos ha.1,show ((f:Int),a).1.toNat=f by simp,show ((f:Int),a).2=a from rfl]
 exact adr_row hn hf (by omega)
theorem push_end (hP:SimP s) (hI:InvS s (depS s) σ) (h:Rk s σ m) {σ':SM} {T:List Int} {v:Int} (hI':InvS s (depS s) σ') (hf:σ'.top.f=σ.top.f) (hb:σ'.below=σ.below) (hL:σ'.top.L=v::T) (hT:StkAt m.me (baseE s σ.top.f) T) (hm:σ'.mem=σ.mem) (ho:σ'.out=σ.out)
 {m1:Mc} {j n:Nat} {p r:Int} {l:List Ci} (g:Gm m { m1 with rd:=m.rd }) (hrd:m1.rd=σ'.rd) (hx:Mx (fixE s) inp n m m1) (ha:At (fixE s) j (⟨17,r,0,p⟩::l)) (hp:m1.pc=j) (hpe:p=baseE s σ.top.f+T.length) (hv:m1.rg r.toNat=v) (hj:j+1=adr s σ.top.f σ'.top.at_) :
 ∃ m',Mx (fixE s) inp (n+1) m m'∧Rk s σ' m':=by
 have hn:=h.n
 have hd:=hP.dat
 have hb1:=base_ge (s:=s) σ.top.f
 have hb2:=words_le (s:=s) σ.top.f
 have hb3:=datE_le (s:=s) (show σ.top.f+1≤s.funcs.length from hI.top.f)
 have hw0:=hP.r.w0
 have hbd:=inv_bd hI'
 rw[hf,hL]at hbd
 simp only[List.length_cons]at hbd
 subst hpe
 have hz:m1.rg (0:Int).toNat=0:=g.z.trans h.z
 have hme:m1.me=m.me:=g.me
 have:=mI_st inp m1 r 0 (baseE s σ.top.f+T.length) (by rw[hz];omega) (by rw[hz,hme];omega)
 rw[hz,Int.zero_add,hv,hme]at this
 refine ⟨_,hx.trans (Mx.one ha.cons.1 hp this),h.push hP hI.top.f hf hb hL hT hm ?_ hrd ?_ (g.z.trans h.z) (g.u.trans h.u) rfl (by omega)⟩
 ·show m1.out=_;rw[ho];exact g.o.trans h.o
 ·show m1.pc+1=_;rw[hp,← hj];omega
theorem Gm.rd {m m1:Mc} (h:Gm m m1):Gm m { m1 with rd:=m.rd }:=⟨h.z,h.u,h.me,h.o,rfl⟩
theorem op_push (hP:SimP s) (hI:InvS s (depS s) σ) (h:Rk s σ m) (h0:σ.fin=0) (hI':InvS s (depS s) (stepS s inp σ)) (e:(s.ins σ.top.f σ.top.at_).op=1):GoesK s inp σ m:=by
 obtain ⟨hl,ha,hnx,hb0,hbd,hbm,hbw,hw0⟩:=cmK hP hI h
 obtain ⟨hn0,hn1⟩:=ins_wf hP.wf hI.top.f hI.top.k
 have hs:stepS s inp σ=stepI s inp (s.ins σ.top.f σ.top.at_) σ.next:=stepS_eq h0
 unfold GoesK
 rw[hs]at hI' ⊢
 generalize s.ins σ.top.f σ.top.at_=x at *
 have hnt:σ.next.top.L=σ.top.L:=rfl
 simp only[stepI,e,Int.reduceEq,if_true,if_false,hnt]at hI' ⊢
 simp only[insE,e,Int.reduceEq,if_true,if_false]at ha hnx
 by_cases hn:65535<x.n
 ·rw[show fxE s (numE 1 x.n++[stE (exE s σ.top.f) σ.top.L.length 1 0])=[⟨1,1,0,x.n % 65536⟩,⟨2,1,0,x.n / 65536⟩,⟨17,1,0,baseE s σ.top.f+σ.top.L.length-0⟩] by simp[fxE,fixY,numE,stE,pY,hn,exE]]at ha
  rw[show (numE 1 x.n++[stE (exE s σ.top.f) σ.top.L.length 1 0]).length=3 by simp[numE,hn]]at hnx
  obtain ⟨m1,x1,p1,g1,v1,q1,ha⟩:=go_set (inp:=inp) (Gm.refl m) ha h.pc (by omega) (mI_li inp m 1 0 _)
  obtain ⟨m2,x2,p2,g2,v2,q2,ha⟩:=go_set g1 ha p1 (by omega) (mI_lui inp m1 1 0 _)
  obtain ⟨m',k1,k2⟩:=push_end hP hI h hI' rfl rfl rfl h.k rfl rfl g2.rd (g2.d.trans h.d) (x1.trans x2) ha p2 (by omega) (by rw[v2,v1];show _=x.n;omega) (by show _=adr s σ.top.f (σ.top.at_+1);omega)
  exact ⟨3,m',by omega,k1,k2⟩
 ·rw[show fxE s (numE 1 x.n++[stE (exE s σ.top.f) σ.top.L.length 1 0])=[⟨1,1,0,x.n % 65536⟩,⟨17,1,0,baseE s σ.top.f+σ.top.L.length-0⟩] by simp[fxE,fixY,numE,stE,pY,hn,exE]]at ha
  rw[show (numE 1 x.n++[stE (exE s σ.top.f) σ.top.L.length 1 0]).length=2 by simp[numE,hn]]at hnx
  obtain ⟨m1,x1,p1,g1,v1,q1,ha⟩:=go_set (inp:=inp) (Gm.refl m) ha h.pc (by omega) (mI_li inp m 1 0 _)
  obtain ⟨m',k1,k2⟩:=push_end hP hI h hI' rfl rfl rfl h.k rfl rfl g1.rd (g1.d.trans h.d) x1 ha p1 (by omega) (by rw[v1];show _=x.n;omega) (by show _=adr s σ.top.f (σ.top.at_+1);omega)
  exact ⟨2,m',by omega,k1,k2⟩
theorem op_load (hP:SimP s) (hI:InvS s (depS s) σ) (h:Rk s σ m) (h0:σ.fin=0) (hI':InvS s (depS s) (stepS s inp σ)) (e:(s.ins σ.top.f σ.top.at_).op=2) (hx:0≤(s.ins σ.top.f σ.top.at_).a∧(s.ins σ.top.f σ.top.at_).a<σ.mem.length):GoesK s inp σ m:=by
 obtain ⟨hl,ha,hnx,hb0,hbd,hbm,hbw,hw0⟩:=cmK hP hI h
 have hs:stepS s inp σ=stepI s inp (s.ins σ.top.f σ.top.at_) σ.next:=stepS_eq h0
 unfold GoesK
 rw[hs]at hI' ⊢
 have hml:=hI.mem
 generalize s.ins σ.top.f σ.top.at_=x at *
 have hnt:σ.next.top.L=σ.top.L:=rfl
 simp only[stepI,e,Int.reduceEq,if_true,if_false,hnt]at hI' ⊢
 simp only[insE,e,Int.reduceEq,if_true,if_false]at ha hnx
 rw[show fxE s [pY 16 1 0 x.a,stE (exE s σ.top.f) σ.top.L.length 1 0]=[⟨16,1,0,x.a⟩,⟨17,1,0,baseE s σ.top.f+σ.top.L.length-0⟩] by simp[fxE,fixY,numE,stE,pY,exE]]at ha
 simp only[List.length_cons,List.length_nil]at hnx
 obtain ⟨m1,x1,p1,g1,v1,q1,ha⟩:=go_ld (inp:=inp) (Gm.refl m) h.z ha h.pc (by omega) (by omega) hl
 obtain ⟨m',k1,k2⟩:=push_end hP hI h hI' rfl rfl rfl h.k rfl rfl g1.rd (g1.d.trans h.d) x1 ha p1 (by omega) (by rw[show (1:Int).toNat=1 from rfl]at v1 ⊢;rw[v1];exact h.w _ (by omega)) (by show _=adr s σ.top.f (σ.top.at_+1);omega)
 exact ⟨2,m',by omega,k1,k2⟩
theorem op_store (hP:SimP s) (hI:InvS s (depS s) σ) (h:Rk s σ m) (h0:σ.fin=0) (e:(s.ins σ.top.f σ.top.at_).op=3) (hx:0≤(s.ins σ.top.f σ.top.at_).a∧(s.ins σ.top.f σ.top.at_).a<σ.mem.length) (h1:1≤σ.top.L.length):GoesK s inp σ m:=by
 obtain ⟨hl,ha,hnx,hb0,hbd,hbm,hbw,hw0⟩:=cmK hP hI h
 have hs:stepS s inp σ=stepI s inp (s.ins σ.top.f σ.top.at_) σ.next:=stepS_eq h0
 unfold GoesK
 rw[hs]
 have hml:=hI.mem
 generalize s.ins σ.top.f σ.top.at_=x at *
 simp only[stepI,e,Int.reduceEq,if_true,if_false]
 simp only[insE,e,Int.reduceEq,if_true,if_false]at ha hnx
 rw[show fxE s [ldE (exE s σ.top.f) σ.top.L.length 1 1,pY 17 1 0 x.a]=[⟨16,1,0,baseE s σ.top.f+σ.top.L.length-1⟩,⟨17,1,0,x.a⟩] by simp[fxE,fixY,ldE,pY,exE]]at ha
 simp only[List.length_cons,List.length_nil]at hnx
 obtain ⟨m1,x1,p1,g1,v1,q1,ha⟩:=go_ld (inp:=inp) (Gm.refl m) h.z ha h.pc (by omega) (by omega) hl
 obtain ⟨m2,x2,p2,e2,r2,o2,d2,_⟩:=go_st (inp:=inp) g1 h.z ha p1 (by omega) hl
 rw[h.k.top h1]at v1
 rw[v1]at e2
 exact ⟨2,m2,by omega,x1.trans x2,h.store hP hml (by omega) rfl rfl h.k.tail rfl (o2.trans h.o) (d2.trans h.d) (by show m2.pc=((adr s σ.top.f (σ.top.at_+1):Nat):Int);omega) (by rw[r2];exact g1.z.trans h.z) (by rw[r2];exact g1.u.trans h.u) e2⟩
theorem mI_chk (inp:ByteArray) (m:Mc) (a c:Int):mI inp m ⟨25,a,0,c⟩=if m.rg a.toNat<c then ({ m with pc:=m.pc+1 },0) else (m,3):=by simp[mI]
theorem go_chk {code:List Ci} {m m1:Mc} {j:Nat} {l:List Ci} {r p:Int} (h:Gm m m1) (ha:At code j (⟨25,r,0,p⟩::l)) (hp:m1.pc=j) (hlt:m1.rg r.toNat<p) :
 ∃ m2,Mx code inp 1 m1 m2∧m2.pc=((j+1:Nat):Int)∧Gm m m2∧m2.rg=m1.rg∧At code (j+1) l:=by
 have:=mI_chk inp m1 r p
 rw[if_pos hlt]at this
 exact ⟨_,Mx.one ha.cons.1 hp this,by simp[hp],⟨h.z,h.u,h.me,h.o,h.d⟩,rfl,ha.cons.2⟩
theorem op_aload (hP:SimP s) (hI:InvS s (depS s) σ) (hw:WfS σ) (h:Rk s σ m) (h0:σ.fin=0) (hI':(stepS s inp σ).fin=0→InvS s (depS s) (stepS s inp σ)) (e:(s.ins σ.top.f σ.top.at_).op=4)
 (hx:0≤(s.ins σ.top.f σ.top.at_).a∧0≤(s.ins σ.top.f σ.top.at_).b∧(s.ins σ.top.f σ.top.at_).a+(s.ins σ.top.f σ.top.at_).b≤σ.mem.length) (h1:1≤σ.top.L.length):((stepS s inp σ).fin=0→GoesK s inp σ m)∧((stepS s inp σ).fin≠0→EndsK s inp σ m):=by
 obtain ⟨hl,ha,hnx,hb0,hbd,hbm,hbw,hw0⟩:=cmK hP hI h
 have hs:stepS s inp σ=stepI s inp (s.ins σ.top.f σ.top.at_) σ.next:=stepS_eq h0
 unfold GoesK EndsK
 rw[hs]at hI' ⊢
 have hml:=hI.mem
 generalize s.ins σ.top.f σ.top.at_=x at *
 have hnt:σ.next.top.L=σ.top.L:=rfl
 simp only[stepI,e,Int.reduceEq,if_true,if_false,hnt]at hI' ⊢
 simp only[insE,e,Int.reduceEq,if_true,if_false]at ha hnx
 rw[show fxE s [ldE (exE s σ.top.f) σ.top.L.length 1 1,pY 25 1 0 x.b,pY 16 1 1 x.a,stE (exE s σ.top.f) σ.top.L.length 1 1]=[⟨16,1,0,baseE s σ.top.f+σ.top.L.length-1⟩,⟨25,1,0,x.b⟩,⟨16,1,1,x.a⟩,⟨17,1,0,baseE s σ.top.f+σ.top.L.length-1⟩] by simp[fxE,fixY,ldE,stE,pY,exE]]at ha
 simp only[List.length_cons,List.length_nil]at hnx
 have hi0:=(headD_of hw.top In32.zero).1
 obtain ⟨m1,x1,p1,g1,v1,q1,ha⟩:=go_ld (inp:=inp) (Gm.refl m) h.z ha h.pc (by omega) (by omega) hl
 rw[h.k.top h1]at v1
 rw[show (1:Int).toNat=1 from rfl]at v1
 by_cases hlt:σ.top.L.headD 0<x.b
 ·rw[if_pos hlt]at hI' ⊢
  refine ⟨fun _=>?_,fun hf=>absurd h0 hf⟩
  obtain ⟨m2,x2,p2,g2,r2,ha⟩:=go_chk (inp:=inp) g1 ha p1 (by rw[show (1:Int).toNat=1 from rfl,v1];exact hlt)
  have v2:m2.rg (1:Int).toNat=σ.top.L.headD 0:=by rw[r2];exact v1
  have hm3:=mI_ld inp m2 1 1 x.a (by rw[v2];omega) (by rw[v2,g2.me];omega)
  rw[v2,g2.me]at hm3
  obtain ⟨m3,x3,p3,g3,v3,q3,ha⟩:=go_set (inp:=inp) g2 ha p2 (by omega) hm3
  obtain ⟨m',k1,k2⟩:=push_end hP hI h (hI' h0) rfl rfl rfl h.k.tail rfl rfl g3.rd (g3.d.trans h.d) (x1.trans (x2.trans x3)) ha p3 (by rw[List.length_tail];omega) (by rw[v3,show σ.top.L.headD 0+x.a=x.a+σ.top.L.headD 0 by omega];exact h.w _ (by omega)) (by show _=adr s σ.top.f (σ.top.at_+1);omega)
  exact ⟨4,m',by omega,k1,k2⟩
 ·rw[if_neg hlt]at hI' ⊢
  refine ⟨fun hf=>absurd hf (show (3:Int)≠0 by decide),fun _=>?_⟩
  have hm2:=mI_chk inp m1 1 x.b
  rw[if_neg (by rw[show (1:Int).toNat=1 from rfl,v1];exact hlt)]at hm2
  exact ⟨1,m1,by omega,x1.end_ (Mn.one ha.cons.1 p1 hm2 (by decide)),g1.o.trans h.o⟩
theorem op_astore (hP:SimP s) (hI:InvS s (depS s) σ) (hw:WfS σ) (h:Rk s σ m) (h0:σ.fin=0) (e:(s.ins σ.top.f σ.top.at_).op=5)
 (hx:0≤(s.ins σ.top.f σ.top.at_).a∧0≤(s.ins σ.top.f σ.top.at_).b∧(s.ins σ.top.f σ.top.at_).a+(s.ins σ.top.f σ.top.at_).b≤σ.mem.length) (h1:2≤σ.top.L.length):((stepS s inp σ).fin=0→GoesK s inp σ m)∧((stepS s inp σ).fin≠0→EndsK s inp σ m):=by
 obtain ⟨hl,ha,hnx,hb0,hbd,hbm,hbw,hw0⟩:=cmK hP hI h
 have hs:stepS s inp σ=stepI s inp (s.ins σ.top.f σ.top.at_) σ.next:=stepS_eq h0
 unfold GoesK EndsK
 rw[hs]
 have hml:=hI.mem
 generalize s.ins σ.top.f σ.top.at_=x at *
 have hnt:σ.next.top.L=σ.top.L:=rfl
 have hnm:σ.next.mem=σ.mem:=rfl
 simp only[stepI,e,Int.reduceEq,if_true,if_false,hnt,hnm]
 simp only[insE,e,Int.reduceEq,if_true,if_false]at ha hnx
 rw[show fxE s [ldE (exE s σ.top.f) σ.top.L.length 1 2,pY 25 1 0 x.b,ldE (exE s σ.top.f) σ.top.L.length 2 1,pY 17 2 1 x.a]=[⟨16,1,0,baseE s σ.top.f+σ.top.L.length-2⟩,⟨25,1,0,x.b⟩,⟨16,2,0,baseE s σ.top.f+σ.top.L.length-1⟩,⟨17,2,1,x.a⟩] by simp[fxE,fixY,ldE,stE,pY,exE]]at ha
 simp only[List.length_cons,List.length_nil]at hnx
 have hi0:=(headD_of (tail_of hw.top) In32.zero).1
 obtain ⟨m1,x1,p1,g1,v1,q1,ha⟩:=go_ld (inp:=inp) (Gm.refl m) h.z ha h.pc (by omega) (by omega) hl
 rw[h.k.snd h1]at v1
 rw[show (1:Int).toNat=1 from rfl]at v1
 by_cases hlt:σ.top.L.tail.headD 0<x.b
 ·rw[if_pos hlt]
  refine ⟨fun _=>?_,fun hf=>absurd h0 hf⟩
  obtain ⟨m2,x2,p2,g2,r2,ha⟩:=go_chk (inp:=inp) g1 ha p1 (by rw[show (1:Int).toNat=1 from rfl,v1];exact hlt)
  obtain ⟨m3,x3,p3,g3,v3,q3,ha⟩:=go_ld (inp:=inp) g2 h.z ha p2 (by omega) (by omega) hl
  rw[h.k.top (by omega)]at v3
  have v4:m3.rg (1:Int).toNat=σ.top.L.tail.headD 0:=by rw[q3 _ (by decide),r2];exact v1
  have hm4:=mI_st inp m3 2 1 x.a (by rw[v4];omega) (by rw[v4,g3.me];omega)
  rw[v4,g3.me,v3]at hm4
  refine ⟨4,_,by omega,x1.trans (x2.trans (x3.trans (Mx.one ha.cons.1 p3 hm4))),h.store (a:=x.a+σ.top.L.tail.headD 0) hP hml (by omega) rfl rfl h.k.tail.tail rfl (g3.o.trans h.o) (g3.d.trans h.d) ?_ (g3.z.trans h.z) (g3.u.trans h.u) (by simp only;rw[Int.add_comm])⟩
  show m3.pc+1=((adr s σ.top.f (σ.top.at_+1):Nat):Int);omega
 ·rw[if_neg hlt]
  refine ⟨fun hf=>absurd hf (show (3:Int)≠0 by decide),fun _=>?_⟩
  have hm2:=mI_chk inp m1 1 x.b
  rw[if_neg (by rw[show (1:Int).toNat=1 from rfl,v1];exact hlt)]at hm2
  exact ⟨1,m1,by omega,x1.end_ (Mn.one ha.cons.1 p1 hm2 (by decide)),g1.o.trans h.o⟩
theorem mI_op (inp:ByteArray) (m:Mc) (op a b c:Int) (h:4≤op∧op≤15):mI inp m ⟨op,a,b,c⟩=if (applyW op (m.rg b.toNat) (m.rg c.toNat)).2=0 then (stM m a (applyW op (m.rg b.toNat) (m.rg c.toNat)).1,0) else (m,2):=by
 unfold mI
 simp only[if_neg (show ¬ op=18 by omega),if_neg (show ¬ op=19 by omega),if_neg (show ¬ op=20 by omega),if_neg (show ¬ op=21 by omega),if_neg (show ¬ op=22 by omega),if_neg (show ¬ op=1 by omega),if_neg (show ¬ op=2 by omega),if_neg (show ¬ op=3 by omega),if_neg (show ¬ op=16 by omega),if_neg (show ¬ op=17 by omega),if_neg (show ¬ op=23 by omega),if_neg (show ¬ op=24 by omega),if_neg (show ¬ op=25 by omega),if_neg (show ¬ op=26 by omega)]
theorem op_op (hP:SimP s) (hI:InvS s (depS s) σ) (h:Rk s σ m) (h0:σ.fin=0) (hI':(stepS s inp σ).fin=0→InvS s (depS s) (stepS s inp σ)) (e:(s.ins σ.top.f σ.top.at_).op=6) (hx:4≤(s.ins σ.top.f σ.top.at_).a∧(s.ins σ.top.f σ.top.at_).a≤15) (h1:2≤σ.top.L.length) :
 ((stepS s inp σ).fin=0→GoesK s inp σ m)∧((stepS s inp σ).fin≠0→EndsK s inp σ m):=by
 obtain ⟨hl,ha,hnx,hb0,hbd,hbm,hbw,hw0⟩:=cmK hP hI h
 have hs:stepS s inp σ=stepI s inp (s.ins σ.top.f σ.top.at_) σ.next:=stepS_eq h0
 unfold GoesK EndsK
 rw[hs]at hI' ⊢
 generalize s.ins σ.top.f σ.top.at_=x at *
 have hnt:σ.next.top.L=σ.top.L:=rfl
 simp only[stepI,e,Int.reduceEq,if_true,if_false,hnt]at hI' ⊢
 simp only[insE,e,Int.reduceEq,if_true,if_false]at ha hnx
 rw[show fxE s [ldE (exE s σ.top.f) σ.top.L.length 1 2,ldE (exE s σ.top.f) σ.top.L.length 2 1,pY x.a 1 1 2,stE (exE s σ.top.f) σ.top.L.length 1 2]=[⟨16,1,0,baseE s σ.top.f+σ.top.L.length-2⟩,⟨16,2,0,baseE s σ.top.f+σ.top.L.length-1⟩,⟨x.a,1,1,2⟩,⟨17,1,0,baseE s σ.top.f+σ.top.L.length-2⟩] by simp[fxE,fixY,ldE,stE,pY,exE]]at ha
 simp only[List.length_cons,List.length_nil]at hnx
 obtain ⟨m1,x1,p1,g1,v1,q1,ha⟩:=go_ld (inp:=inp) (Gm.refl m) h.z ha h.pc (by omega) (by omega) hl
 obtain ⟨m2,x2,p2,g2,v2,q2,ha⟩:=go_ld (inp:=inp) g1 h.z ha p1 (by omega) (by omega) hl
 rw[h.k.snd h1]at v1
 rw[h.k.top (by omega)]at v2
 have v1':m2.rg (1:Int).toNat=σ.top.L.tail.headD 0:=by rw[q2 _ (by decide)];exact v1
 have hm3:=mI_op inp m2 x.a 1 1 2 hx
 rw[v1',v2]at hm3
 by_cases hz:(applyW x.a (σ.top.L.tail.headD 0) (σ.top.L.headD 0)).2=0
 ·rw[if_pos hz]at hI' hm3 ⊢
  refine ⟨fun _=>?_,fun hf=>absurd h0 hf⟩
  obtain ⟨m3,x3,p3,g3,v3,q3,ha⟩:=go_set (inp:=inp) g2 ha p2 (by omega) hm3
  obtain ⟨m',k1,k2⟩:=push_end hP hI h (hI' h0) rfl rfl rfl h.k.tail.tail rfl rfl g3.rd (g3.d.trans h.d) (x1.trans (x2.trans x3)) ha p3 (by simp only[List.length_tail];omega) v3 (by show _=adr s σ.top.f (σ.top.at_+1);omega)
  exact ⟨4,m',by omega,k1,k2⟩
 ·rw[if_neg hz]at hI' hm3 ⊢
  refine ⟨fun hf=>absurd hf (show (2:Int)≠0 by decide),fun _=>?_⟩
  exact ⟨2,m2,by omega,(x1.trans x2).end_ (Mn.one ha.cons.1 p2 hm3 (by decide)),g2.o.trans h.o⟩
theorem op_not (hP:SimP s) (hI:InvS s (depS s) σ) (h:Rk s σ m) (h0:σ.fin=0) (hI':InvS s (depS s) (stepS s inp σ)) (e:(s.ins σ.top.f σ.top.at_).op=7) (h1:1≤σ.top.L.length):GoesK s inp σ m:=by
 obtain ⟨hl,ha,hnx,hb0,hbd,hbm,hbw,hw0⟩:=cmK hP hI h
 have hs:stepS s inp σ=stepI s inp (s.ins σ.top.f σ.top.at_) σ.next:=stepS_eq h0
 unfold GoesK
 rw[hs]at hI' ⊢
 generalize s.ins σ.top.f σ.top.at_=x at *
 have hnt:σ.next.top.L=σ.top.L:=rfl
 simp only[stepI,e,Int.reduceEq,if_true,if_false,hnt]at hI' ⊢
 simp only[insE,e,Int.reduceEq,if_true,if_false]at ha hnx
 rw[show fxE s [ldE (exE s σ.top.f) σ.top.L.length 1 1,pY 15 1 1 0,stE (exE s σ.top.f) σ.top.L.length 1 1]=[⟨16,1,0,baseE s σ.top.f+σ.top.L.length-1⟩,⟨15,1,1,0⟩,⟨17,1,0,baseE s σ.top.f+σ.top.L.length-1⟩] by simp[fxE,fixY,ldE,stE,pY,exE]]at ha
 simp only[List.length_cons,List.length_nil]at hnx
 obtain ⟨m1,x1,p1,g1,v1,q1,ha⟩:=go_ld (inp:=inp) (Gm.refl m) h.z ha h.pc (by omega) (by omega) hl
 rw[h.k.top h1]at v1
 have hz:m1.rg (0:Int).toNat=0:=g1.z.trans h.z
 have hm2:=mI_op inp m1 15 1 1 0 (by omega)
 rw[v1,hz]at hm2
 rw[if_pos (by rfl)]at hm2
 obtain ⟨m2,x2,p2,g2,v2,q2,ha⟩:=go_set (inp:=inp) g1 ha p1 (by omega) hm2
 obtain ⟨m',k1,k2⟩:=push_end hP hI h hI' rfl rfl rfl h.k.tail rfl rfl g2.rd (g2.d.trans h.d) (x1.trans x2) ha p2 (by rw[List.length_tail];omega) (by rw[v2];rfl) (by show _=adr s σ.top.f (σ.top.at_+1);omega)
 exact ⟨3,m',by omega,k1,k2⟩
theorem op_jump (hP:SimP s) (hI:InvS s (depS s) σ) (h:Rk s σ m) (h0:σ.fin=0) (e:(s.ins σ.top.f σ.top.at_).op=8) (hx:0≤(s.ins σ.top.f σ.top.at_).a∧(s.ins σ.top.f σ.top.at_).a<((s.fn σ.top.f).code.length:Int)):GoesK s inp σ m:=by
 obtain ⟨hl,ha,hnx,hb0,hbd,hbm,hbw,hw0⟩:=cmK hP hI h
 have hs:stepS s inp σ=stepI s inp (s.ins σ.top.f σ.top.at_) σ.next:=stepS_eq h0
 unfold GoesK
 rw[hs]
 generalize s.ins σ.top.f σ.top.at_=x at *
 simp only[stepI,e,Int.reduceEq,if_true,if_false]
 simp only[insE,e,Int.reduceEq,if_true,if_false]at ha
 rw[show fxE s [jY 18 0 (exE s σ.top.f).fn x.a]=[⟨18,0,0,tgt (endE s).en (endE s).rows ((σ.top.f:Int),x.a)⟩] from rfl,tgt_in hP.r.n0 hI.top.f hx]at ha
 have hm1:mI inp m ⟨18,0,0,((adr s σ.top.f x.a.toNat:Nat):Int)⟩=({ m with pc:=((adr s σ.top.f x.a.toNat:Nat):Int) },0):=by simp[mI]
 exact ⟨1,_,by omega,Mx.one ha h.pc hm1,h.pop rfl rfl h.k rfl h.o h.d rfl h.z h.u rfl⟩
theorem op_zero (hP:SimP s) (hI:InvS s (depS s) σ) (h:Rk s σ m) (h0:σ.fin=0) (e:(s.ins σ.top.f σ.top.at_).op=9) (hx:0≤(s.ins σ.top.f σ.top.at_).a∧(s.ins σ.top.f σ.top.at_).a<((s.fn σ.top.f).code.length:Int)) (h1:1≤σ.top.L.length):GoesK s inp σ m:=by
 obtain ⟨hl,ha,hnx,hb0,hbd,hbm,hbw,hw0⟩:=cmK hP hI h
 have hs:stepS s inp σ=stepI s inp (s.ins σ.top.f σ.top.at_) σ.next:=stepS_eq h0
 unfold GoesK
 rw[hs]
 generalize s.ins σ.top.f σ.top.at_=x at *
 have hnt:σ.next.top.L=σ.top.L:=rfl
 simp only[stepI,e,Int.reduceEq,if_true,if_false,hnt]
 simp only[insE,e,Int.reduceEq,if_true,if_false]at ha hnx
 rw[show fxE s [ldE (exE s σ.top.f) σ.top.L.length 1 1,jY 19 1 (exE s σ.top.f).fn x.a]=[⟨16,1,0,baseE s σ.top.f+σ.top.L.length-1⟩,⟨19,1,0,tgt (endE s).en (endE s).rows ((σ.top.f:Int),x.a)⟩] from rfl,tgt_in hP.r.n0 hI.top.f hx]at ha
 simp only[List.length_cons,List.length_nil]at hnx
 obtain ⟨m1,x1,p1,g1,v1,q1,ha⟩:=go_ld (inp:=inp) (Gm.refl m) h.z ha h.pc (by omega) (by omega) hl
 rw[h.k.top h1]at v1
 have hm2:mI inp m1 ⟨19,1,0,((adr s σ.top.f x.a.toNat:Nat):Int)⟩=({ m1 with pc:=if m1.rg (1:Int).toNat=0 then ((adr s σ.top.f x.a.toNat:Nat):Int) else m1.pc+1 },0):=by simp[mI]
 rw[v1]at hm2
 by_cases hz:σ.top.L.headD 0=0
 ·rw[if_pos hz]at hm2 ⊢
  exact ⟨2,_,by omega,x1.trans (Mx.one ha p1 hm2),h.pop rfl rfl h.k.tail rfl (g1.o.trans h.o) (g1.d.trans h.d) rfl (g1.z.trans h.z) (g1.u.trans h.u) g1.me⟩
 ·rw[if_neg hz]at hm2 ⊢
  exact ⟨2,_,by omega,x1.trans (Mx.one ha p1 hm2),h.pop rfl rfl h.k.tail rfl (g1.o.trans h.o) (g1.d.trans h.d) (by show m1.pc+1=((adr s σ.top.f (σ.top.at_+1):Nat):Int);omega) (g1.z.trans h.z) (g1.u.trans h.u) g1.me⟩
theorem op_get (hP:SimP s) (hI:InvS s (depS s) σ) (h:Rk s σ m) (h0:σ.fin=0) (hI':InvS s (depS s) (stepS s inp σ)) (e:(s.ins σ.top.f σ.top.at_).op=12):GoesK s inp σ m:=by
 obtain ⟨hl,ha,hnx,hb0,hbd,hbm,hbw,hw0⟩:=cmK hP hI h
 have hs:stepS s inp σ=stepI s inp (s.ins σ.top.f σ.top.at_) σ.next:=stepS_eq h0
 unfold GoesK
 rw[hs]at hI' ⊢
 generalize s.ins σ.top.f σ.top.at_=x at *
 have hnt:σ.next.top.L=σ.top.L:=rfl
 have hnr:σ.next.rd=σ.rd:=rfl
 simp only[stepI,e,Int.reduceEq,if_true,if_false,hnt,hnr]at hI' ⊢
 simp only[insE,e,Int.reduceEq,if_true,if_false]at ha hnx
 rw[show fxE s [pY 23 1 0 0,stE (exE s σ.top.f) σ.top.L.length 1 0]=[⟨23,1,0,0⟩,⟨17,1,0,baseE s σ.top.f+σ.top.L.length-0⟩] by simp[fxE,fixY,stE,pY,exE]]at ha
 simp only[List.length_cons,List.length_nil]at hnx
 have g1:∀ v,Gm m (stM m 1 v):=fun v=>(Gm.refl m).stM (by omega)
 by_cases hr:σ.rd<inp.size
 ·rw[if_pos hr]at hI' ⊢
  have hm1:mI inp m ⟨23,1,0,0⟩=({ stM m 1 (byteAt inp m.rd) with rd:=m.rd+1 },0):=by simp only[mI,Int.reduceEq,if_true,if_false];rw[if_pos (by rw[h.d];exact hr)]
  obtain ⟨m',k1,k2⟩:=push_end hP hI h hI' rfl rfl rfl h.k rfl rfl (m1:={ stM m 1 (byteAt inp m.rd) with rd:=m.rd+1 }) (g1 _).rd (by simp only;rw[h.d]) (Mx.one ha.cons.1 h.pc hm1) ha.cons.2 (by show m.pc+1=_;rw[h.pc];omega) (by omega) (by simp only[stM,upM];rw[h.d];rfl) (by show _=adr s σ.top.f (σ.top.at_+1);omega)
  exact ⟨2,m',by omega,k1,k2⟩
 ·rw[if_neg hr]at hI' ⊢
  have hm1:mI inp m ⟨23,1,0,0⟩=(stM m 1 256,0):=by simp only[mI,Int.reduceEq,if_true,if_false];rw[if_neg (by rw[h.d];exact hr)]
  obtain ⟨m',k1,k2⟩:=push_end hP hI h hI' rfl rfl rfl h.k rfl rfl (g1 256).rd h.d (Mx.one ha.cons.1 h.pc hm1) ha.cons.2 (by show m.pc+1=_;rw[h.pc];omega) (by omega) (by simp only[stM,upM];rfl) (by show _=adr s σ.top.f (σ.top.at_+1);omega)
  exact ⟨2,m',by omega,k1,k2⟩
theorem op_put (hP:SimP s) (hI:InvS s (depS s) σ) (h:Rk s σ m) (h0:σ.fin=0) (ho:σ.out.length<65536) (e:(s.ins σ.top.f σ.top.at_).op=13) (h1:1≤σ.top.L.length):GoesK s inp σ m:=by
 obtain ⟨hl,ha,hnx,hb0,hbd,hbm,hbw,hw0⟩:=cmK hP hI h
 have hs:stepS s inp σ=stepI s inp (s.ins σ.top.f σ.top.at_) σ.next:=stepS_eq h0
 unfold GoesK
 rw[hs]
 generalize s.ins σ.top.f σ.top.at_=x at *
 simp only[stepI,e,Int.reduceEq,if_true,if_false]
 simp only[insE,e,Int.reduceEq,if_true,if_false]at ha hnx
 rw[show fxE s [ldE (exE s σ.top.f) σ.top.L.length 1 1,pY 24 1 0 0]=[⟨16,1,0,baseE s σ.top.f+σ.top.L.length-1⟩,⟨24,1,0,0⟩] from rfl]at ha
 simp only[List.length_cons,List.length_nil]at hnx
 obtain ⟨m1,x1,p1,g1,v1,q1,ha⟩:=go_ld (inp:=inp) (Gm.refl m) h.z ha h.pc (by omega) (by omega) hl
 rw[h.k.top h1]at v1
 have hm2:mI inp m1 ⟨24,1,0,0⟩=({ m1 with out:=m1.out++[byteM (m1.rg (1:Int).toNat)],pc:=m1.pc+1 },0):=by
  simp only[mI,Int.reduceEq,if_true,if_false];rw[if_neg (by rw[g1.o,h.o];omega)]
 rw[v1]at hm2
 refine ⟨2,_,by omega,x1.trans (Mx.one ha p1 hm2),h.pop rfl rfl h.k.tail rfl ?_ (g1.d.trans h.d) (by show m1.pc+1=((adr s σ.top.f (σ.top.at_+1):Nat):Int);omega) (g1.z.trans h.z) (g1.u.trans h.u) g1.me⟩
 show m1.out++_=σ.out++_
 rw[g1.o,h.o];rfl
end
section
variable {s:SP} {σ:SM} {m m1:Mc} {inp:ByteArray}
theorem Rk.ret (h:Rk s σ m) {c:Fm} {rest:List Fm} (hb:σ.below=c::rest) {m':Mc} (hp:m'.pc=adr s c.f c.at_) (z:m'.rg 0=0) (u:m'.rg 15=1) (hm:m'.me=m.me) (ho:m'.out=m.out) (hd:m'.rd=m.rd):Rk s { σ with top:=c,below:=rest } m':=by
 have b:=h.b
 rw[hb]at b
 obtain ⟨b1,b2,b3,b6,b7⟩:=b
 exact ⟨z,u,hp,by rw[hm];exact h.n,fun a ha=>by rw[hm];exact h.w a ha,ho.trans h.o,hd.trans h.d,by rw[hm];exact b6,by rw[hm];exact b7⟩
theorem mI_ret (inp:ByteArray) (m:Mc) (a:Int):mI inp m ⟨22,a,0,0⟩=({ m with pc:=m.rg a.toNat },0):=by simp[mI]
theorem mI_halt (inp:ByteArray) (m:Mc):mI inp m ⟨26,0,0,0⟩=(m,1):=by simp[mI]
theorem op_ret (hP:SimP s) (hI:InvS s (depS s) σ) (h:Rk s σ m) (h0:σ.fin=0) (hI':(stepS s inp σ).fin=0→InvS s (depS s) (stepS s inp σ)) (e:(s.ins σ.top.f σ.top.at_).op=11) (h1:σ.top.L.length=cntB (s.fn σ.top.f).word) :
 ((stepS s inp σ).fin=0→GoesK s inp σ m)∧((stepS s inp σ).fin≠0→EndsK s inp σ m):=by
 obtain ⟨hl,ha,hnx,hb0,hbd,hbm,hbw,hw0⟩:=cmK hP hI h
 have hs:stepS s inp σ=stepI s inp (s.ins σ.top.f σ.top.at_) σ.next:=stepS_eq h0
 unfold GoesK EndsK
 rw[hs]at hI' ⊢
 generalize s.ins σ.top.f σ.top.at_=x at *
 simp only[stepI,e,Int.reduceEq,if_true,if_false]at hI' ⊢
 simp only[insE,e,Int.reduceEq,if_true,if_false]at ha hnx
 have hB:=h.b
 have hbase:=base_ge (s:=s) σ.top.f
 have hwd:=words_le (s:=s) σ.top.f
 cases hb:σ.below with
 | nil =>
  have hnb:σ.next.below=[]:=hb
  rw[hb]at hB
  have hlast:σ.top.f+1=s.funcs.length:=hB
  have hr:SM.ret s σ.next = { σ.next with fin:=1 }:=by simp only[SM.ret,hnb]
  rw[hr]
  refine ⟨fun hf=>by simp at hf,fun _=>?_⟩
  have:leaveE (exE s σ.top.f) σ.top.L.length=[pY 26 0 0 0]:=by
   unfold leaveE;rw[if_pos (show (exE s σ.top.f).last by unfold Ex.last exE;simp only;omega)]
  rw[this,fx_p]at ha
  exact ⟨0,m,by omega,Mn.one ha h.pc (mI_halt inp m) Int.one_ne_zero,h.o⟩
 | cons c rest =>
  have hnb:σ.next.below=c::rest:=hb
  have hnf:σ.next.top.f=σ.top.f:=rfl
  have hnL:σ.next.top.L=σ.top.L:=rfl
  rw[hb]at hB
  obtain ⟨b1,b2,⟨a,b3,b4,b5⟩,b6,b7⟩:=hB
  have hr:SM.ret s σ.next = { σ.next with top:={ c with L:=(if (s.fn σ.top.f).word then [σ.top.L.headD 0] else [])++c.L },below:=rest }:=by simp only[SM.ret,hnb,hnf,hnL]
  rw[hr]at hI' ⊢
  refine ⟨fun _=>?_,fun hf=>absurd h0 hf⟩
  have hI2:=hI' h0
  have hnl:¬ (exE s σ.top.f).last:=by unfold Ex.last exE;simp only;omega
  have hdm:datE s σ.top.f<m.me.length:=by
   have:=base_back (s:=s) (show σ.top.f+1<s.funcs.length by omega);have:=dpE_nn (depS s σ.top.f);have:=datE_next (s:=s) σ.top.f;omega
  cases hw:(s.fn σ.top.f).word with
  | false =>
   rw[hw]at hI2 b4
   have:leaveE (exE s σ.top.f) σ.top.L.length=[pY 16 14 0 (datE s σ.top.f),pY 22 14 0 0]:=by
    unfold leaveE;rw[if_neg hnl,show (exE s σ.top.f).g.word=false from hw];rfl
   rw[this,show fxE s [pY 16 14 0 (datE s σ.top.f),pY 22 14 0 0]=[⟨16,14,0,datE s σ.top.f⟩,⟨22,14,0,0⟩] from rfl]at ha
   obtain ⟨m1,x1,p1,g1,v1,q1,ha⟩:=go_ld (inp:=inp) (Gm.refl m) h.z ha h.pc (by omega) (by omega) hl
   have hm2:=mI_ret inp m1 14
   rw[v1,b3]at hm2
   refine ⟨2,_,by omega,x1.trans (Mx.one ha p1 hm2),?_⟩
   have:=h.ret hb (m':={ m1 with pc:=(a:Int) }) (by show (a:Int)=_;unfold cntB at b4;simp at b4;omega) (g1.z.trans h.z) (g1.u.trans h.u) g1.me g1.o g1.d
   exact ⟨this.z,this.u,this.pc,this.n,this.w,this.o,this.d,this.k,this.b⟩
  | true =>
   rw[hw]at hI2 b4
   have hL1:σ.top.L.length=1:=by rw[h1,hw];rfl
   have:leaveE (exE s σ.top.f) σ.top.L.length=[ldE (exE s σ.top.f) σ.top.L.length 1 1,pY 16 14 0 (datE s σ.top.f),pY 22 14 0 0]:=by
    unfold leaveE;rw[if_neg hnl,if_pos (show (exE s σ.top.f).g.word=true from hw)];rfl
   rw[this,show fxE s [ldE (exE s σ.top.f) σ.top.L.length 1 1,pY 16 14 0 (datE s σ.top.f),pY 22 14 0 0]=[⟨16,1,0,baseE s σ.top.f+σ.top.L.length-1⟩,⟨16,14,0,datE s σ.top.f⟩,⟨22,14,0,0⟩] from rfl]at ha
   obtain ⟨m1,x1,p1,g1,v1,q1,ha⟩:=go_ld (inp:=inp) (Gm.refl m) h.z ha h.pc (by omega) (by omega) hl
   rw[h.k.top (by omega)]at v1
   obtain ⟨m2,x2,p2,g2,v2,q2,ha⟩:=go_ld (inp:=inp) g1 h.z ha p1 (by omega) (by omega) hl
   have hm3:=mI_ret inp m2 14
   rw[v2,b3]at hm3
   have hat:=b5 hw
   have k2:=h.ret hb (m':={ m with pc:=(adr s c.f c.at_:Int) }) rfl h.z h.u rfl rfl rfl
   have hbd2:=inv_bd hI2
   simp only[if_true,List.length_append,List.length_cons,List.length_nil]at hbd2
   have hn:=h.n
   have hd:=hP.dat
   have hb1:=base_ge (s:=s) c.f
   have hb2:=words_le (s:=s) c.f
   have hb3:=datE_le (s:=s) (show c.f+1≤s.funcs.length by omega)
   have v1':m2.rg (1:Int).toNat=σ.top.L.headD 0:=by rw[q2 _ (by decide)];exact v1
   have hz:m2.rg (0:Int).toNat=0:=g2.z.trans h.z
   have hm4:mI inp { m2 with pc:=(a:Int) } ⟨17,1,0,baseE s c.f+c.L.length⟩=({ m2 with pc:=(a:Int)+1,me:=m.me.set (baseE s c.f+c.L.length).toNat (σ.top.L.headD 0) },0):=by
    have:=mI_st inp { m2 with pc:=(a:Int) } 1 0 (baseE s c.f+c.L.length) (by show 0≤m2.rg (0:Int).toNat+_∧m2.rg (0:Int).toNat+_<_;rw[hz];omega) (by show m2.rg (0:Int).toNat+_<(m2.me.length:Int);rw[hz,g2.me];omega)
    simp only[hz,v1',Int.zero_add]at this
    rw[this,g2.me]
   refine ⟨4,_,by omega,x1.trans (x2.trans ((Mx.one ha.cons.1 p2 hm3).trans (Mx.one hat rfl hm4))),?_⟩
   have hc4:cntB (s.fn σ.top.f).word=1:=by rw[hw];rfl
   have:=k2.push (σ':={ σ.next with top:={ c with L:=σ.top.L.headD 0::c.L },below:=rest }) hP b2 rfl rfl rfl b6 rfl (g2.o.trans h.o) (g2.d.trans h.d) (m':={ m2 with pc:=(a:Int)+1,me:=m.me.set (baseE s c.f+c.L.length).toNat (σ.top.L.headD 0) }) (by show (a:Int)+1=((adr s c.f c.at_:Nat):Int);rw[hw]at hc4;omega) (g2.z.trans h.z) (g2.u.trans h.u) rfl (by show baseE s c.f+c.L.length<datE s (c.f+1);omega)
   exact this
structure Ow (m m1:Mc) (lo hi:Nat) (w:Nat→Int):Prop where
 z:m1.rg 0=m.rg 0
 u:m1.rg 15=m.rg 15
 len:m1.me.length=m.me.length
 me:∀ a,m1.me.getD a default=if lo≤a∧a<hi then w a else m.me.getD a default
 o:m1.out=m.out
 d:m1.rd=m.rd
theorem Ow.refl (m:Mc) (lo:Nat) (w:Nat→Int):Ow m m lo lo w:=⟨rfl,rfl,rfl,fun a=>by rw[if_neg (by omega)],rfl,rfl⟩
theorem Ow.gm {m m1 m2:Mc} {lo hi:Nat} {w:Nat→Int} (h:Ow m m1 lo hi w) (g:Gm m1 m2):Ow m m2 lo hi w:=⟨g.z.trans h.z,g.u.trans h.u,by rw[g.me];exact h.len,fun a=>by rw[g.me];exact h.me a,g.o.trans h.o,g.d.trans h.d⟩
theorem Ow.put {m m1 m2:Mc} {lo hi:Nat} {w:Nat→Int} {v:Int} (h:Ow m m1 lo hi w) (hl:lo≤hi) (hh:hi<m.me.length) (z:m2.rg 0=m1.rg 0) (u:m2.rg 15=m1.rg 15) (me:m2.me=m1.me.set hi v) (o:m2.out=m1.out) (d:m2.rd=m1.rd) (hv:v=w hi):Ow m m2 lo (hi+1) w:=by
 have:=h.len
 refine ⟨z.trans h.z,u.trans h.u,by rw[me,List.length_set];exact h.len,fun a=>?_,o.trans h.o,d.trans h.d⟩
 rw[me]
 by_cases e:hi=a
 ·subst e;rw[getD_set_self (by omega),if_pos (by omega),hv]
 ·rw[getD_set_ne e,h.me a]
  by_cases g:lo≤a∧a<hi
  ·rw[if_pos g,if_pos (by omega)]
  ·rw[if_neg g,if_neg (by omega)]
theorem args_go {code:List Ci} {j p fi:Nat} {b:Int} {L:List Int} {w:Nat→Int} (z:m.rg 0=0) (hk:StkAt m.me b L) (hb:(fi+p:Nat)≤b) (hm:b+L.length≤m.me.length) (hl:m.me.length≤32768) (hpl:p≤L.length) (hw:∀ k,k<p→w (fi+k)=L.getD (p-1-k) default) (hp:m.pc=j) :
 ∀ n,n≤p→At code j ((List.range n).flatMap fun k:Nat=>[⟨16,1,0,b+L.length-((p:Int)-k)⟩,⟨17,1,0,(fi:Int)+k⟩])→∃ m1,Mx code inp (2*n) m m1∧m1.pc=((j+2*n:Nat):Int)∧Ow m m1 fi (fi+n) w
 | 0,_,_=>⟨m,rfl,hp,Ow.refl m fi w⟩
 | n+1,hn,ha=>by
  rw[List.range_succ,List.flatMap_append]at ha
  obtain ⟨ha1,ha2⟩:=ha.app
  obtain ⟨m1,x1,p1,o1⟩:=args_go z hk hb hm hl hpl hw hp n (by omega) ha1
  have hlen:∀ q:Nat,((List.range q).flatMap fun k:Nat=>[(⟨16,1,0,b+L.length-((p:Int)-k)⟩:Ci),⟨17,1,0,(fi:Int)+k⟩]).length=2*q:=fun q=>by
   induction q with
   | zero=>rfl
   | succ q ih=>rw[List.range_succ,List.flatMap_append,List.length_append,ih];simp;omega
  rw[hlen]at ha2
  simp only[List.flatMap_cons,List.flatMap_nil,List.append_nil]at ha2
  have hme:=o1.len
  obtain ⟨m2,x2,p2,g2,v2,q2,ha2⟩:=go_ld (inp:=inp) (Gm.refl m1) (o1.z.trans z) ha2 p1 (by omega) (by omega) (by omega)
  have hv:m1.me.getD (b+L.length-((p:Int)-n)).toNat default=L.getD (p-1-n) default:=by
   rw[o1.me,if_neg (by omega)]
   have:=hk.get (j:=p-1-n) (by omega)
   rw[← this];congr 1;omega
  rw[hv]at v2
  obtain ⟨m3,x3,p3,e3,r3,o3,d3,_⟩:=go_st (inp:=inp) g2 (o1.z.trans z) ha2 p2 (by omega) (by omega)
  rw[v2]at e3
  refine ⟨m3,?_,?_,show Ow m m3 fi (fi+n+1) w from o1.put (v:=L.getD (p-1-n) default) (by omega) (by omega) (by rw[r3];exact g2.z) (by rw[r3];exact g2.u) (by rw[e3];congr 1) o3 d3 (hw n (by omega)).symm⟩
  ·rw[show 2*(n+1)=2*n+(1+1) by omega];exact x1.trans (x2.trans x3)
  ·rw[p3];congr 1
theorem zeros_go {code:List Ci} {j lo:Nat} (z:m.rg 0=0) (hl:m.me.length≤32768) (hp:m.pc=j) :
 ∀ n,lo+n≤m.me.length→At code j ((List.range n).map fun k:Nat=>⟨17,0,0,(lo:Int)+k⟩)→∃ m1,Mx code inp n m m1∧m1.pc=((j+n:Nat):Int)∧Ow m m1 lo (lo+n) (fun _=>0)
 | 0,_,_=>⟨m,rfl,hp,Ow.refl m lo _⟩
 | n+1,hn,ha=>by
  rw[List.range_succ,List.map_append]at ha
  obtain ⟨ha1,ha2⟩:=ha.app
  obtain ⟨m1,x1,p1,o1⟩:=zeros_go z hl hp n (by omega) ha1
  rw[List.length_map,List.length_range]at ha2
  have hme:=o1.len
  obtain ⟨m3,x3,p3,e3,r3,o3,d3,_⟩:=go_st (inp:=inp) (Gm.refl m1) (o1.z.trans z) ha2 p1 (by omega) (by omega)
  rw[show m1.rg (0:Int).toNat=0 from o1.z.trans z]at e3
  exact ⟨m3,x1.trans x3,by rw[p3];congr 1,show Ow m m3 lo (lo+n+1) (fun _=>0) from o1.put (v:=0) (by omega) (by omega) (by rw[r3]) (by rw[r3]) (by rw[e3];congr 1) o3 d3 rfl⟩
theorem mI_bnz (inp:ByteArray) (m:Mc) (a c:Int):mI inp m ⟨20,a,0,c⟩=({ m with pc:=if m.rg a.toNat=0 then m.pc+1 else c },0):=by simp[mI]
theorem loop_go {code:List Ci} {q hi:Nat} (hq:At code q [⟨17,0,1,0⟩,⟨4,1,1,15⟩,⟨14,3,1,2⟩,⟨20,3,0,((q:Nat):Int)⟩]) :
 ∀ (n:Nat) (m:Mc) (lo:Nat),lo+(n+1)=hi→hi≤m.me.length→m.me.length≤32768→m.pc=q→m.rg 0=0→m.rg 15=1→m.rg 1=lo→m.rg 2=hi→∃ m1,Mx code inp (4*(n+1)) m m1∧m1.pc=((q+4:Nat):Int)∧Ow m m1 lo hi (fun _=>0):=by
 intro n
 induction n with
 | zero=>?_
 | succ n ih=>?_
 all_goals intro m lo hlo hhi hl hp z u r1 r2
 all_goals
  have hz:m.rg (0:Int).toNat=0:=z
  have hr1:m.rg (1:Int).toNat=lo:=r1
  have i1:=mI_st inp m 0 1 0 (by rw[hr1];omega) (by rw[hr1];omega)
  rw[hr1,hz,Int.add_zero,Int.toNat_natCast]at i1
  have x1:=Mx.one hq.cons.1 hp i1
  generalize hm1:({ m with me:=m.me.set lo 0,pc:=m.pc+1 }:Mc)=m1 at x1
  have e1:m1.rg=m.rg:=by rw[← hm1]
  have p1:m1.pc=((q+1:Nat):Int):=by rw[← hm1];simp only;omega
  have o1:Ow m m1 lo (lo+1) (fun _=>0):=(Ow.refl m lo (fun _=>0)).put (v:=0) (Nat.le_refl _) (by omega) (by rw[e1]) (by rw[e1]) (by rw[← hm1]) (by rw[← hm1]) (by rw[← hm1]) rfl
  have i2:=mI_op inp m1 4 1 1 15 (by omega)
  rw[show m1.rg (1:Int).toNat=lo by rw[e1];exact r1,show m1.rg (15:Int).toNat=1 by rw[e1];exact u,if_pos (by rfl),show (applyW 4 (lo:Int) 1).1=((lo+1:Nat):Int) from w32_in ⟨by omega,by omega⟩]at i2
  obtain ⟨m2,x2,p2,g2,v2,q2,a2⟩:=go_set (inp:=inp) (Gm.refl m1) hq.cons.2 p1 (by omega) i2
  have i3:=mI_op inp m2 14 3 1 2 (by omega)
  rw[show m2.rg (1:Int).toNat=((lo+1:Nat):Int) from v2,show m2.rg (2:Int).toNat=hi by rw[q2 _ (by decide),e1];exact r2,if_pos (by rfl),show (applyW 14 ((lo+1:Nat):Int) (hi:Int)).1=if ((lo+1:Nat):Int)<hi then 1 else 0 from rfl]at i3
  obtain ⟨m3,x3,p3,g3,v3,q3,a3⟩:=go_set (inp:=inp) g2 a2 p2 (by omega) i3
  have i4:=mI_bnz inp m3 3 ((q:Nat):Int)
  rw[v3]at i4
 ·rw[show (if ((lo+1:Nat):Int)<hi then (1:Int) else 0)=0 from if_neg (by omega),if_pos rfl]at i4
  refine ⟨_,?_,?_,Ow.gm (hi:=hi) ?_ (m2:={ m3 with pc:=m3.pc+1 }) ⟨g3.z,g3.u,g3.me,g3.o,g3.d⟩⟩
  ·exact x1.trans (x2.trans (x3.trans (Mx.one a3 p3 i4)))
  ·show m3.pc+1=_;omega
  ·rw[← hlo];exact o1
 ·rw[show (if ((lo+1:Nat):Int)<hi then (1:Int) else 0)=1 from if_pos (by omega),if_neg (by decide)]at i4
  have o3:Ow m { m3 with pc:=(q:Int) } lo (lo+1) (fun _=>0):=o1.gm ⟨g3.z,g3.u,g3.me,g3.o,g3.d⟩
  obtain ⟨m5,x5,p5,o5⟩:=ih { m3 with pc:=(q:Int) } (lo+1) (by omega) (by rw[o3.len];exact hhi) (by rw[o3.len];exact hl) rfl (o3.z.trans z) (o3.u.trans u) (by show m3.rg 1=_;rw[q3 1 (by decide)];exact v2) (by show m3.rg 2=_;rw[q3 2 (by decide),q2 2 (by decide),e1];exact r2)
  refine ⟨m5,?_,p5,⟨o5.z.trans o3.z,o5.u.trans o3.u,o5.len.trans o3.len,fun a=>?_,o5.o.trans o3.o,o5.d.trans o3.d⟩⟩
  ·rw[show 4*(n+1+1)=1+(1+(1+(1+4*(n+1)))) by omega]
   exact x1.trans (x2.trans (x3.trans ((Mx.one a3 p3 i4).trans x5)))
  ·rw[o5.me,o3.me]
   by_cases g1:lo+1≤a∧a<hi
   ·rw[if_pos g1,if_pos (by omega)]
   ·rw[if_neg g1]
    by_cases g2:lo≤a∧a<lo+1
    ·rw[if_pos g2,if_pos (by omega)]
    ·rw[if_neg g2,if_neg (by omega)]
theorem clear_go {code:List Ci} {j lo hi:Nat} (z:m.rg 0=0) (u:m.rg 15=1) (hl:m.me.length≤32768) (hp:m.pc=j) (hlo:lo≤hi) (hhi:hi≤m.me.length) (ha:At code j (fxE s (clearE j (lo:Int) (hi:Int)))) :
 ∃ n m1,n≤6+4*(hi-lo)∧Mx code inp n m m1∧m1.pc=((j+(clearE j (lo:Int) (hi:Int)).length:Nat):Int)∧Ow m m1 lo hi (fun _=>0):=by
 unfold clearE at ha ⊢
 by_cases h6:(hi:Int)-lo≤6
 ·rw[if_pos h6]at ha ⊢
  rw[show fxE s (zerosE (lo:Int) ((hi:Int)-lo).toNat)=(List.range (hi-lo)).map fun k:Nat=>(⟨17,0,0,(lo:Int)+k⟩:Ci) by
   rw[show ((hi:Int)-lo).toNat=hi-lo by omega];simp[fxE,fixY,zerosE,pY]]at ha
  obtain ⟨m1,x1,p1,o1⟩:=zeros_go (inp:=inp) z hl hp (hi-lo) (by omega) ha
  refine ⟨hi-lo,m1,by omega,x1,?_,?_⟩
  ·rw[p1];simp[zerosE]
  ·rw[show lo+(hi-lo)=hi by omega]at o1;exact o1
 ·rw[if_neg h6]at ha ⊢
  rw[show fxE s [pY 1 1 0 (lo:Int),pY 1 2 0 (hi:Int),pY 17 0 1 0,pY 4 1 1 15,pY 14 3 1 2,pY 20 3 0 ((j+2:Nat):Int)]=[⟨1,1,0,(lo:Int)⟩,⟨1,2,0,(hi:Int)⟩,⟨17,0,1,0⟩,⟨4,1,1,15⟩,⟨14,3,1,2⟩,⟨20,3,0,((j+2:Nat):Int)⟩] from rfl]at ha
  obtain ⟨m1,x1,p1,g1,v1,q1,ha⟩:=go_set (inp:=inp) (Gm.refl m) ha hp (by omega) (mI_li inp m 1 0 _)
  obtain ⟨m2,x2,p2,g2,v2,q2,ha⟩:=go_set (inp:=inp) g1 ha p1 (by omega) (mI_li inp m1 2 0 _)
  obtain ⟨m3,x3,p3,o3⟩:=loop_go (inp:=inp) (hi:=hi) ha (hi-lo-1) m2 lo (by omega) (by rw[g2.me];exact hhi) (by rw[g2.me];exact hl) p2 (g2.z.trans z) (g2.u.trans u) (by rw[q2 1 (by decide)];exact v1) v2
  refine ⟨1+(1+4*(hi-lo-1+1)),m3,by omega,x1.trans (x2.trans x3),p3,⟨o3.z.trans g2.z,o3.u.trans g2.u,by rw[o3.len,g2.me],fun a=>by rw[o3.me,g2.me],o3.o.trans g2.o,o3.d.trans g2.d⟩⟩
end
theorem putR_getD {m l:List Int} {k a:Nat} (h:k+l.length≤m.length):(putR m k l).getD a default=if k≤a∧a<k+l.length then l.getD (a-k) default else m.getD a default:=by
 unfold putR
 simp only[List.getD]
 have e1:(m.take k).length=k:=by simp;omega
 by_cases h1:a<k
 ·rw[if_neg (by omega),List.append_assoc,List.getElem?_append_left (by omega),List.getElem?_take_of_lt h1]
 ·by_cases h2:a<k+l.length
  ·rw[if_pos (by omega),List.getElem?_append_left (by rw[List.length_append];omega),List.getElem?_append_right (by omega),e1]
  ·rw[if_neg (by omega),List.getElem?_append_right (by rw[List.length_append];omega),List.getElem?_drop,List.length_append,e1]
   congr 2;omega
theorem ownW_getD {g:SF} {L:List Int} {i p sl:Nat} (hp:g.params=(p:Int)) (hs:g.slots=(sl:Int)) (h:p≤L.length) (hi:i<sl):(ownW g L).getD i default=if i<p then L.getD (p-1-i) default else 0:=by
 unfold ownW
 rw[hp,hs]
 simp only[Int.toNat_natCast,List.getD]
 have e1:(L.take p).length=p:=by simp;omega
 by_cases h1:i<p
 ·rw[if_pos h1,List.getElem?_append_left (by rw[List.length_reverse];omega),List.getElem?_reverse (by omega),e1,List.getElem?_take_of_lt (by omega)]
 ·rw[if_neg h1,List.getElem?_append_right (by rw[List.length_reverse];omega),List.length_reverse,e1,List.getElem?_replicate]
  split<;>rfl
section
variable {s:SP} {σ:SM} {m m1:Mc} {inp:ByteArray}
theorem mI_call (inp:ByteArray) (m:Mc) (a c:Int):mI inp m ⟨21,a,0,c⟩=({ m with rg:=upM m.rg a.toNat (m.pc+1),pc:=c },0):=by simp[mI]
theorem op_call (hP:SimP s) (hI:InvS s (depS s) σ) (h:Rk s σ m) (h0:σ.fin=0) (e:(s.ins σ.top.f σ.top.at_).op=10) (hx:0≤(s.ins σ.top.f σ.top.at_).a∧(s.ins σ.top.f σ.top.at_).a<(σ.top.f:Int)) (hc:CallOK (s.fn (s.ins σ.top.f σ.top.at_).a.toNat) σ.mem.length σ.top.L.length):GoesK s inp σ m:=by
 obtain ⟨hl,ha,hnx,hb0,hbd,hbm,hbw,hw0⟩:=cmK hP hI h
 have hs:stepS s inp σ=stepI s inp (s.ins σ.top.f σ.top.at_) σ.next:=stepS_eq h0
 unfold GoesK
 rw[hs]
 have hml:=hI.mem
 have hff:=hI.top.f
 generalize s.ins σ.top.f σ.top.at_=x at *
 simp only[stepI,e,Int.reduceEq,if_true,if_false]
 simp only[insE,e,Int.reduceEq,if_true,if_false]at ha hnx
 obtain ⟨c1,c2,c3,c4,c5⟩:=hc
 obtain ⟨g,hg⟩:∃ g:Nat,x.a=(g:Int):=⟨_,(Int.toNat_of_nonneg hx.1).symm⟩
 rw[hg]at hx
 unfold callE at ha hnx
 rw[show (exE s σ.top.f).s=s from rfl]at ha hnx
 unfold SM.call
 simp only[hg,Int.toNat_natCast]at ha hnx c1 c2 c3 c4 c5 ⊢
 obtain ⟨p,hp⟩:∃ p:Nat,(s.fn g).params=(p:Int):=⟨_,(Int.toNat_of_nonneg c1).symm⟩
 obtain ⟨sl,hsl⟩:∃ p:Nat,(s.fn g).slots=(p:Int):=⟨_,(Int.toNat_of_nonneg (Int.le_trans c1 c2)).symm⟩
 obtain ⟨fi,hfi⟩:∃ p:Nat,(s.fn g).first=(p:Int):=⟨_,(Int.toNat_of_nonneg c3).symm⟩
 have hpn:(s.fn g).params.toNat=p:=by omega
 rw[hpn]at ha hnx ⊢
 rw[hp]at c1 c2 c5
 rw[hsl]at c2 c4
 rw[hfi]at c3 c4
 have hgf:g<σ.top.f:=by omega
 have hgl:g<s.funcs.length:=by omega
 have hn:=h.n
 have hd:=hP.dat
 have hn0:=hP.r.n0
 have hbg:=base_back (s:=s) (f:=g) (by omega)
 have hdg:=datE_next (s:=s) g
 have hdp:=dpE_nn (depS s g)
 have hmn:=datE_mono (s:=s) (show g+1≤σ.top.f by omega)
 have hbf:=base_ge (s:=s) σ.top.f
 have hwg:=words_le (s:=s) g
 have eA:fxE s (argsE (exE s σ.top.f) σ.top.L.length (s.fn g) p)=(List.range p).flatMap fun k:Nat=>[⟨16,1,0,baseE s σ.top.f+σ.top.L.length-((p:Int)-k)⟩,⟨17,1,0,(fi:Int)+k⟩]:=by
  unfold argsE
  rw[fxE,fixY,List.map_flatMap]
  congr 1
  funext k
  simp only[argE,ldE,pY,hp,hfi,List.map_cons,List.map_nil]
  rfl
 rw[fxE_app,fxE_app,eA]at ha
 obtain ⟨ha,hret⟩:=ha.app
 obtain ⟨ha,hcall⟩:=ha.app
 rw[show fxE s [jY 21 14 (g:Int) (-1)]=[⟨21,14,0,((entE s g:Nat):Int)⟩] by
  rw[← ent_en hn0 hgl];simp[fxE,fixY,jY,tgt]]at hcall hret
 have hal:((List.range p).flatMap fun k:Nat=>[(⟨16,1,0,baseE s σ.top.f+σ.top.L.length-((p:Int)-k)⟩:Ci),⟨17,1,0,(fi:Int)+k⟩]).length=2*p:=by rw[← eA,fxE_len,argsE_len]
 rw[List.length_append,hal]at hret
 rw[hal]at hcall
 simp only[List.length_cons,List.length_nil]at hret
 simp only[List.length_append,argsE_len,List.length_cons,List.length_nil]at hnx
 obtain ⟨m1,x1,p1,o1⟩:=args_go (inp:=inp) (code:=fixE s) (w:=fun a=>σ.top.L.getD (p-1-(a-fi)) default) h.z h.k (fi:=fi) (by omega) (by omega) hl (by omega) (fun k hk=>by show σ.top.L.getD (p-1-(fi+k-fi)) default=_;congr 1;omega) h.pc p (Nat.le_refl _) ha
 have i2:=mI_call inp m1 14 ((entE s g:Nat):Int)
 have x2:=Mx.one hcall p1 i2
 generalize hm2:({ m1 with rg:=upM m1.rg (14:Int).toNat (m1.pc+1),pc:=((entE s g:Nat):Int) }:Mc)=m2 at x2
 have z2:m2.rg 0=0:=by rw[← hm2];exact o1.z.trans h.z
 have u2:m2.rg 15=1:=by rw[← hm2];exact o1.u.trans h.u
 have v2:m2.rg (14:Int).toNat=((adr s σ.top.f σ.top.at_+2*p+1:Nat):Int):=by rw[← hm2];simp only[upM,if_true];rw[p1];omega
 have e2:m2.me=m1.me:=by rw[← hm2]
 have q2:m2.out=m1.out∧m2.rd=m1.rd:=by rw[← hm2];exact ⟨rfl,rfl⟩
 have p2:m2.pc=((entE s g:Nat):Int):=by rw[← hm2]
 clear hm2 i2
 have l1:=o1.len
 have hh:=at_head (s:=s) hn0 hgl
 have hnl:¬ (exE s g).last:=by unfold Ex.last exE;simp only;omega
 have az:=adr_zero (s:=s) g
 unfold headE at hh az
 rw[if_neg hnl]at hh az
 rw[show (exE s g).g.first+(exE s g).g.params=((fi+p:Nat):Int) by show (s.fn g).first+(s.fn g).params=_;rw[hp,hfi];omega,show (exE s g).g.first+(exE s g).g.slots=((fi+sl:Nat):Int) by show (s.fn g).first+(s.fn g).slots=_;rw[hsl,hfi];omega,show (exE s g).back=datE s g from rfl]at hh az
 rw[fxE_app,fx_p]at hh
 obtain ⟨m3,x3,p3,e3,r3,o3,d3,hh⟩:=go_st (inp:=inp) (Gm.refl m2) z2 hh p2 (by rw[e2];omega) (by rw[e2];omega)
 rw[v2,e2]at e3
 have l3:m3.me.length=m.me.length:=by rw[e3,List.length_set,l1]
 obtain ⟨n4,m4,hn4,x4,p4,o4⟩:=clear_go (s:=s) (inp:=inp) (m:=m3) (by rw[r3];exact z2) (by rw[r3];exact u2) (by omega) p3 (by omega) (by omega) hh
 have hmem:∀ a,m4.me.getD a default=if fi+p≤a∧a<fi+sl then 0 else if a=(datE s g).toNat then ((adr s σ.top.f σ.top.at_+2*p+1:Nat):Int) else if fi≤a∧a<fi+p then σ.top.L.getD (p-1-(a-fi)) default else m.me.getD a default:=fun a=>by
  rw[o4.me]
  by_cases g1:fi+p≤a∧a<fi+sl
  ·rw[if_pos g1,if_pos g1]
  ·rw[if_neg g1,if_neg g1,e3]
   by_cases g2:a=(datE s g).toNat
   ·rw[if_pos g2,← g2,getD_set_self (by omega)]
   ·rw[if_neg g2,getD_set_ne (fun e=>g2 e.symm),o1.me]
 have hret2:(s.fn g).word=true→At (fixE s) (adr s σ.top.f σ.top.at_+2*p+1) [⟨17,1,0,baseE s σ.top.f+(σ.top.L.drop p).length⟩]:=fun hw=>by
  rw[if_pos hw]at hret
  have:fxE s [stE (exE s σ.top.f) σ.top.L.length 1 (s.fn g).params]=[⟨17,1,0,baseE s σ.top.f+(σ.top.L.drop p).length⟩]:=by
   rw[List.length_drop,show ((σ.top.L.length-p:Nat):Int)=σ.top.L.length-(s.fn g).params by omega,← Int.add_sub_assoc];rfl
  rw[this]at hret
  exact hret
 have hcnt:adr s σ.top.f (σ.top.at_+1)=adr s σ.top.f σ.top.at_+2*p+1+cntB (s.fn g).word:=by
  rw[hnx]
  cases (s.fn g).word<;>simp[cntB]<;>omega
 have hl4:=o4.len
 refine ⟨2*p+(1+(1+n4)),m4,by omega,x1.trans (x2.trans (x3.trans x4)),⟨o4.z.trans (by rw[r3];exact z2),o4.u.trans (by rw[r3];exact u2),?_,by rw[hl4,l3];exact h.n,fun a haw=>?_,?_,?_,trivial,hgf,hff,⟨adr s σ.top.f σ.top.at_+2*p+1,?_,hcnt.symm,hret2⟩,?_,?_⟩⟩
 ·rw[p4]
  show _=((adr s g 0:Nat):Int)
  rw[az,List.length_append,List.length_singleton];congr 1;omega
 ·rw[hmem]
  have hol:(ownW (s.fn g) σ.top.L).length=sl:=by
   rw[ownW_length (m:=σ.mem.length) (d:=σ.top.L.length) ⟨by omega,by omega,by omega,by omega,by omega⟩ rfl,hsl];rfl
  show _=(putR σ.mem (s.fn g).first.toNat (ownW (s.fn g) σ.top.L)).getD a default
  rw[hfi,Int.toNat_natCast,putR_getD (by omega),hol]
  by_cases g1:fi+p≤a∧a<fi+sl
  ·rw[if_pos g1,if_pos (by omega),ownW_getD hp hsl (by omega) (by omega),if_neg (by omega)]
  ·rw[if_neg g1,if_neg (by omega)]
   by_cases g2:fi≤a∧a<fi+p
   ·rw[if_pos g2,if_pos (by omega),ownW_getD hp hsl (by omega) (by omega),if_pos (by omega)]
   ·rw[if_neg g2,if_neg (by omega)];exact h.w a haw
 ·rw[o4.o,o3,q2.1,o1.o];exact h.o
 ·rw[o4.d,d3,q2.2,o1.d];exact h.d
 ·show m4.me.getD (datE s g).toNat default=_
  rw[hmem,if_neg (by omega),if_pos rfl]
 ·refine (h.k.drop p).agree fun a g1 g2=>?_
  rw[hmem,if_neg (by omega),if_neg (by omega),if_neg (by omega)]
 ·refine h.b.agree fun a ha=>?_
  have hmn2:=datE_mono (s:=s) (show σ.top.f≤σ.top.f+1 by omega)
  rw[hmem,if_neg (by omega),if_neg (by omega),if_neg (by omega)]
end
set_option maxRecDepth 10000
open Go.V
abbrev words (l:List Int):AV:=.imm 1 (l.map U32)
def regs (f:Nat→Int):List AV:=(List.range 16).map fun k=>U32 (f k)
def stc (pc:Int) (f:Nat→Int) (m:AV) (rd:Int) (out:ByteArray) (st fin:Int):List AV:=I pc::(regs f++[m,I rd,strv out,I st,I fin])
def updR (f:Nat→Int) (j:Nat) (v:Int):Nat→Int:=fun k=>if k=j then v else f k
theorem regs_length (f:Nat→Int):(regs f).length=16:=rfl
theorem regs_all (f:Nat→Int):(regs f).all AV.one=true:=rfl
theorem regs_get {f:Nat→Int} {j:Nat} (h:j<16):(regs f).getD j .dead=U32 (f j):=by
 simp[regs,List.getD,h]
theorem regs_set {f:Nat→Int} {j:Nat} {v:Int} (h:j<16):(regs f).set j (U32 v)=regs (updR f j v):=by
 refine List.ext_getElem (by simp[regs]) fun i h1 h2=>?_
 rw[List.getElem_set]
 simp only[regs,List.getElem_map,List.getElem_range,updR]
 by_cases e:j=i
 ·subst e;simp
 ·rw[if_neg e,if_neg (fun h=>e h.symm)]
section
variable {pc:Int} {f:Nat→Int} {m:AV} {rd:Int} {out:ByteArray} {st fin:Int} {C:AV→Prop}
theorem stc_length:(stc pc f m rd out st fin).length=22:=rfl
theorem stc_all:(stc pc f m rd out st fin).all AV.one=m.one:=by
 simp[stc,regs_all];simp[AV.one,Value.oneCell']
theorem s_all:cellT (stc pc f m rd out st fin) 0 true 22 C .mk=C (.agg (stc pc f m rd out st fin)):=by
 simp only[cellT,cellW,partOK,partA]
 rw[stc_length];simp
 rw[List.take_of_length_le (by rw[stc_length];exact Nat.le_refl _)]
theorem s_pc:cellT (stc pc f m rd out st fin) 0 false 1 C .mk=C (I pc):=by
 simp only[cellT,cellW,partOK,partA,stc_length];simp[stc,AV.one,Value.oneCell']
theorem s_regs:cellT (stc pc f m rd out st fin) 1 true 16 C .mk=C (.agg (regs f)):=by
 simp only[cellT,cellW,partOK,partA,stc_length]
 simp only[stc,if_true,List.drop_succ_cons,List.drop_zero]
 rw[List.take_append_of_le_length (by rw[regs_length];exact Nat.le_refl _),List.take_of_length_le (by rw[regs_length];exact Nat.le_refl _)]
 simp
theorem s_mem:cellT (stc pc f m rd out st fin) 17 false 1 C .mk=(m.one=true∧C m):=by
 have e:(stc pc f m rd out st fin).getD 17 .dead=m:=rfl
 simp only[cellT,cellW,partOK,partA,stc_length,e];simp
theorem s_rd:cellT (stc pc f m rd out st fin) 18 false 1 C .mk=C (I rd):=by
 have e:(stc pc f m rd out st fin).getD 18 .dead=I rd:=rfl
 simp only[cellT,cellW,partOK,partA,stc_length,e];simp[AV.one,Value.oneCell']
theorem s_out:cellT (stc pc f m rd out st fin) 19 false 1 C .mk=C (strv out):=by
 have e:(stc pc f m rd out st fin).getD 19 .dead=strv out:=rfl
 simp only[cellT,cellW,partOK,partA,stc_length,e];simp[AV.one,Value.oneCell']
theorem s_st:cellT (stc pc f m rd out st fin) 20 false 1 C .mk=C (I st):=by
 have e:(stc pc f m rd out st fin).getD 20 .dead=I st:=rfl
 simp only[cellT,cellW,partOK,partA,stc_length,e];simp[AV.one,Value.oneCell']
theorem s_fin:cellT (stc pc f m rd out st fin) 21 false 1 C .mk=C (I fin):=by
 have e:(stc pc f m rd out st fin).getD 21 .dead=I fin:=rfl
 simp only[cellT,cellW,partOK,partA,stc_length,e];simp[AV.one,Value.oneCell']
theorem ss_mem {x:AV}:(stc pc f m rd out st fin).set 17 x=stc pc f x rd out st fin:=rfl
theorem ss_fin {x:Int}:(stc pc f m rd out st fin).set 21 (I x)=stc pc f m rd out st x:=rfl
theorem s_zero:([.val (.int .i64 0),.val (.int .u32 0),.val (.int .u32 0),.val (.int .u32 0),.val (.int .u32 0),.val (.int .u32 0),.val (.int .u32 0),.val (.int .u32 0),.val (.int .u32 0),.val (.int .u32 0),.val (.int .u32 0),.val (.int .u32 0),.val (.int .u32 0),.val (.int .u32 0),.val (.int .u32 0),.val (.int .u32 0),.val (.int .u32 0),.val (.slice none 0 0),.val (.int .i64 0),.val (.string ⟨#[]⟩),.val (.int .i64 0),.val (.int .i64 0)]:List AV)
 = stc 0 (fun _=>0) nilv 0 ⟨#[]⟩ 0 0:=rfl
theorem s_put {pc':Int} {f':Nat→Int} {m':AV} {rd':Int} {out':ByteArray} {st' fin':Int}:(stc pc f m rd out st fin).take 0++stc pc' f' m' rd' out' st' fin'++(stc pc f m rd out st fin).drop (0+22)=stc pc' f' m' rd' out' st' fin':=by
 rw[List.drop_eq_nil_of_le (by rw[stc_length];exact Nat.le_refl _)];simp
theorem s_put' {pc':Int} {f':Nat→Int} {m':AV} {rd':Int} {out':ByteArray} {st' fin':Int}:stc pc' f' m' rd' out' st' fin'++(stc pc f m rd out st fin).drop 22=stc pc' f' m' rd' out' st' fin':=by
 rw[List.drop_eq_nil_of_le (by rw[stc_length];exact Nat.le_refl _)];simp
variable {code:AV} {inp:ByteArray} {own:Bool} {more:AV}
end
structure S where
 pc:Int
 reg:Nat→Int
 mem:List Int
 rd:Int
 out:ByteArray
 st:Int
 fin:Int
abbrev stA (s:S):AV:=.agg (stc s.pc s.reg (words s.mem) s.rd s.out s.st s.fin)
theorem stA_frz' {n:Nat} {H:List VObj} {nx:Nat} {pc:Int} {f:Nat→Int} {m:AV} {mem:List Int} {rd:Int} {out:ByteArray} {st fin:Int} (h:Frz n H nx m (words mem)):Frz n H nx (.agg (stc pc f m rd out st fin)) (stA ⟨pc,f,mem,rd,out,st,fin⟩):=by
 refine Frz.agg ?_
 refine ⟨_,_,rfl,Frz.pure rfl,?_⟩
 have app:∀ {xs ys xs' ys':List AV},FrzL n H nx xs xs'→FrzL n H nx ys ys'→FrzL n H nx (xs++ys) (xs'++ys'):=fun {xs ys xs' ys'} h1 h2=>by
  induction xs generalizing xs' with
  | nil=>simp only[FrzL]at h1;subst h1;exact h2
  | cons x xs ih =>
   obtain ⟨y,ys2,rfl,h3,h4⟩:=h1
   exact ⟨y,_,rfl,h3,ih h4⟩
 refine app (FrzL.pure rfl) ⟨_,_,rfl,h,FrzL.pure rfl⟩
set_option maxRecDepth 10000
open Go.V
section
variable {α:Type}
theorem ogn (T:List α) (x:α) (R:List α):(T++x::R)[T.length]? = some x:=by simp
theorem osn (T:List α) (x y:α) (R:List α):(T++x::R).set T.length y=T++y::R:=by
 rw[List.set_append_right _ _ (Nat.le_refl _)];simp
end
def nxtM (s:S):Int:=IntKind.i64.wrap (s.pc+1)
def setR (s:S) (a v:Int):S:={ s with reg:=updR s.reg a.toNat v,pc:=nxtM s }
def atW (s:S) (b c:Int):Int:=w32 (s.reg b.toNat+c)
def byteOf (r:Int):UInt8:=UInt8.ofNat (IntKind.u8.wrap r).toNat
def insM (code:List Int) (inp:ByteArray) (s:S) (op a b c:Int):Int × S :=
 if op=18 then (0,{ s with pc:=c })
 else if op=19 then (0,{ s with pc:=if s.reg a.toNat=0 then c else nxtM s })
 else if op=20 then (0,{ s with pc:=if s.reg a.toNat=0 then nxtM s else c })
 else if op=21 then (0,{ s with reg:=updR s.reg a.toNat (w32 (nxtM s)),pc:=c })
 else if op=22 then (0,{ s with pc:=s.reg a.toNat })
 else if op=1 then (0,setR s a c)
 else if op=2 then (0,setR s a (s.reg a.toNat % 65536+c*65536))
 else if op=3 then (0,setR s a (s.reg b.toNat))
 else if op=16 then (if atW s b c<s.mem.length then (0,setR s a (s.mem.getD (atW s b c).toNat default)) else (8,s))
 else if op=17 then (if atW s b c<s.mem.length then (0,{ s with mem:=s.mem.set (atW s b c).toNat (s.reg a.toNat),pc:=nxtM s }) else (8,s))
 else if op=27 then (if atW s b c<code.length then (0,setR s a (code.getD (atW s b c).toNat default)) else (8,s))
 else if op=23 then (0,if s.rd<0∨(inp.size:Int)≤s.rd then setR s a 256 else setR { s with rd:=IntKind.i64.wrap (s.rd+1) } a (byteAt inp s.rd.toNat))
 else if op=24 then (if 65536≤s.out.size then (4,s) else (0,{ s with out:=s.out.push (byteOf (s.reg a.toNat)),pc:=nxtM s }))
 else if op=25 then (if s.reg a.toNat<c then (0,{ s with pc:=nxtM s }) else (3,s))
 else if op=26 then (1,s)
 else if (applyW op (s.reg b.toNat) (s.reg c.toNat)).2=0 then (0,setR s a (applyW op (s.reg b.toNat) (s.reg c.toNat)).1) else (2,s)
section
variable (code:List Int) (inp:ByteArray) (pc:Int) (f:Nat→Int) (m:AV) (rd:Int) (out:ByteArray) (st fin:Int) (own:Bool) (more:AV) (L T:List VObj) (s nx:Nat)
end
set_option maxRecDepth 10000
open Go.V
def MemAt (L T:List VObj) (m:AV) (own:Bool) (mem:List Int):Prop :=
 (own=false∧m=words mem)∨(own=true∧∃ k sm,m = .ref (L.length+(k+1)) sm 0 mem.length∧T[k]? = some ⟨sm,30,1,mem.map U32⟩)
def MoreAt (L T:List VObj) (m:AV) (bs:List UInt8):Prop :=
 (m=nilv∧bs=[])∨∃ k sm,m = .ref (L.length+(k+1)) sm 0 bs.length∧T[k]? = some ⟨sm,5,1,bs.map U8⟩
theorem MemAt.add {L T:List VObj} {m:AV} {own:Bool} {mem:List Int} (h:MemAt L T m own mem) (R:List VObj):MemAt L (T++R) m own mem:=by
 rcases h with h | ⟨h1,k,sm,h2,h3⟩
 ·exact .inl h
 ·exact .inr ⟨h1,k,sm,h2,by rw[List.getElem?_append_left (List.getElem?_eq_some_iff.1 h3).1];exact h3⟩
theorem MoreAt.add {L T:List VObj} {m:AV} {bs:List UInt8} (h:MoreAt L T m bs) (R:List VObj):MoreAt L (T++R) m bs:=by
 rcases h with h | ⟨k,sm,h2,h3⟩
 ·exact .inl h
 ·exact .inr ⟨k,sm,h2,by rw[List.getElem?_append_left (List.getElem?_eq_some_iff.1 h3).1];exact h3⟩
def Keep (T T':List VObj):Prop:=∀ (k:Nat) (ob:VObj),T[k]? = some ob→(ob.sz=0∨(ob.ty≠30∧ob.ty≠5))→T'[k]? = some ob
theorem Keep.refl (T:List VObj):Keep T T:=fun _ _ h _=>h
theorem Keep.add {T:List VObj} (R:List VObj):Keep T (T++R):=fun k ob h _=>by rw[List.getElem?_append_left (List.getElem?_eq_some_iff.1 h).1];exact h
theorem Keep.trans {T T' T'':List VObj} (h:Keep T T') (k:Keep T' T''):Keep T T'':=fun i ob h1 h2=>k i ob (h i ob h1 h2) h2
theorem Keep.put {T:List VObj} {k:Nat} {ob ob':VObj} (h:T[k]? = some ob) (hz:ob.sz≠0) (ht:ob.ty=30∨ob.ty=5) (R:List VObj):Keep T ((T++R).set k ob'):=fun i o h1 h2=>by
 have hne:k≠i:=fun e=>by
  subst e;rw[h]at h1;cases h1
  rcases h2 with h2 | ⟨h2,h3⟩
  ·exact hz h2
  rcases ht with e | e
  ·exact h2 e
  ·exact h3 e
 rw[List.getElem?_set,if_neg hne,List.getElem?_append_left (List.getElem?_eq_some_iff.1 h1).1];exact h1
theorem MemAt.one {L T:List VObj} {m:AV} {own:Bool} {mem:List Int} (h:MemAt L T m own mem):m.one=true:=by
 rcases h with ⟨_,h⟩ | ⟨_,k,sm,h,_⟩<;>rw[h]<;>rfl
theorem MoreAt.one {L T:List VObj} {m:AV} {bs:List UInt8} (h:MoreAt L T m bs):m.one=true:=by
 rcases h with ⟨h,_⟩ | ⟨k,sm,h,_⟩<;>rw[h]<;>rfl
theorem MoreAt.put {L T:List VObj} {m:AV} {bs:List UInt8} (h:MoreAt L T m bs) {k sm:Nat} {cs cs':List AV} (hk:T[k]? = some ⟨sm,30,1,cs⟩) (R:List VObj):MoreAt L ((T++R).set k ⟨sm,30,1,cs'⟩) m bs:=by
 rcases h with h | ⟨j,s2,h2,h3⟩
 ·exact .inl h
 ·refine .inr ⟨j,s2,h2,?_⟩
  have hne:k≠j:=fun e=>by
   subst e;rw[hk]at h3
   simp only[Option.some.injEq,VObj.mk.injEq]at h3
   exact absurd h3.2.1 (by decide)
  rw[List.getElem?_set,if_neg hne,List.getElem?_append_left (List.getElem?_eq_some_iff.1 h3).1];exact h3
section
variable (code:List Int) (inp:ByteArray) (pc:Int) (f:Nat→Int) (m:AV) (mem:List Int) (rd:Int) (out outT:ByteArray) (st fin:Int) (own:Bool) (more:AV) (L T:List VObj) (s nx:Nat)
end
set_option maxRecDepth 10000
open Go.V
theorem MemAt.put {L T:List VObj} {m:AV} {own:Bool} {mem:List Int} (h:MemAt L T m own mem) {k sm s':Nat} {cs cs':List AV} (hk:T[k]? = some ⟨sm,5,1,cs⟩) (R:List VObj):MemAt L ((T++R).set k ⟨s',5,1,cs'⟩) m own mem:=by
 rcases h with h | ⟨h1,j,s2,h2,h3⟩
 ·exact .inl h
 ·refine .inr ⟨h1,j,s2,h2,?_⟩
  have hne:k≠j:=fun e=>by
   subst e;rw[hk]at h3
   simp only[Option.some.injEq,VObj.mk.injEq]at h3
   exact absurd h3.2.1 (by decide)
  rw[List.getElem?_set,if_neg hne,List.getElem?_append_left (List.getElem?_eq_some_iff.1 h3).1];exact h3
theorem MoreAt.size {L T:List VObj} {m:AV} {bs:List UInt8} (h:MoreAt L T m bs):(m=nilv∧bs=[])∨∃ k sm,m = .ref (L.length+(k+1)) sm 0 bs.length∧T[k]? = some ⟨sm,5,1,bs.map U8⟩:=h
theorem byteOf_eq (r:Int):((byteOf r).toNat:Int)=IntKind.u8.wrap r:=by
 unfold byteOf
 rw[IntKind.wrap_u8]
 simp only[UInt8.toNat_ofNat']
 omega
section
variable (code:List Int) (inp:ByteArray) (pc:Int) (f:Nat→Int) (m:AV) (mem:List Int) (rd:Int) (out outT:ByteArray) (st fin:Int) (own:Bool) (more:AV) (bs:List UInt8) (L T:List VObj) (s nx:Nat)
end
set_option maxRecDepth 10000
open Go.V
def wordF (code:List Int) (inp:ByteArray) (s:S) (w:Int):S :=
 if okW w then (if (insM code inp s (opW w) (raW w) (rbW w) (kW w)).1=0 then (insM code inp s (opW w) (raW w) (rbW w) (kW w)).2
  else { (insM code inp s (opW w) (raW w) (rbW w) (kW w)).2 with fin:=(insM code inp s (opW w) (raW w) (rbW w) (kW w)).1 })
 else { s with fin:=6 }
def doneF (code:List Int) (s:S):Bool:=decide (s.fin=0) && (decide (0≤s.pc) && decide (s.pc<code.length))
def stepF (code:List Int) (inp:ByteArray) (s:S):S :=
 if s.fin=0 then (if s.pc<0∨(code.length:Int)≤s.pc then { s with fin:=7 } else wordF code inp { s with st:=IntKind.i64.wrap (s.st+1) } (code.getD s.pc.toNat default)) else s
theorem ite_ind {α:Type} {P:α→Prop} {c:Prop} [Decidable c] {x y:α} (h1:c→P x) (h2:¬ c→P y):P (if c then x else y):=by
 by_cases h:c
 ·rw[if_pos h];exact h1 h
 ·rw[if_neg h];exact h2 h
theorem applyM_in (op a b:Int) (ha:In32 a) (hb:In32 b):In32 (applyW op a b).1:=by
 have z:In32 0:=⟨by omega,by omega⟩
 have one:In32 1:=⟨by omega,by omega⟩
 unfold applyW
 refine ite_ind (P:=fun p:Int × Int=>In32 p.1) (fun _=>w32_ok _) fun _=>?_
 refine ite_ind (P:=fun p:Int × Int=>In32 p.1) (fun _=>w32_ok _) fun _=>?_
 refine ite_ind (P:=fun p:Int × Int=>In32 p.1) (fun _=>w32_ok _) fun _=>?_
 refine ite_ind (P:=fun p:Int × Int=>In32 p.1) (fun _=>ite_ind (P:=fun p:Int × Int=>In32 p.1) (fun _=>z) fun _=>w32_ok _) fun _=>?_
 refine ite_ind (P:=fun p:Int × Int=>In32 p.1) (fun _=>ite_ind (P:=fun p:Int × Int=>In32 p.1) (fun _=>z) fun h=>?_) fun _=>?_
 ·show In32 (a.tmod b)
  rw[Int.tmod_eq_emod_of_nonneg ha.1]
  have h1:0≤a % b:=Int.emod_nonneg _ h
  have h2:a % b<b:=Int.emod_lt_of_pos _ (by have:=hb.1;omega)
  exact ⟨h1,by have:=hb.2;omega⟩
 refine ite_ind (P:=fun p:Int × Int=>In32 p.1) (fun _=>w32_ok _) fun _=>?_
 refine ite_ind (P:=fun p:Int × Int=>In32 p.1) (fun _=>w32_ok _) fun _=>?_
 refine ite_ind (P:=fun p:Int × Int=>In32 p.1) (fun _=>w32_ok _) fun _=>?_
 refine ite_ind (P:=fun p:Int × Int=>In32 p.1) (fun _=>ite_ind (P:=In32) (fun _=>z) fun _=>w32_ok _) fun _=>?_
 refine ite_ind (P:=fun p:Int × Int=>In32 p.1) (fun _=>ite_ind (P:=In32) (fun _=>z) fun h=>?_) fun _=>?_
 ·have:=shrW_eq ha b.toNat (by have:=hb.1;omega)
  rw[show ((b.toNat:Nat):Int)=b by have:=hb.1;omega]at this
  rw[this]
  have h2:=Nat.div_le_self a.toNat (2 ^ b.toNat)
  have h3:=ha.2
  have h4:=ha.1
  generalize a.toNat / 2 ^ b.toNat=q at *
  exact ⟨by omega,by omega⟩
 refine ite_ind (P:=fun p:Int × Int=>In32 p.1) (fun _=>ite_ind (P:=In32) (fun _=>one) fun _=>z) fun _=>?_
 refine ite_ind (P:=fun p:Int × Int=>In32 p.1) (fun _=>ite_ind (P:=In32) (fun _=>one) fun _=>z) fun _=>z
structure Wf (s:S):Prop where
 reg:∀ k,In32 (s.reg k)
 mem:∀ x ∈ s.mem,In32 x
def wfS (s:S) (p:Int × S):Prop:=Wf p.2∧p.2.mem.length=s.mem.length∧s.out.size≤p.2.out.size∧p.2.out.size≤s.out.size+1
theorem updR_in {f:Nat→Int} (h:∀ k,In32 (f k)) {j:Nat} {v:Int} (hv:In32 v):∀ k,In32 (updR f j v k):=fun k=>by
 unfold updR;split
 ·exact hv
 ·exact h k
theorem insM_wf (code:List Int) (inp:ByteArray) (s:S) (op a b c:Int) (hcode:∀ x ∈ code,In32 x) (hs:Wf s) (hc:0≤c∧c≤65535):wfS s (insM code inp s op a b c):=by
 have same:wfS s (0,s):=⟨hs,rfl,Nat.le_refl _,Nat.le_succ _⟩
 have pcs:∀ e x,wfS s (e,{ s with pc:=x }):=fun e x=>⟨⟨hs.reg,hs.mem⟩,rfl,Nat.le_refl _,Nat.le_succ _⟩
 have ends:∀ e,wfS s (e,s):=fun e=>⟨hs,rfl,Nat.le_refl _,Nat.le_succ _⟩
 have regs_:∀ x v,In32 v→wfS s (0,setR s x v):=fun x v hv=>⟨⟨updR_in hs.reg hv,hs.mem⟩,rfl,Nat.le_refl _,Nat.le_succ _⟩
 have hR:=hs.reg a.toNat
 unfold insM
 refine ite_ind (P:=wfS s) (fun _=>pcs _ _) fun _=>?_
 refine ite_ind (P:=wfS s) (fun _=>pcs _ _) fun _=>?_
 refine ite_ind (P:=wfS s) (fun _=>pcs _ _) fun _=>?_
 refine ite_ind (P:=wfS s) (fun _=>⟨⟨updR_in hs.reg (w32_ok _),hs.mem⟩,rfl,Nat.le_refl _,Nat.le_succ _⟩) fun _=>?_
 refine ite_ind (P:=wfS s) (fun _=>pcs _ _) fun _=>?_
 refine ite_ind (P:=wfS s) (fun _=>regs_ _ _ ⟨by omega,by omega⟩) fun _=>?_
 refine ite_ind (P:=wfS s) (fun _=>regs_ _ _ ⟨by omega,by omega⟩) fun _=>?_
 refine ite_ind (P:=wfS s) (fun _=>regs_ _ _ (hs.reg _)) fun _=>?_
 have hat:In32 (atW s b c):=w32_ok _
 refine ite_ind (P:=wfS s) (fun _=>ite_ind (P:=wfS s) (fun h=>regs_ _ _ (hs.mem _ (mem_getD (by have:=hat.1;omega)))) fun _=>ends _) fun _=>?_
 refine ite_ind (P:=wfS s) (fun _=>ite_ind (P:=wfS s) (fun h=>⟨⟨hs.reg,fun x hx=>?_⟩,by simp,Nat.le_refl _,Nat.le_succ _⟩) fun _=>ends _) fun _=>?_
 ·rcases List.mem_or_eq_of_mem_set hx with h | h
  ·exact hs.mem x h
  ·rw[h];exact hR
 refine ite_ind (P:=wfS s) (fun _=>ite_ind (P:=wfS s) (fun h=>regs_ _ _ (hcode _ (mem_getD (by have:=hat.1;omega)))) fun _=>ends _) fun _=>?_
 refine ite_ind (P:=wfS s) (fun _=>?_) fun _=>?_
 ·refine ite_ind (P:=fun x:S=>wfS s (0,x)) (fun _=>regs_ _ _ ⟨by omega,by omega⟩) fun _=>⟨⟨updR_in hs.reg ⟨?_,?_⟩,hs.mem⟩,rfl,Nat.le_refl _,Nat.le_succ _⟩<;>unfold byteAt
  ·omega
  ·have:=(inp.data.toList.getD s.rd.toNat 0).toNat_lt;omega
 refine ite_ind (P:=wfS s) (fun _=>ite_ind (P:=wfS s) (fun _=>ends _) fun _=>⟨⟨hs.reg,hs.mem⟩,rfl,by simp[ByteArray.size_push],by simp[ByteArray.size_push]⟩) fun _=>?_
 refine ite_ind (P:=wfS s) (fun _=>ite_ind (P:=wfS s) (fun _=>pcs _ _) fun _=>ends _) fun _=>?_
 refine ite_ind (P:=wfS s) (fun _=>ends _) fun _=>?_
 exact ite_ind (P:=wfS s) (fun _=>regs_ _ _ (applyM_in _ _ _ (hs.reg _) (hs.reg _))) fun _=>ends _
theorem stepF_wf (code:List Int) (inp:ByteArray) (s:S) (hcode:∀ x ∈ code,In32 x) (hs:Wf s):wfS s (0,stepF code inp s):=by
 have ends:∀ x:S,x.reg=s.reg→x.mem=s.mem→x.out=s.out→wfS s (0,x):=fun x h1 h2 h3=>⟨⟨by show ∀ k,In32 (x.reg k);rw[h1];exact hs.reg,by show ∀ y ∈ x.mem,In32 y;rw[h2];exact hs.mem⟩,by show x.mem.length=_;rw[h2],by show s.out.size≤x.out.size;rw[h3];exact Nat.le_refl _,by show x.out.size≤_;rw[h3];exact Nat.le_succ _⟩
 refine ite_ind (P:=fun x:S=>wfS s (0,x)) (fun _=>?_) fun _=>ends _ rfl rfl rfl
 refine ite_ind (P:=fun x:S=>wfS s (0,x)) (fun _=>ends _ rfl rfl rfl) fun _=>?_
 unfold wordF
 generalize code.getD s.pc.toNat default=w
 have hk:0≤kW w∧kW w≤65535:=by unfold kW;omega
 have h:=insM_wf code inp { s with st:=IntKind.i64.wrap (s.st+1) } (opW w) (raW w) (rbW w) (kW w) hcode ⟨hs.reg,hs.mem⟩ hk
 refine ite_ind (P:=fun x:S=>wfS s (0,x)) (fun _=>?_) fun _=>ends _ rfl rfl rfl
 generalize insM code inp { s with st:=IntKind.i64.wrap (s.st+1) } (opW w) (raW w) (rbW w) (kW w)=p at *
 refine ite_ind (P:=fun x:S=>wfS s (0,x)) (fun _=>h) fun _=>?_
 exact ⟨⟨h.1.reg,h.1.mem⟩,h.2⟩
section
variable (code:List Int) (inp:ByteArray) (pc:Int) (f:Nat→Int) (m:AV) (mem:List Int) (rd:Int) (out outT:ByteArray) (st fin:Int) (own:Bool) (more:AV) (bs:List UInt8) (L T:List VObj) (s nx:Nat)
end
set_option maxRecDepth 10000
open Go.V
abbrev imgA (code:List Int) (data:Int):AV:=.agg [words code,I data]
theorem bytes_ext {a b:ByteArray} (h:a.data.toList=b.data.toList):a=b:=by
 cases a;cases b;simp only[ByteArray.mk.injEq];exact Array.toList_inj.1 h
section
variable (code:List Int) (inp:ByteArray) (pc:Int) (f:Nat→Int) (m:AV) (rd:Int) (out outT:ByteArray) (st fin:Int) (own:Bool) (more:AV) (bs:List UInt8) (L T:List VObj) (s nx:Nat)
end
set_option maxRecDepth 10000
open Go.V
def startF (data:Int):S:=⟨0,fun _=>0,if 0<data∧data≤32768 then List.replicate data.toNat 0 else [],0,⟨#[]⟩,0,0⟩
theorem FrzNL.app {H:List VObj} {nx:Nat}:∀ {xs ys xs' ys':List AV},FrzNL H nx xs xs'→FrzNL H nx ys ys'→FrzNL H nx (xs++ys) (xs'++ys')
 | [],_,_,_,h1,h2=>by simp only[FrzNL]at h1;subst h1;exact h2
 | x::xs,ys,xs',ys',h1,h2=>by
  obtain ⟨y,ys2,rfl,h3,h4⟩:=h1
  exact ⟨y,_,rfl,h3,FrzNL.app h4 h2⟩
theorem stA_frzN {H:List VObj} {nx:Nat} {pc:Int} {f:Nat→Int} {m:AV} {mem:List Int} {rd:Int} {out:ByteArray} {st fin:Int} (h:FrzN H nx m (words mem)):FrzN H nx (.agg (stc pc f m rd out st fin)) (stA ⟨pc,f,mem,rd,out,st,fin⟩) :=
 FrzN.agg ⟨_,_,rfl,FrzN.val,FrzNL.app (FrzNL.vals (fun k=>Value.int .u32 (f k)) (List.range 16)) ⟨_,_,rfl,h,_,_,rfl,FrzN.val,_,_,rfl,FrzN.val,_,_,rfl,FrzN.val,_,_,rfl,FrzN.val,rfl⟩⟩
theorem refstart_c (code:List Int) (data:Int):Contract Try.prog 29 [imgA code data] (fun r=>r=stA (startF data)):=by
 refine ContractN.old (ContractN.of_call (VCall.of_body hmix f_scref09_Start (by simp) ?_))
 have z:¬ (0<data∧data≤32768)→startF data=⟨0,fun _=>0,[],0,⟨#[]⟩,0,0⟩:=fun h=>by unfold startF;rw[if_neg h]
 by_cases h1:0<data
 ·by_cases h2:data≤32768
  ·have e:startF data=⟨0,fun _=>0,List.replicate data.toNat 0,0,⟨#[]⟩,0,0⟩:=by unfold startF;rw[if_pos ⟨h1,h2⟩]
   simp only[go_sem,c_scref09_Start,eq_true h1,eq_true h2,s_zero,ss_mem,s_put,s_put',stc_length,stc_all,s_all]
   repeat (refine And.intro (by omega) ?_)
   rw[e,flat_rep]
   refine ⟨_,stA_frzN ?_,rfl⟩
   have hr:List.replicate data.toNat (AV.val (.int .u32 0))=(List.replicate data.toNat (0:Int)).map fun n=>AV.val (.int .u32 n):=by simp
   rw[hr]
   exact frzN_map (f:=fun n:Int=>Value.int .u32 n) rfl (by simp) (fun _=>rfl)
  ·rw[z (fun h=>h2 h.2)]
   simp only[go_sem,c_scref09_Start,eq_true h1,eq_false h2,s_zero,ss_mem,s_put,s_put',stc_length,stc_all,s_all]
   exact ⟨_,stA_frzN (FrzN.nil 1),rfl⟩
 ·rw[z (fun h=>h1 h.1)]
  simp only[go_sem,c_scref09_Start,eq_false h1,s_zero,ss_mem,s_put,s_put',stc_length,stc_all,s_all]
  exact ⟨_,stA_frzN (FrzN.nil 1),rfl⟩
theorem Frz.ptrM {n:Nat} {H:List VObj} {nx id s:Nat} {ob:VObj} {ys:List AV} (hid:n≤id) (ho:H[id]? = some ob) (hs:ob.s=s) (hz:ob.sz≠0) (h:FrzL n H nx ob.cs ys) :
 Frz n H nx (.ptr id s 0) (.ip (.agg ys)):=fun M hR hH hnx v r=>by
 subst hH
 simp only[RV]at r
 obtain ⟨hzz,g,hm,rfl⟩:=r.2.2 ob ho hs
 obtain ⟨vs,g1,g2,g3⟩:=hR.cells ho hzz hm 0 ob.cs.length (by omega)
 simp only[List.drop_zero,List.take_length]at g2
 have hrl:=h.rl hR rfl hnx g2
 simp only[RV0]
 refine ⟨g,_,.agg vs.toArray,rfl,⟨.inr ⟨(hR.lt hm).1,(hR.lt hm).2.1⟩,fun j hj e=>by have:=hR.inj j id g e hm;omega⟩,⟨vs,rfl,hrl⟩,fun j u hu=>?_⟩
 have:=g3 j u (by simpa [Value.cells] using hu)
 simpa using this
theorem Sle.agg {xs ys:List AV} (h:SleL xs ys):Sle (.agg xs) (.agg ys):=fun M hR v r=>by
 simp only[RV]at r
 obtain ⟨vs,h1,h2⟩:=r
 simp only[RV0]
 exact ⟨vs,h1,h.rl hR h2⟩
theorem wf_start (data:Int):Wf (startF data):=by
 refine ⟨fun k=>⟨by show (0:Int)≤0;omega,by show (0:Int)<_;omega⟩,fun x hx=>?_⟩
 unfold startF at hx
 simp only at hx
 split at hx
 ·rw[List.mem_replicate]at hx;rw[hx.2];exact ⟨by omega,by omega⟩
 ·cases hx
theorem start_len (data:Int):(startF data).mem.length≤32768:=by
 unfold startF
 simp only
 split
 ·simp;omega
 ·simp
set_option maxRecDepth 10000
open Go.V
def runN (code:List Int) (inp:ByteArray) (s:S):Nat→S
 | 0=>s
 | k+1=>stepF code inp (runN code inp s k)
theorem stepF_stays {code:List Int} {inp:ByteArray} {s:S} (h:s.fin≠0):stepF code inp s=s:=if_neg h
theorem runN_stays {code:List Int} {inp:ByteArray} {s:S} {k:Nat} (h:(runN code inp s k).fin≠0):∀ d,runN code inp s (k+d)=runN code inp s k
 | 0=>rfl
 | d+1=>by
  show stepF code inp (runN code inp s (k+d))=_
  rw[runN_stays h d,stepF_stays h]
theorem runN_add (code:List Int) (inp:ByteArray) (s:S) (a:Nat):∀ b,runN code inp s (a+b)=runN code inp (runN code inp s a) b
 | 0=>rfl
 | b+1=>by show stepF code inp (runN code inp s (a+b))=_;rw[runN_add code inp s a b];rfl
theorem runN_wf {code:List Int} {inp:ByteArray} {s:S} (hcode:∀ x ∈ code,In32 x) (h:Wf s):∀ k,Wf (runN code inp s k)∧(runN code inp s k).mem.length=s.mem.length∧(runN code inp s k).out.size≤s.out.size+k
 | 0=>⟨h,rfl,Nat.le_refl _⟩
 | k+1=>by
  obtain ⟨h1,h2,h3⟩:=runN_wf hcode h k
  obtain ⟨g1,g2,g3,g4⟩:=stepF_wf code inp (runN code inp s k) hcode h1
  refine ⟨g1,g2.trans h2,?_⟩
  show (stepF code inp (runN code inp s k)).out.size≤_
  simp only at g4;omega
theorem MemAt.len {L L' T:List VObj} {m:AV} {own:Bool} {mem:List Int} (h:MemAt L T m own mem) (e:L.length=L'.length):MemAt L' T m own mem:=by
 unfold MemAt at h ⊢;rw[← e];exact h
theorem MoreAt.len {L L' T:List VObj} {m:AV} {bs:List UInt8} (h:MoreAt L T m bs) (e:L.length=L'.length):MoreAt L' T m bs:=by
 unfold MoreAt at h ⊢;rw[← e];exact h
section
variable (code:List Int) (inp:ByteArray) (pc:Int) (f:Nat→Int) (m:AV) (mem:List Int) (rd:Int) (out outT:ByteArray) (st fin:Int) (own:Bool) (more:AV) (bs:List UInt8) (L T:List VObj) (s nx:Nat)
end
structure CdOk (code:List Ci):Prop where
 ok:∀ i ∈ code,okI i.op i.a i.b i.c=true∧i.op≠27
 len:code.length≤1000000
abbrev wrds (code:List Ci):List Int:=code.map fun i=>encI i.op i.a i.b i.c
theorem enc_dec {op a b c:Int} (h:okI op a b c=true):opW (encI op a b c)=op∧raW (encI op a b c)=a∧rbW (encI op a b c)=b∧kW (encI op a b c)=c∧In32 (encI op a b c):=by
 have hb:=okI_in h
 unfold opW raW rbW kW encI In32
 refine ⟨by omega,by omega,by omega,by omega,by omega,by omega⟩
theorem enc_ok {op a b c:Int} (h:okI op a b c=true):okW (encI op a b c)=true:=by
 obtain ⟨h1,h2,h3,h4,_⟩:=enc_dec h
 unfold okW;rw[h1,h2,h3,h4];exact h
theorem wrds_in {code:List Ci} (h:CdOk code):∀ x ∈ wrds code,In32 x:=fun x hx=>by
 obtain ⟨i,hi,rfl⟩:=List.mem_map.1 hx
 exact (enc_dec (h.ok i hi).1).2.2.2.2
structure RSM (s:Mc) (t:S) (n:Nat):Prop where
 pc:t.pc=s.pc
 rg:t.reg=s.rg
 me:t.mem=s.me
 rd:t.rd=(s.rd:Int)
 out:t.out.data.toList=s.out
 st:t.st=(n:Int)
 fin:t.fin=0
theorem updR_upM (f:Nat→Int) (j:Nat) (v:Int):updR f j v=upM f j v:=rfl
theorem size_out {s:Mc} {t:S} {n:Nat} (h:RSM s t n):t.out.size=s.out.length:=by rw[← h.out];rfl
theorem push_toList (a:ByteArray) (b:UInt8):(a.push b).data.toList=a.data.toList++[b]:=by
 cases a;simp[ByteArray.push]
theorem ins_same {inp:ByteArray} {w:List Int} {s:Mc} {t:S} {n m:Nat} (h:RSM s t n) (i:Ci) (h27:i.op≠27) (hp:0≤s.pc) (hp2:s.pc≤1000000) (hrd:s.rd≤2000000000) :
 (insM w inp { t with st:=m } i.op i.a i.b i.c).1=(mI inp s i).2∧((mI inp s i).2=0→RSM (mI inp s i).1 (insM w inp { t with st:=m } i.op i.a i.b i.c).2 m)∧(insM w inp { t with st:=m } i.op i.a i.b i.c).2.out.data.toList=(mI inp s i).1.out∧(insM w inp { t with st:=m } i.op i.a i.b i.c).2.st=m:=by
 obtain ⟨pc,rg,me,rd,out,st,fin⟩:=t
 obtain ⟨spc,srg,sme,srd,sout⟩:=s
 have hsz:=size_out h
 obtain ⟨h1,h2,h3,h4,h5,h6,h7⟩:=h
 simp only at h1 h2 h3 h4 h5 h6 h7 hp hp2 hrd hsz
 subst h1;subst h2;subst h3;subst h7
 have wp:IntKind.i64.wrap (pc+1)=pc+1:=i64_in (by omega) (by omega)
 have wp2:w32 (pc+1)=pc+1:=w32_in ⟨by omega,by omega⟩
 obtain ⟨op,a,b,c⟩:=i
 simp only at h27
 unfold insM mI
 simp only[nxtM,setR,atW,wp,wp2,stM,adM,updR_upM]
 by_cases e:op=18
 ·simp only[e,if_true];exact ⟨by trivial,fun _=>⟨rfl,rfl,rfl,h4,h5,rfl,rfl⟩,h5,by trivial⟩
 rw[if_neg e,if_neg e];clear e
 by_cases e:op=19
 ·simp only[e,if_true];exact ⟨by trivial,fun _=>⟨rfl,rfl,rfl,h4,h5,rfl,rfl⟩,h5,by trivial⟩
 rw[if_neg e,if_neg e];clear e
 by_cases e:op=20
 ·simp only[e,if_true];exact ⟨by trivial,fun _=>⟨rfl,rfl,rfl,h4,h5,rfl,rfl⟩,h5,by trivial⟩
 rw[if_neg e,if_neg e];clear e
 by_cases e:op=21
 ·simp only[e,if_true];exact ⟨by trivial,fun _=>⟨rfl,rfl,rfl,h4,h5,rfl,rfl⟩,h5,by trivial⟩
 rw[if_neg e,if_neg e];clear e
 by_cases e:op=22
 ·simp only[e,if_true];exact ⟨by trivial,fun _=>⟨rfl,rfl,rfl,h4,h5,rfl,rfl⟩,h5,by trivial⟩
 rw[if_neg e,if_neg e];clear e
 by_cases e:op=1
 ·simp only[e,if_true];exact ⟨by trivial,fun _=>⟨rfl,rfl,rfl,h4,h5,rfl,rfl⟩,h5,by trivial⟩
 rw[if_neg e,if_neg e];clear e
 by_cases e:op=2
 ·simp only[e,if_true];exact ⟨by trivial,fun _=>⟨rfl,rfl,rfl,h4,h5,rfl,rfl⟩,h5,by trivial⟩
 rw[if_neg e,if_neg e];clear e
 by_cases e:op=3
 ·simp only[e,if_true];exact ⟨by trivial,fun _=>⟨rfl,rfl,rfl,h4,h5,rfl,rfl⟩,h5,by trivial⟩
 rw[if_neg e,if_neg e];clear e
 by_cases e:op=16
 ·simp only[e,if_true]
  by_cases q:w32 (rg b.toNat+c)<me.length
  ·simp only[eq_true q,if_true];exact ⟨by trivial,fun _=>⟨rfl,rfl,rfl,h4,h5,rfl,rfl⟩,h5,by trivial⟩
  ·simp only[eq_false q,if_false];exact ⟨by trivial,fun h=>absurd h (by decide),h5,by trivial⟩
 rw[if_neg e,if_neg e];clear e
 by_cases e:op=17
 ·simp only[e,if_true]
  by_cases q:w32 (rg b.toNat+c)<me.length
  ·simp only[eq_true q,if_true];exact ⟨by trivial,fun _=>⟨rfl,rfl,rfl,h4,h5,rfl,rfl⟩,h5,by trivial⟩
  ·simp only[eq_false q,if_false];exact ⟨by trivial,fun h=>absurd h (by decide),h5,by trivial⟩
 rw[if_neg e,if_neg e];clear e
 rw[if_neg h27]
 by_cases e:op=23
 ·simp only[e,if_true]
  by_cases q:srd<inp.size
  ·have q':¬ (rd<0∨(inp.size:Int)≤rd):=by omega
   have wr:IntKind.i64.wrap (rd+1)=rd+1:=i64_in (by omega) (by omega)
   simp only[eq_true q,eq_false q',if_true,if_false,wr]
   rw[show rd.toNat=srd by omega]
   exact ⟨by trivial,fun _=>⟨rfl,rfl,rfl,by simp only;omega,h5,rfl,rfl⟩,h5,by trivial⟩
  ·have q':(rd<0∨(inp.size:Int)≤rd):=by omega
   simp only[eq_false q,eq_true q',if_true,if_false];exact ⟨by trivial,fun _=>⟨rfl,rfl,rfl,h4,h5,rfl,rfl⟩,h5,by trivial⟩
 rw[if_neg e,if_neg e];clear e
 by_cases e:op=24
 ·simp only[e,if_true,hsz]
  by_cases q:65536≤sout.length
  ·simp only[eq_true q,if_true];exact ⟨by trivial,fun h=>absurd h (by decide),h5,by trivial⟩
  ·simp only[eq_false q,if_false]
   exact ⟨by trivial,fun _=>⟨rfl,rfl,rfl,h4,by simp only;rw[push_toList,h5];rfl,rfl,rfl⟩,by rw[push_toList,h5];rfl,trivial⟩
 rw[if_neg e,if_neg e];clear e
 by_cases e:op=25
 ·simp only[e,if_true]
  by_cases q:rg a.toNat<c
  ·simp only[eq_true q,if_true];exact ⟨by trivial,fun _=>⟨rfl,rfl,rfl,h4,h5,rfl,rfl⟩,h5,by trivial⟩
  ·simp only[eq_false q,if_false];exact ⟨by trivial,fun h=>absurd h (by decide),h5,by trivial⟩
 rw[if_neg e,if_neg e];clear e
 by_cases e:op=26
 ·simp only[e,if_true];exact ⟨by trivial,fun h=>absurd h (by decide),h5,by trivial⟩
 rw[if_neg e,if_neg e];clear e
 by_cases q:(applyW op (rg b.toNat) (rg c.toNat)).2=0
 ·simp only[eq_true q,if_true];exact ⟨by trivial,fun _=>⟨rfl,rfl,rfl,h4,h5,rfl,rfl⟩,h5,by trivial⟩
 ·simp only[eq_false q,if_false];exact ⟨by trivial,fun h=>absurd h (by decide),h5,by trivial⟩
section
variable {code:List Ci} {inp:ByteArray}
theorem step_same (hc:CdOk code) {s:Mc} {t:S} {n:Nat} (h:RSM s t n) (hp:0≤s.pc) (hp2:s.pc<code.length) (hrd:s.rd≤2000000000) (hn:n≤4000000000000000000) :
 ((mI inp s (code.getD s.pc.toNat default)).2=0→RSM (mI inp s (code.getD s.pc.toNat default)).1 (stepF (wrds code) inp t) (n+1)) ∧
 ((mI inp s (code.getD s.pc.toNat default)).2≠0→(stepF (wrds code) inp t).fin=(mI inp s (code.getD s.pc.toNat default)).2∧(stepF (wrds code) inp t).out.data.toList=(mI inp s (code.getD s.pc.toNat default)).1.out∧(stepF (wrds code) inp t).st=((n+1:Nat):Int)):=by
 have hlt:s.pc.toNat<code.length:=by omega
 have hg:code.getD s.pc.toNat default=code[s.pc.toNat]:=by simp[List.getD,hlt]
 have hm:code.getD s.pc.toNat default ∈ code:=by rw[hg];exact List.getElem_mem hlt
 obtain ⟨ho,h27⟩:=hc.ok _ hm
 have hw:(wrds code).getD s.pc.toNat default=encI (code.getD s.pc.toNat default).op (code.getD s.pc.toNat default).a (code.getD s.pc.toNat default).b (code.getD s.pc.toNat default).c:=by
  rw[hg,List.getD,List.getElem?_map,List.getElem?_eq_getElem hlt];rfl
 obtain ⟨d1,d2,d3,d4,d5⟩:=enc_dec ho
 have hok:=enc_ok ho
 have hst:IntKind.i64.wrap (t.st+1)=((n+1:Nat):Int):=by rw[h.st,i64_in (by omega) (by omega)];omega
 have hl:=hc.len
 obtain ⟨k1,k2,k3,k4⟩:=ins_same (inp:=inp) (w:=wrds code) (m:=n+1) h (code.getD s.pc.toNat default) h27 hp (by omega) hrd
 have hs:stepF (wrds code) inp t=(if (insM (wrds code) inp { t with st:=((n+1:Nat):Int) } (code.getD s.pc.toNat default).op (code.getD s.pc.toNat default).a (code.getD s.pc.toNat default).b (code.getD s.pc.toNat default).c).1=0 then (insM (wrds code) inp { t with st:=((n+1:Nat):Int) } (code.getD s.pc.toNat default).op (code.getD s.pc.toNat default).a (code.getD s.pc.toNat default).b (code.getD s.pc.toNat default).c).2
  else { (insM (wrds code) inp { t with st:=((n+1:Nat):Int) } (code.getD s.pc.toNat default).op (code.getD s.pc.toNat default).a (code.getD s.pc.toNat default).b (code.getD s.pc.toNat default).c).2 with fin:=(insM (wrds code) inp { t with st:=((n+1:Nat):Int) } (code.getD s.pc.toNat default).op (code.getD s.pc.toNat default).a (code.getD s.pc.toNat default).b (code.getD s.pc.toNat default).c).1 }):=by
  unfold stepF
  rw[if_pos h.fin,h.pc,if_neg (by rw[List.length_map];omega),hst,hw]
  unfold wordF
  rw[if_pos hok,d1,d2,d3,d4]
 rw[hs]
 refine ⟨fun e=>?_,fun e=>?_⟩
 ·rw[if_pos (k1.trans e)];exact k2 e
 ·rw[if_neg (by rw[k1];exact e)];exact ⟨k1,k3,k4⟩
theorem iteQ {α:Type} {p:Prop} [Decidable p] {P:α→Prop} {a b:α} (h1:p→P a) (h2:¬ p→P b):P (if p then a else b):=by
 by_cases h:p
 ·rw[if_pos h];exact h1 h
 ·rw[if_neg h];exact h2 h
theorem mI_rd (s:Mc) (i:Ci) (h:s.rd≤inp.size):(mI inp s i).1.rd≤inp.size:=by
 let Q:Mc × Int→Prop:=fun p=>p.1.rd≤inp.size
 show Q (mI inp s i)
 unfold mI
 iterate 8 (refine iteQ (P:=Q) (fun _=>h) fun _=>?_)
 iterate 2 (refine iteQ (P:=Q) (fun _=>iteQ (P:=Q) (fun _=>h) fun _=>h) fun _=>?_)
 refine iteQ (P:=Q) (fun _=>iteQ (P:=Q) (fun q=>q) fun _=>h) fun _=>?_
 iterate 2 (refine iteQ (P:=Q) (fun _=>iteQ (P:=Q) (fun _=>h) fun _=>h) fun _=>?_)
 refine iteQ (P:=Q) (fun _=>h) fun _=>?_
 exact iteQ (P:=Q) (fun _=>h) fun _=>h
theorem run_same (hc:CdOk code) (hi:inp.size≤1000000000):∀ {k n:Nat} {s s':Mc} {t:S},Mx code inp k s s'→RSM s t n→s.rd≤inp.size→n+k≤4000000000000000000 →
 RSM s' (runN (wrds code) inp t k) (n+k)∧s'.rd≤inp.size
 | 0,n,s,s',t,h,hr,hd,_=>by cases h;exact ⟨hr,hd⟩
 | k+1,n,s,s',t,h,hr,hd,hn=>by
  obtain ⟨h1,h2,h3,h4⟩:=h
  have hst:=(step_same hc hr h1 h2 (by omega) (by omega)).1 h3
  have:=run_same hc hi h4 hst (mI_rd _ _ hd) (by omega)
  rw[show n+1+k=n+(k+1) by omega]at this
  rw[show k+1=1+k by omega,runN_add]
  rw[show n+(1+k)=n+(k+1) by omega]
  exact this
theorem end_same (hc:CdOk code) (hi:inp.size≤1000000000) {k:Nat} {s s':Mc} {t:S} {e:Int} (h:Mn code inp k s e s') (hr:RSM s t 0) (hd:s.rd≤inp.size) (hk:k≤4000000000000000000) {F:Nat} (hF:k<F) :
 (runN (wrds code) inp t F).fin=e∧(runN (wrds code) inp t F).out.data.toList=s'.out∧(runN (wrds code) inp t F).st=((k+1:Nat):Int):=by
 obtain ⟨s1,h1,h2,h3,h4,h5⟩:=h
 obtain ⟨g1,g2⟩:=run_same hc hi h1 hr hd (by omega)
 rw[Nat.zero_add]at g1
 have:=(step_same (inp:=inp) hc g1 h2 h3 (by omega) (by omega)).2 (by rw[h4];exact h5)
 rw[h4]at this
 obtain ⟨q1,q2,q3⟩:=this
 have hs:runN (wrds code) inp t (k+1)=stepF (wrds code) inp (runN (wrds code) inp t k):=rfl
 rw[show F=k+1+(F-(k+1)) by omega,runN_stays (by rw[hs,q1];exact h5),hs]
 exact ⟨q1,q2,q3⟩
end
def mc0 (data:Int):Mc:=⟨0,fun _=>0,List.replicate data.toNat 0,0,[]⟩
theorem rs0 {data:Int} (h:data≤32768):RSM (mc0 data) (startF data) 0:=by
 refine ⟨rfl,rfl,?_,rfl,rfl,rfl,rfl⟩
 unfold startF mc0
 by_cases h0:0<data
 ·simp only[if_pos (show 0<data∧data≤32768 from ⟨h0,h⟩)]
 ·simp only[if_neg (show ¬ (0<data∧data≤32768) from fun h=>h0 h.1)]
  rw[show data.toNat=0 by omega];rfl
section
variable {s:SP} {σ:SM} {m:Mc} {inp:ByteArray}
theorem sim_step (hP:SimP s) (hI:InvS s (depS s) σ) (hw:WfS σ) (h:Rk s σ m) (h0:σ.fin=0) (ho:σ.out.length<65536) :
 ((stepS s inp σ).fin=0→GoesK s inp σ m)∧((stepS s inp σ).fin≠0→EndsK s inp σ m):=by
 have hI':=inv_step (inp:=inp) hP.r hP.dep hI h0
 have hg:=(inv_good hP.r hP.dep hI).ok
 have hfit:=(hP.r.fn _ hI.top.f).fits _ hI.top.k
 have go:(stepS s inp σ).fin=0→((InvS s (depS s) (stepS s inp σ))→GoesK s inp σ m)→((stepS s inp σ).fin=0→GoesK s inp σ m)∧((stepS s inp σ).fin≠0→EndsK s inp σ m):=fun a b=>⟨fun _=>b (hI' a),fun hf=>absurd a hf⟩
 have fin:∀ {k:Int},(s.ins σ.top.f σ.top.at_).op=k→(stepI s inp (s.ins σ.top.f σ.top.at_) σ.next).fin=0→(stepS s inp σ).fin=0:=fun e h=>by rw[stepS_eq h0];exact h
 have hf0:σ.next.fin=0:=h0
 obtain ⟨f1,f2,f3⟩:=hfit
 have hg2:=hg
 unfold OkI at hg
 rcases hg with e | ⟨e,ha,hb⟩ | ⟨e,ha,hb,hl⟩ | ⟨e,ha,hb,hab,hl⟩ | ⟨e,ha,hb,hab,hl⟩ | ⟨e,hl⟩ | ⟨e,hl⟩ | ⟨e,ha⟩ | ⟨e,ha,hl⟩ | ⟨e,ha,hb,hc⟩ | ⟨e,hl⟩ | e | ⟨e,hl⟩
 ·exact go (fin e (by simp only[stepI,e,Int.reduceEq,if_true,if_false,SM.setL];exact h0)) fun k=>op_push hP hI h h0 k e
 ·exact go (fin e (by simp only[stepI,e,Int.reduceEq,if_true,if_false,SM.setL];exact h0)) fun k=>op_load hP hI h h0 k e ⟨ha,hb⟩
 ·exact go (fin e (by simp only[stepI,e,Int.reduceEq,if_true,if_false,SM.setL];exact h0)) fun k=>op_store hP hI h h0 e ⟨ha,hb⟩ hl
 ·exact op_aload hP hI hw h h0 hI' e ⟨ha,hb,hab⟩ hl
 ·exact op_astore hP hI hw h h0 e ⟨ha,hb,hab⟩ hl
 ·exact op_op hP hI h h0 hI' e (by omega) hl
 ·exact go (fin e (by simp only[stepI,e,Int.reduceEq,if_true,if_false,SM.setL];exact h0)) fun k=>op_not hP hI h h0 k e hl
 ·exact go (fin e (by simp only[stepI,e,Int.reduceEq,if_true,if_false,SM.jump];exact h0)) fun k=>op_jump hP hI h h0 e (by omega)
 ·refine go (fin e ?_) fun k=>op_zero hP hI h h0 e (by omega) hl
  simp only[stepI,e,Int.reduceEq,if_true,if_false,SM.jump,SM.setL]
  split<;>exact h0
 ·exact go (fin e (by simp only[stepI,e,Int.reduceEq,if_true,if_false,SM.call];exact h0)) fun k=>op_call hP hI h h0 e (by omega) hc
 ·exact op_ret hP hI h h0 hI' e hl
 ·refine go (fin e ?_) fun k=>op_get hP hI h h0 k e
  simp only[stepI,e,Int.reduceEq,if_true,if_false,SM.setL]
  split<;>exact h0
 ·exact go (fin e (by simp only[stepI,e,Int.reduceEq,if_true,if_false,SM.setL];exact h0)) fun k=>op_put hP hI h h0 ho e hl
theorem inv_start (hP:SimP s):InvS s (depS s) (startS s):=by
 have hn0:=hP.r.n0
 have hl:s.funcs.length-1<s.funcs.length:=by omega
 have hs:=hP.dep _ hl
 refine ⟨by simp[startS],⟨hl,?_,?_⟩,hP.r.lw⟩
 ·show 0<(s.fn (s.funcs.length-1)).code.length
  cases hcd:(s.fn (s.funcs.length-1)).code with
  | nil=>exact absurd hcd hs.ne
  | cons a l=>simp
 ·show (depS s (s.funcs.length-1)).getD 0 (-1)=_
  rw[hs.zero];rfl
theorem rk_start (hP:SimP s) (inp:ByteArray):∃ m,Mx (fixE s) inp 1 (mc0 (dataE s)) m∧Rk s (startS s) m:=by
 have hn0:=hP.r.n0
 have hw0:=hP.r.w0
 have hd:=hP.dat
 have hwd:=words_le (s:=s) s.funcs.length
 have hde:dataE s=datE s s.funcs.length:=rfl
 have hat:=at_one hn0
 refine ⟨_,Mx.one hat rfl (mI_li inp _ 15 0 1),⟨rfl,rfl,?_,?_,fun a ha=>?_,rfl,rfl,trivial,?_⟩⟩
 ·show (0:Int)+1=((adr s (s.funcs.length-1) 0:Nat):Int)
  rw[adr_zero,ent_last hn0]
  unfold headE
  rw[if_pos (show (exE s (s.funcs.length-1)).last by unfold Ex.last exE;simp only;omega)];rfl
 ·show ((List.replicate (dataE s).toNat (0:Int)).length:Int)=_
  rw[List.length_replicate];omega
 ·show (List.replicate (dataE s).toNat (0:Int)).getD a default=(List.replicate s.words.toNat (0:Int)).getD a default
  rw[List.getD,List.getD,List.getElem?_replicate,List.getElem?_replicate,if_pos (by omega),if_pos ha]
 ·show s.funcs.length-1+1=s.funcs.length
  omega
theorem sim_run (hP:SimP s) (inp:ByteArray):∀ k:Nat,k≤60000 →
 ((runS s inp (startS s) k).fin=0→InvS s (depS s) (runS s inp (startS s) k)∧WfS (runS s inp (startS s) k)∧(runS s inp (startS s) k).out.length≤k∧(runS s inp (startS s) k).steps=k∧∃ (n:Nat) (m:Mc),(n:Int)≤1+k*(64+8*s.words)∧Mx (fixE s) inp n (mc0 (dataE s)) m∧Rk s (runS s inp (startS s) k) m) ∧
 ((runS s inp (startS s) k).fin≠0→∃ (n:Nat) (m:Mc),(n:Int)+1≤((runS s inp (startS s) k).steps+1)*(64+8*s.words)∧(runS s inp (startS s) k).steps≤k∧Mn (fixE s) inp n (mc0 (dataE s)) (runS s inp (startS s) k).fin m∧m.out=(runS s inp (startS s) k).out)
 | 0,_=>by
  refine ⟨fun _=>?_,fun h=>absurd rfl h⟩
  obtain ⟨m,h1,h2⟩:=rk_start hP inp
  exact ⟨inv_start hP,startS_wf s,Nat.le_refl _,rfl,1,m,by omega,h1,h2⟩
 | k+1,hk=>by
  obtain ⟨g1,g2⟩:=sim_run hP inp k (by omega)
  have hw0:=hP.r.w0
  have hS:runS s inp (startS s) (k+1)=stepS s inp (runS s inp (startS s) k):=rfl
  rw[hS]
  by_cases h0:(runS s inp (startS s) k).fin=0
  ·obtain ⟨hI,hw,ho,hst,n,m,hn,hx,hr⟩:=g1 h0
   have hgood:=inv_good hP.r hP.dep hI
   obtain ⟨w1,w2,w3,w4⟩:=stepS_wf (inp:=inp) hP.wf hw hgood
   obtain ⟨s1,s2⟩:=sim_step (inp:=inp) hP hI hw hr h0 (by omega)
   have hstep:(stepS s inp (runS s inp (startS s) k)).steps=k+1:=by
    rw[stepS_eq h0,(stepI_wf (inp:=inp) (ins_wf hP.wf hgood.f hgood.k) (show WfS (runS s inp (startS s) k).next from ⟨hw.mem,hw.top,hw.below⟩) hgood.ok).2.2.1]
    show (runS s inp (startS s) k).steps+1=k+1
    rw[hst]
   refine ⟨fun h1=>?_,fun h1=>?_⟩
   ·obtain ⟨n2,m2,q1,q2,q3⟩:=s1 h1
    refine ⟨inv_step hP.r hP.dep hI h0 h1,w1,by omega,hstep,n+n2,m2,?_,hx.trans q2,q3⟩
    have:((k+1:Nat):Int)*(64+8*s.words)=k*(64+8*s.words)+(64+8*s.words):=by
     rw[Int.natCast_add,Int.add_mul];simp
    omega
   ·obtain ⟨n2,m2,q1,q2,q3⟩:=s2 h1
    refine ⟨n+n2,m2,?_,by omega,hx.end_ q2,q3⟩
    rw[hstep]
    have:(((k+1:Nat):Int)+1)*(64+8*s.words)=k*(64+8*s.words)+(64+8*s.words)+(64+8*s.words):=by
     rw[Int.natCast_add,Int.add_mul,Int.add_mul];simp
    omega
  ·have:stepS s inp (runS s inp (startS s) k)=runS s inp (startS s) k:=by unfold stepS;rw[if_neg h0]
   rw[this]
   refine ⟨fun h=>absurd h h0,fun _=>?_⟩
   obtain ⟨n,m,q1,q2,q3⟩:=g2 h0
   exact ⟨n,m,q1,by omega,q3⟩
theorem sim_end (hP:SimP s) (hc:CdOk (fixE s)) (hi:inp.size≤1000000000) {k:Nat} (hk:k≤60000) (hfin:(runS s inp (startS s) k).fin≠0) {F:Nat} (hF:((runS s inp (startS s) k).steps+1)*(64+8*s.words)≤F) :
 (runN (wrds (fixE s)) inp (startF (dataE s)) F).fin=(runS s inp (startS s) k).fin∧(runN (wrds (fixE s)) inp (startF (dataE s)) F).out.data.toList=(runS s inp (startS s) k).out:=by
 have hw0:=hP.r.w0
 have hw1:=hP.r.w1
 obtain ⟨n,m,h1,hs,h2,h3⟩:=(sim_run hP inp k hk).2 hfin
 have hb:(((runS s inp (startS s) k).steps:Int)+1)*(64+8*s.words)≤60001*300000:=Int.mul_le_mul (by omega) (by omega) (by omega) (by omega)
 obtain ⟨e1,e2,_⟩:=end_same hc hi h2 (rs0 hP.dat) (Nat.zero_le _) (by omega) (F:=F) (by omega)
 exact ⟨e1,e2.trans h3⟩
end
end Go.Proofs.Ytaedcpipilnpcaa
namespace Go.V
set_option linter.unusedSimpArgs false
set_option linter.unusedVariables false
theorem flat_getR {α:Type} {z:Nat}:∀ {ls:List (List α)},(∀ l ∈ ls,l.length=z)→∀ {i j:Nat} {l:List α} {u:α},ls[i]? = some l→l[j]? = some u→ls.flatten[i*z+j]? = some u
 | [],_,i,j,l,u,h,_=>by simp at h
 | a::ls,hz,i,j,l,u,h,hu=>by
  have ha:=hz a (by simp)
  cases i with
  | zero =>
   simp at h;subst h
   rw[List.flatten_cons,Nat.zero_mul,Nat.zero_add,List.getElem?_append_left (List.getElem?_eq_some_iff.1 hu).1];exact hu
  | succ i =>
   simp only[List.getElem?_cons_succ]at h
   rw[List.flatten_cons,List.getElem?_append_right (by rw[ha,Nat.succ_mul];omega),ha,show (i+1)*z+j-z=i*z+j by rw[Nat.succ_mul];omega]
   exact flat_getR (fun l hl=>hz l (by simp[hl])) h hu
theorem RL.splitR {M:MM}:∀ {xs ys:List AV} {vs:List Value},RL M (xs++ys) vs→∃ v1 v2,vs=v1++v2∧RL M xs v1∧RL M ys v2
 | [],ys,vs,h=>⟨[],vs,rfl,by simp only[RL],h⟩
 | x::xs,ys,vs,h=>by
  simp only[List.cons_append,RL]at h
  obtain ⟨v,vs',rfl,h1,h2⟩:=h
  obtain ⟨v1,v2,rfl,h3,h4⟩:=RL.splitR h2
  exact ⟨v::v1,v2,rfl,by simp only[RL];exact ⟨v,v1,rfl,h1,h3⟩,h4⟩
theorem RL.chunksR {M:MM}:∀ {yss:List (List AV)} {vs:List Value},RL M yss.flatten vs→∃ vss:List (List Value),vs=vss.flatten∧vss.length=yss.length∧∀ (i:Nat) (l:List AV) (v:List Value),yss[i]? = some l→vss[i]? = some v→RL M l v
 | [],vs,h=>by
  simp only[List.flatten_nil,RL]at h
  exact ⟨[],h,rfl,fun i l v h=>by simp at h⟩
 | y::yss,vs,h=>by
  rw[List.flatten_cons]at h
  obtain ⟨v1,v2,rfl,h1,h2⟩:=RL.splitR h
  obtain ⟨vss,rfl,h3,h4⟩:=RL.chunksR h2
  refine ⟨v1::vss,by simp,by simp[h3],fun i l v hl hv=>?_⟩
  cases i with
  | zero=>simp at hl hv;subst hl;subst hv;exact h1
  | succ i=>exact h4 i l v (by simpa using hl) (by simpa using hv)
theorem rl0_aggs {M:MM} {n:Nat} (hR:RH M):∀ {yss:List (List AV)} {vss:List (List Value)},vss.length=yss.length→(∀ (i:Nat) (l:List AV) (v:List Value),yss[i]? = some l→vss[i]? = some v→RL M l v)→(∀ l ∈ yss,l.all AV.pure=true) →
 RL0 M.w (Drop M n) (yss.map .agg) (vss.map fun l=>Value.agg l.toArray)
 | [],[],_,_,_=>by simp only[List.map_nil,RL0]
 | [],v::vs,h,_,_=>by simp at h
 | y::ys,[],h,_,_=>by simp at h
 | y::ys,v::vs,h,h1,h2=>by
  simp only[List.map_cons,RL0]
  refine ⟨_,_,rfl,?_,rl0_aggs hR (by simpa using h) (fun i l v hl hv=>h1 (i+1) l v (by simpa using hl) (by simpa using hv)) (fun l hl=>h2 l (by simp[hl]))⟩
  simp only[RV0]
  exact ⟨v,rfl,(FrzL.pure (n:=n) (h2 y (by simp))).rl hR rfl rfl (h1 0 y v (by simp) (by simp))⟩
theorem flatz_lenR {α:Type} {z:Nat}:∀ {ls:List (List α)},(∀ l ∈ ls,l.length=z)→ls.flatten.length=ls.length*z
 | [],_=>by simp
 | y::ys,h=>by rw[List.flatten_cons,List.length_append,flatz_lenR (fun l hl=>h l (by simp[hl])),h y (by simp),List.length_cons,Nat.succ_mul];omega
theorem Frz.refS {n:Nat} {H:List VObj} {nx id s len z:Nat} {ob:VObj} {yss:List (List AV)} (hid:n≤id) (ho:H[id]? = some ob) (hs:ob.s=s) (hz:ob.sz=z) (hcs:ob.cs=yss.flatten)
 (hy:∀ l ∈ yss,l.length=z∧l.all AV.pure=true) (hlen:len=yss.length):Frz n H nx (.ref id s 0 len) (.imm z (yss.map .agg)):=fun M hR hH hnx v r=>by
 subst hH;subst hlen
 simp only[RV]at r
 obtain ⟨hzz,r⟩:=r.2.2 ob ho hs
 have hfl:yss.flatten.length=yss.length*z:=flatz_lenR fun l hl=>(hy l hl).1
 cases hm:M.m.getD id none with
 | none =>
  rw[hm]at r
  obtain ⟨rfl,h1,h2⟩:=r
  have:yss=[]:=List.length_eq_zero_iff.1 (by omega)
  subst this
  simp only[List.map_nil,RV0,RL0]
  exact ⟨none,0,0,[],rfl,rfl,Nat.le_refl _,by simp[maxLen],rfl,by simp,.inl rfl⟩
 | some g =>
  rw[hm]at r
  obtain ⟨oo,cap,rfl,q2,q3,q4,q5,q6⟩:=r
  obtain ⟨vs,g1,g2,g3⟩:=hR.cells ho hzz hm 0 (yss.length*z) (by rw[hcs,hfl];omega)
  rw[List.drop_zero,hcs,List.take_of_length_le (by omega)]at g2
  obtain ⟨vss,rfl,h3,h4⟩:=RL.chunksR g2
  have hlv:∀ i v,vss[i]? = some v→∃ l,yss[i]? = some l∧RL M l v∧v.length=z:=fun i v hv=>by
   have hi:i<yss.length:=by have:=(List.getElem?_eq_some_iff.1 hv).1;omega
   have hl:=List.getElem?_eq_getElem hi
   have:=h4 i _ v hl hv
   exact ⟨_,hl,this,by rw[this.length];exact (hy _ (List.getElem_mem hi)).1⟩
  have hmem:∀ v ∈ vss,v.length=z:=fun v hv=>by
   obtain ⟨i,hi⟩:=List.getElem?_of_mem hv
   obtain ⟨_,_,_,e⟩:=hlv i v hi
   exact e
  simp only[RV0]
  refine ⟨_,yss.length,cap,vss.map fun l=>Value.agg l.toArray,rfl,by simp,q2,q3,?_,fun u hu=>?_,?_⟩
  ·exact rl0_aggs hR h3 h4 fun l hl=>(hy l hl).2
  ·obtain ⟨l,hl,rfl⟩:=List.mem_map.1 hu
   simp[Value.cells,hmem l hl]
  ·by_cases hl:yss.length=0
   ·exact .inl hl
   ·refine .inr ⟨g,oo,rfl,⟨.inr ⟨(hR.lt hm).1,(hR.lt hm).2.1⟩,fun j hj e=>by have:=hR.inj j id g e hm;omega⟩,fun i u hu j x hx=>?_⟩
    have hoo:oo=M.o id+0:=by rcases q5 with q5 | q5<;>omega
    rw[List.getElem?_map]at hu
    cases hv:vss[i]? with
    | none=>rw[hv]at hu;cases hu
    | some l =>
     rw[hv]at hu
     simp only[Option.map_some,Option.some.injEq]at hu
     subst hu
     have hx':l[j]? = some x:=by simpa [Value.cells] using hx
     have:=g3 _ _ (flat_getR hmem hv hx')
     rw[hoo,Nat.add_assoc];exact this
end Go.V
namespace Go.Proofs.Ytaedcpipilnpcaa
set_option linter.unusedSimpArgs false
set_option linter.unusedVariables false
set_option maxRecDepth 10000
open Go.V
set_option maxRecDepth 10000
open Go.V
theorem set_of_getR {α:Type} {l:List α} {i:Nat} {x:α} (h:l[i]? = some x):l.set i x=l:=by
 obtain ⟨hlt,rfl⟩:=List.getElem?_eq_some_iff.1 h
 exact List.set_getElem_self hlt
set_option maxRecDepth 10000
open Go.V
abbrev resA (e:Int) (out:ByteArray) (st:Int):AV:=.agg [I e,strv out,I st]
def endF (σ:S):Int:=if σ.fin=0 then 5 else σ.fin
def runF (code:List Int) (data:Int) (inp:ByteArray) (fuel:Int):S:=runN code inp (startF data) fuel.toNat
abbrev runA (code:List Int) (data:Int) (inp:ByteArray) (fuel:Int):AV:=resA (endF (runF code data inp fuel)) (runF code data inp fuel).out (runF code data inp fuel).st
def cntL (code:List Int) (inp:ByteArray) (σ:S):Nat→List Int
 | 0=>List.replicate code.length 0
 | k+1=>if doneF code (runN code inp σ k)=true then (cntL code inp σ k).set (runN code inp σ k).pc.toNat ((cntL code inp σ k).getD (runN code inp σ k).pc.toNat 0+1) else cntL code inp σ k
theorem cntL_len (code:List Int) (inp:ByteArray) (σ:S):∀ k,(cntL code inp σ k).length=code.length
 | 0=>by simp[cntL]
 | k+1=>by
  simp only[cntL];split
  ·rw[List.length_set];exact cntL_len code inp σ k
  ·exact cntL_len code inp σ k
theorem cntL_le (code:List Int) (inp:ByteArray) (σ:S):∀ k,∀ x ∈ cntL code inp σ k,0≤x∧x≤k
 | 0=>fun x hx=>by
  simp only[cntL,List.mem_replicate]at hx;rw[hx.2];exact ⟨Int.le_refl _,Int.le_refl _⟩
 | k+1=>fun x hx=>by
  have ih:=cntL_le code inp σ k
  simp only[cntL]at hx
  split at hx
  ·rcases List.mem_or_eq_of_mem_set hx with hx | hx
   ·have:=ih x hx;omega
   ·rw[hx,List.getD_eq_getElem?_getD]
    cases hg:(cntL code inp σ k)[(runN code inp σ k).pc.toNat]? with
    | none=>simp;omega
    | some y=>have:=ih y (List.mem_of_getElem? hg);simp;omega
  ·have:=ih x hx;omega
theorem cellT_I1 {xs:List Int} {off:Nat} {C:AV→Prop}:cellT (xs.map I) off false 1 C .mk=(off<xs.length∧C (I (xs.getD off default))):=cellT_map fun _=>rfl
set_option maxRecDepth 10000
open Go.V
set_option maxRecDepth 10000
open Go.V Go.ChangeShapes Go.WideShapes Go.ChangeAt Go.RowKit
set_option maxRecDepth 10000
open Go.V Go.ChangeShapes Go.WideShapes Go.ChangeAt Go.RowKit
set_option maxRecDepth 10000
open Go.V
def Fr (s t:S):Prop :=
 (∃ j v,t.reg=updR s.reg j v∧t.mem=s.mem∧t.out=s.out∧(t.rd=s.rd∨t.rd=IntKind.i64.wrap (s.rd+1))) ∨
 (∃ j v,t.reg=s.reg∧t.mem=s.mem.set j v∧t.out=s.out∧t.rd=s.rd) ∨
 (∃ b,t.reg=s.reg∧t.mem=s.mem∧t.out=s.out.push b∧t.rd=s.rd)
theorem updR_same (f:Nat→Int):f=updR f 0 (f 0):=by
 funext k;unfold updR;split
 ·rename_i h;rw[h]
 ·rfl
theorem Fr.same {s t:S} (h1:t.reg=s.reg) (h2:t.mem=s.mem) (h3:t.out=s.out) (h4:t.rd=s.rd):Fr s t :=
 .inl ⟨0,s.reg 0,by rw[h1];exact updR_same _,h2,h3,.inl h4⟩
set_option maxRecDepth 10000
open Go.V
def wkc (pc:Int) (f:Nat→Int) (m:AV) (rd:Int) (so:ByteArray) (st fin:Int) (o cd ok wd:AV) (inp:ByteArray) (ct:AV):List AV :=
 I pc::(regs f++[m,I rd,strv so,I st,I fin,o,cd,ok,wd,strv inp,ct])
section
variable {pc:Int} {f:Nat→Int} {m:AV} {rd:Int} {so:ByteArray} {st fin:Int} {o cd ok wd:AV} {inp:ByteArray} {ct:AV} {C:AV→Prop}
theorem wkc_length:(wkc pc f m rd so st fin o cd ok wd inp ct).length=28:=rfl
theorem wkc_all:(wkc pc f m rd so st fin o cd ok wd inp ct).all AV.one=(m.one && o.one && cd.one && ok.one && wd.one && ct.one):=by
 simp[wkc,regs_all];simp[AV.one,Value.oneCell',Bool.and_assoc]
theorem k_state:cellT (wkc pc f m rd so st fin o cd ok wd inp ct) 0 true 22 C .mk=C (.agg (stc pc f m rd so st fin)):=by
 have e:((wkc pc f m rd so st fin o cd ok wd inp ct).drop 0).take 22=stc pc f m rd so st fin:=rfl
 simp only[cellT,cellW,partOK,partA,wkc_length,if_true,e];simp
theorem k_reg {j:Nat} (h:j<16):cellT (wkc pc f m rd so st fin o cd ok wd inp ct) (1+j) false 1 C .mk=C (U32 (f j)):=by
 have e:(wkc pc f m rd so st fin o cd ok wd inp ct).getD (1+j) .dead=U32 (f j):=by
  rw[← regs_get (f:=f) h,wkc,Nat.add_comm,List.getD_cons_succ]
  simp only[List.getD,List.getElem?_append_left (show j<(regs f).length by rw[regs_length];exact h)]
 simp only[cellT,cellW,partOK,partA,wkc_length,e]
 simp[AV.one,Value.oneCell'];omega
theorem ks_reg {j:Nat} {v:Int} (h:j<16):(wkc pc f m rd so st fin o cd ok wd inp ct).set (1+j) (U32 v)=wkc pc (updR f j v) m rd so st fin o cd ok wd inp ct:=by
 rw[wkc,Nat.add_comm,List.set_cons_succ,List.set_append_left _ _ (by rw[regs_length];exact h),regs_set h];rfl
theorem k_pc:cellT (wkc pc f m rd so st fin o cd ok wd inp ct) 0 false 1 C .mk=C (I pc):=by
 have e:(wkc pc f m rd so st fin o cd ok wd inp ct).getD 0 .dead=I pc:=rfl
 simp only[cellT,cellW,partOK,partA,wkc_length,e];simp[AV.one,Value.oneCell']
theorem ks_pc {x:Int}:(wkc pc f m rd so st fin o cd ok wd inp ct).set 0 (I x)=wkc x f m rd so st fin o cd ok wd inp ct:=rfl
theorem k_mem:cellT (wkc pc f m rd so st fin o cd ok wd inp ct) 17 false 1 C .mk=(m.one=true∧C m):=by
 have e:(wkc pc f m rd so st fin o cd ok wd inp ct).getD 17 .dead=m:=rfl
 simp only[cellT,cellW,partOK,partA,wkc_length,e];simp
theorem ks_mem {x:AV}:(wkc pc f m rd so st fin o cd ok wd inp ct).set 17 x=wkc pc f x rd so st fin o cd ok wd inp ct:=rfl
theorem k_rd:cellT (wkc pc f m rd so st fin o cd ok wd inp ct) 18 false 1 C .mk=C (I rd):=by
 have e:(wkc pc f m rd so st fin o cd ok wd inp ct).getD 18 .dead=I rd:=rfl
 simp only[cellT,cellW,partOK,partA,wkc_length,e];simp[AV.one,Value.oneCell']
theorem ks_rd {x:Int}:(wkc pc f m rd so st fin o cd ok wd inp ct).set 18 (I x)=wkc pc f m x so st fin o cd ok wd inp ct:=rfl
theorem k_so:cellT (wkc pc f m rd so st fin o cd ok wd inp ct) 19 false 1 C .mk=C (strv so):=by
 have e:(wkc pc f m rd so st fin o cd ok wd inp ct).getD 19 .dead=strv so:=rfl
 simp only[cellT,cellW,partOK,partA,wkc_length,e];simp[AV.one,Value.oneCell']
theorem ks_so {x:ByteArray}:(wkc pc f m rd so st fin o cd ok wd inp ct).set 19 (strv x)=wkc pc f m rd x st fin o cd ok wd inp ct:=rfl
theorem k_st:cellT (wkc pc f m rd so st fin o cd ok wd inp ct) 20 false 1 C .mk=C (I st):=by
 have e:(wkc pc f m rd so st fin o cd ok wd inp ct).getD 20 .dead=I st:=rfl
 simp only[cellT,cellW,partOK,partA,wkc_length,e];simp[AV.one,Value.oneCell']
theorem ks_st {x:Int}:(wkc pc f m rd so st fin o cd ok wd inp ct).set 20 (I x)=wkc pc f m rd so x fin o cd ok wd inp ct:=rfl
theorem k_fin:cellT (wkc pc f m rd so st fin o cd ok wd inp ct) 21 false 1 C .mk=C (I fin):=by
 have e:(wkc pc f m rd so st fin o cd ok wd inp ct).getD 21 .dead=I fin:=rfl
 simp only[cellT,cellW,partOK,partA,wkc_length,e];simp[AV.one,Value.oneCell']
theorem ks_fin {x:Int}:(wkc pc f m rd so st fin o cd ok wd inp ct).set 21 (I x)=wkc pc f m rd so st x o cd ok wd inp ct:=rfl
theorem k_o:cellT (wkc pc f m rd so st fin o cd ok wd inp ct) 22 false 1 C .mk=(o.one=true∧C o):=by
 have e:(wkc pc f m rd so st fin o cd ok wd inp ct).getD 22 .dead=o:=rfl
 simp only[cellT,cellW,partOK,partA,wkc_length,e];simp
theorem ks_o {x:AV}:(wkc pc f m rd so st fin o cd ok wd inp ct).set 22 x=wkc pc f m rd so st fin x cd ok wd inp ct:=rfl
theorem k_cd:cellT (wkc pc f m rd so st fin o cd ok wd inp ct) 23 false 1 C .mk=(cd.one=true∧C cd):=by
 have e:(wkc pc f m rd so st fin o cd ok wd inp ct).getD 23 .dead=cd:=rfl
 simp only[cellT,cellW,partOK,partA,wkc_length,e];simp
theorem k_ok:cellT (wkc pc f m rd so st fin o cd ok wd inp ct) 24 false 1 C .mk=(ok.one=true∧C ok):=by
 have e:(wkc pc f m rd so st fin o cd ok wd inp ct).getD 24 .dead=ok:=rfl
 simp only[cellT,cellW,partOK,partA,wkc_length,e];simp
theorem k_wd:cellT (wkc pc f m rd so st fin o cd ok wd inp ct) 25 false 1 C .mk=(wd.one=true∧C wd):=by
 have e:(wkc pc f m rd so st fin o cd ok wd inp ct).getD 25 .dead=wd:=rfl
 simp only[cellT,cellW,partOK,partA,wkc_length,e];simp
theorem k_in:cellT (wkc pc f m rd so st fin o cd ok wd inp ct) 26 false 1 C .mk=C (strv inp):=by
 have e:(wkc pc f m rd so st fin o cd ok wd inp ct).getD 26 .dead=strv inp:=rfl
 simp only[cellT,cellW,partOK,partA,wkc_length,e];simp[AV.one,Value.oneCell']
theorem k_ct:cellT (wkc pc f m rd so st fin o cd ok wd inp ct) 27 false 1 C .mk=(ct.one=true∧C ct):=by
 have e:(wkc pc f m rd so st fin o cd ok wd inp ct).getD 27 .dead=ct:=rfl
 simp only[cellT,cellW,partOK,partA,wkc_length,e];simp
end
set_option maxRecDepth 10000
open Go.V
abbrev wkO (s:Nat) (cs:List AV):VObj:=⟨s,140,1,cs⟩
section
variable {pc:Int} {f:Nat→Int} {m:AV} {rd:Int} {so:ByteArray} {st fin:Int} {o cd ok wd:AV} {inp:ByteArray} {ct:AV} {H:List VObj} {nx w sw:Nat} {C:AV→List VObj→Nat→Prop}
theorem wset_v (a v:Int) (ha:0≤a∧a≤15) (hw:H[w]? = some (wkO sw (wkc pc f m rd so st fin o cd ok wd inp ct))) (h1:(wkc pc f m rd so st fin o cd ok wd inp ct).all AV.one=true)
 (hC:∀ r,C r (H.set w (wkO sw (wkc (IntKind.i64.wrap (pc+1)) (updR f a.toNat v) m rd so st fin o cd ok wd inp ct))) nx) :
 VCall Try.prog 88 [.ptr w sw 0,I a,U32 v] H nx C:=by
 refine VCall.of_body hmix f_scref10_work_set (by simp) ?_
 have hlt:=(List.getElem?_eq_some_iff.1 hw).1
 have gw:∀ x,(H.set w x)[w]? = some x:=fun x=>by rw[List.getElem?_set,if_pos rfl,if_pos hlt]
 have hj:a.toNat<16:=by omega
 simp only[go_sem,c_scref10_work_set,hw,gw,List.set_set,wkc_length,k_pc,ks_reg hj,ks_pc]
 repeat (refine And.intro (by omega) ?_)
 exact hC _
theorem wjump_v (yes:Bool) (to:Int) (hw:H[w]? = some (wkO sw (wkc pc f m rd so st fin o cd ok wd inp ct)))
 (hC:∀ r,C r (H.set w (wkO sw (wkc (if yes then to else IntKind.i64.wrap (pc+1)) f m rd so st fin o cd ok wd inp ct))) nx) :
 VCall Try.prog 90 [.ptr w sw 0,B yes,I to] H nx C:=by
 refine VCall.of_body hmix f_scref10_work_jump (by simp) ?_
 have hlt:=(List.getElem?_eq_some_iff.1 hw).1
 have gw:∀ x,(H.set w x)[w]? = some x:=fun x=>by rw[List.getElem?_set,if_pos rfl,if_pos hlt]
 cases yes
 ·simp only[go_sem,c_scref10_work_jump,hw,gw,List.set_set,wkc_length,k_pc,ks_pc]
  repeat (refine And.intro (by omega) ?_)
  exact hC _
 ·simp only[go_sem,c_scref10_work_jump,hw,gw,List.set_set,wkc_length,k_pc,ks_pc]
  repeat (refine And.intro (by omega) ?_)
  exact hC _
end
theorem fetchN_c (l:List Int) (b k:Int) (hb:In32 b) (hk:0≤k∧k≤65535) (hl:l.length≤1000000):ContractN Try.prog 89 [words l,U32 b,I k]
 (fun r=>r=(if w32 (b+k)<l.length then AV.tup [U32 (l.getD (w32 (b+k)).toNat default),B true] else AV.tup [U32 0,B false])):=by
 refine ContractN.of_call (VCall.of_body hmix f_scref10_fetch (by simp) ?_)
 have e1:IntKind.u32.wrap k=k:=w32_in ⟨by omega,by omega⟩
 obtain ⟨at_,hat⟩:∃ x,IntKind.u32.wrap (b+k)=x:=⟨_,rfl⟩
 have hin:In32 at_:=by rw[← hat,IntKind.wrap_u32];exact ⟨by omega,by omega⟩
 obtain ⟨p1,p2⟩:=hin
 have e2:IntKind.u64.wrap at_=at_:=by rw[IntKind.wrap_u64];omega
 have e3:IntKind.u64.wrap (l.length:Int)=l.length:=by rw[IntKind.wrap_u64];omega
 have hat':w32 (b+k)=at_:=hat
 simp only[hat']
 by_cases h:at_<l.length
 ·simp only[go_sem,c_scref10_fetch,e1,hat,e2,e3,eq_false (show ¬ (l.length:Int)≤at_ by omega),if_pos h]
  repeat (refine And.intro (by omega) ?_)
  exact ⟨_,FrzN.tup ⟨_,_,rfl,FrzN.val,_,_,rfl,FrzN.val,rfl⟩,by simp[h]⟩
 ·simp only[go_sem,c_scref10_fetch,e1,hat,e2,e3,eq_true (show (l.length:Int)≤at_ by omega),if_neg h]
  exact ⟨_,FrzN.tup ⟨_,_,rfl,FrzN.val,_,_,rfl,FrzN.val,rfl⟩,by simp[h]⟩
set_option maxRecDepth 10000
open Go.V
def insC (w:Int):List AV:=if okW w then [I (opW w),I (raW w),I (rbW w),I (kW w)] else [I 0,I 0,I 0,I 0]
abbrev insL (code:List Int):AV:=.imm 4 ((code.map insC).map .agg)
abbrev okL (code:List Int):AV:=.imm 1 (code.map fun w=>B (okW w))
theorem insC_len (w:Int):(insC w).length=4:=by unfold insC;split<;>rfl
theorem insC_pure (w:Int):(insC w).all AV.pure=true:=by unfold insC;split<;>rfl
theorem insC_one (w:Int):(insC w).all AV.one=true:=by unfold insC;split<;>rfl
theorem flat4_len (ls:List (List AV)) (h:∀ l ∈ ls,l.length=4):ls.flatten.length=ls.length*4:=by
 induction ls with
 | nil=>rfl
 | cons a ls ih=>rw[List.flatten_cons,List.length_append,h a (by simp),ih (fun l hl=>h l (by simp[hl])),List.length_cons];omega
def insP (code:List Int) (k:Nat):List (List AV):=(code.take k).map insC++List.replicate (code.length-k) [I 0,I 0,I 0,I 0]
theorem insP_len (code:List Int) {k:Nat} (h:k≤code.length):(insP code k).length=code.length:=by simp[insP];omega
theorem insP_4 (code:List Int) (k:Nat):∀ l ∈ insP code k,l.length=4:=fun l hl=>by
 unfold insP at hl
 rcases List.mem_append.1 hl with hl | hl
 ·obtain ⟨w,_,rfl⟩:=List.mem_map.1 hl;exact insC_len w
 ·rw[List.mem_replicate]at hl;rw[hl.2];rfl
theorem insP_next (code:List Int) {k:Nat} (h:k<code.length):(insP code k).flatten.take (k*4)++insC (code.getD k default)++(insP code k).flatten.drop (k*4+4)=(insP code (k+1)).flatten:=by
 have e1:((code.take k).map insC).flatten.length=k*4:=by
  rw[flat4_len _ (fun l hl=>by obtain ⟨w,_,rfl⟩:=List.mem_map.1 hl;exact insC_len w)];simp;omega
 have e2:code.length-k=(code.length-(k+1))+1:=by omega
 unfold insP
 rw[List.flatten_append,List.take_append_of_le_length (by omega),List.take_of_length_le (by omega),e2,List.replicate_succ,List.flatten_cons]
 rw[show k*4+4=((code.take k).map insC).flatten.length+4 by rw[e1],← List.drop_drop,List.drop_left]
 rw[List.take_add_one,List.getElem?_eq_getElem h,List.getD_eq_getElem?_getD,List.getElem?_eq_getElem h]
 simp only[Option.getD_some,Option.toList_some,List.map_append,List.map_cons,List.map_nil,List.flatten_append,List.flatten_cons,List.flatten_nil,List.append_nil,List.append_assoc]
 rfl
def okPR (code:List Int) (k:Nat):List AV:=(code.take k).map (fun w=>B (okW w))++List.replicate (code.length-k) (B false)
theorem okP_len (code:List Int) {k:Nat} (h:k≤code.length):(okPR code k).length=code.length:=by simp[okPR];omega
theorem okP_next (code:List Int) {k:Nat} (h:k<code.length):(okPR code k).set k (B (okW (code.getD k default)))=okPR code (k+1):=by
 have e2:code.length-k=(code.length-(k+1))+1:=by omega
 have e1:((code.take k).map (fun w=>B (okW w))).length=k:=by simp;omega
 unfold okPR
 rw[e2,List.replicate_succ,List.set_append_right _ _ (by omega),e1,Nat.sub_self,List.set_cons_zero,List.take_add_one,List.getElem?_eq_getElem h,List.getD_eq_getElem?_getD,List.getElem?_eq_getElem h]
 simp only[Option.getD_some,Option.toList_some,List.map_append,List.map_cons,List.map_nil,List.append_assoc,List.cons_append,List.nil_append]
theorem refcode_c (code:List Int) (data:Int) (hcode:∀ x ∈ code,In32 x) (hcl:code.length≤1000000):Contract Try.prog 79 [imgA code data] (fun r=>r = .tup [insL code,okL code]):=by
 refine Contract.of_call (VCall.of_body hmix f_scref10_Code (by simp) ?_)
 have hr1:(List.replicate code.length [I 0,I 0,I 0,I 0]).flatten=(insP code 0).flatten:=by simp[insP]
 have hr2:(List.replicate code.length [B false]).flatten=okPR code 0:=by
  unfold okPR;simp
 have hi0:=flat4_len _ (insP_4 code 0)
 simp only[go_sem,c_scref10_Code,hr1,hr2]
 repeat (refine And.intro (by omega) ?_)
 refine VW_loop (fun q:Nat × List VObj × Nat=>⟨[(1,.ptr 0 0 0),(4,.ref 1 1 0 code.length),(5,.ref 2 2 0 code.length),(6,I q.1)],⟨0,38,1,[words code,I data]⟩::⟨1,86,4,(insP code q.1).flatten⟩::⟨2,4,1,okPR code q.1⟩::q.2.1,q.2.2⟩)
  (fun q=>q.1≤code.length) (fun q=>code.length-q.1) (0,[],3) (Wk.mk (by simp[get_cons]) ⟨[],rfl⟩ (Nat.le_refl _)) (Nat.zero_le _) ?_
 rintro ⟨k,J,nx⟩ hk
 simp only at hk
 by_cases c1:(k:Int)<code.length
 ·have hlt:k<code.length:=by omega
  obtain ⟨w,hw⟩:∃ w,code.getD k default=w:=⟨_,rfl⟩
  have hwi:In32 w:=by
   rw[← hw,List.getD_eq_getElem?_getD,List.getElem?_eq_getElem hlt]
   exact hcode _ (List.getElem_mem _)
  have n1:=insP_next code hlt
  have n2:=okP_next code hlt
  rw[hw]at n1 n2
  have l1:=flat4_len _ (insP_4 code k)
  rw[insP_len code hk]at l1
  have l2:=okP_len code hk
  simp only[go_sem,eq_true c1,cellT_U32,hw]
  repeat (refine And.intro (by omega) ?_)
  refine VCall.of_contract (refdecode_c w hwi) (SleL.pure rfl) fun x hx=>?_
  subst hx
  unfold decA
  cases hok:okW w
  ·have e4:insC w=[I 0,I 0,I 0,I 0]:=by unfold insC;rw[hok];rfl
   rw[e4]at n1
   rw[hok]at n2
   simp only[go_sem,ogn,osn,l1,l2,n1,n2,Int.reduceEq,Int.reduceBEq]
   repeat (refine And.intro (by omega) ?_)
   rw[i64_in (by omega) (by omega)]
   exact ⟨(k+1,_,_),by simp only;omega,by simp only;omega,Wk.mk (by simp[get_cons]) ⟨[],(List.append_nil _).symm⟩ (Nat.le_refl _)⟩
  ·have e4:insC w=[I (opW w),I (raW w),I (rbW w),I (kW w)]:=by unfold insC;rw[hok];rfl
   rw[e4]at n1
   rw[hok]at n2
   simp only[go_sem,ogn,osn,l1,l2,n1,n2,Int.reduceEq,Int.reduceBEq]
   repeat (refine And.intro (by omega) ?_)
   rw[i64_in (by omega) (by omega)]
   exact ⟨(k+1,_,_),by simp only;omega,by simp only;omega,Wk.mk (by simp[get_cons]) ⟨[],(List.append_nil _).symm⟩ (Nat.le_refl _)⟩
 ·have e:k=code.length:=by omega
  subst e
  have hi:insP code code.length=code.map insC:=by simp[insP]
  have ho:okPR code code.length=code.map fun w=>B (okW w):=by simp[okPR]
  simp only[go_sem,eq_false c1,hi,ho]
  refine ⟨_,Frz.tup ⟨_,_,rfl,Frz.refS (Nat.zero_le _) rfl rfl rfl rfl (fun l hl=>?_) (by simp),_,_,rfl,Frz.ref (Nat.zero_le _) rfl rfl rfl ?_ (FrzL.pure ?_),rfl⟩,?_⟩
  ·obtain ⟨w,_,rfl⟩:=List.mem_map.1 hl
   exact ⟨insC_len w,insC_pure w⟩
  ·rw[List.all_eq_true];intro y hy;obtain ⟨x,_,rfl⟩:=List.mem_map.1 hy;rfl
  ·rw[List.drop_zero,List.take_of_length_le (by simp),List.all_eq_true];intro y hy;obtain ⟨x,_,rfl⟩:=List.mem_map.1 hy;rfl
  ·rw[List.drop_zero,List.take_of_length_le (by simp)]
end Go.Proofs.Ytaedcpipilnpcaa
