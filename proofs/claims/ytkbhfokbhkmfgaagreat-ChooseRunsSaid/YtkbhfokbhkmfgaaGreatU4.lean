/- The engine, part 4: each operation does what is said of it. No condition. -/
import Derived.Test.YtkbhfokbhkmfgaaGreatU3
set_option linter.unusedVariables false
set_option linter.unusedSimpArgs false
namespace Go.V
open Go.RowKit
def Step (P:Program) (o:Oper) (a:Act) (M:MM) (C:AV→List VObj→Nat→Prop):Prop :=
 ∀ (Q:Exit→Act→World→Prop) (K':Act→World→Prop),
  (∀ (v:Value) (r:AV) (M':MM),M'.I0=M.I0→M'.w0=M.w0→RH M'→KeepRV M M'→RV M' r v→C r M'.H M'.nx→K' (a.put o.dst v) M'.w)→o.wp P a M.w K' Q
theorem Step.quiet {P:Program} {o:Oper} {a:Act} {M:MM} (hR:RH M) {C:AV→List VObj→Nat→Prop} (v:Value) (r:AV)
 (he:(execOp a.eval o).run P M.w = .ok (.value v) M.w) (hr:RV M r v) (hC:C r M.H M.nx):Step P o a M C:=by
 intro Q K' hK;unfold Oper.wp;rw[he];exact hK v r M rfl rfl hR (KeepRV.refl M) hr hC
def QStep (P:Program) (o:Oper) (a:Act) (M:MM) (C:AV→List VObj→Nat→Prop):Prop:=∃ v r,(execOp a.eval o).run P M.w = .ok (.value v) M.w∧RV M r v∧C r M.H M.nx
theorem QStep.mk {P:Program} {o:Oper} {a:Act} {M:MM} (_:RH M) {C:AV→List VObj→Nat→Prop} (v:Value) (r:AV)
 (he:(execOp a.eval o).run P M.w = .ok (.value v) M.w) (hr:RV M r v) (hC:C r M.H M.nx):QStep P o a M C:=⟨v,r,he,hr,hC⟩
theorem QStep.step {P:Program} {o:Oper} {a:Act} {M:MM} (hR:RH M) {C:AV→List VObj→Nat→Prop} (h:QStep P o a M C):Step P o a M C :=
 let ⟨v,r,he,hr,hC⟩:=h
 Step.quiet hR v r he hr hC
theorem a4c {P:Program} {t:TypeId} {ag:Bool} {n:Nat} (h:a9b P t=some (ag,n)) (w:World) :
 (isAgg t).run P w = .ok ag w∧(sizeOf t).run P w = .ok n w∧(ag=false→n=1):=by
 unfold a9b at h;cases hi:P.info? t with
 | none=>simp[hi]at h
 | some i =>
  cases hu:P.underlying t with
  | none=>simp[hi,hu]at h
  | some d =>
   simp only[hi,hu]at h;have hs:(sizeOf t).run P w = .ok i.size w:=by simp[sizeOf,typeInfo,hi]
   refine ⟨?_,?_,?_⟩
   ·simp only[isAgg,Sem.run_bind,run_underlying hu,Result.andThen_ok];cases d<;>simp at h ⊢<;>first | exact h.2.1 | exact h.1
   ·rw[hs];cases d<;>simp at h ⊢<;>first | exact h.2 | omega
   ·cases d<;>simp at h ⊢<;>first | omega | (intro e;rw[e]at h;simp at h) | skip
theorem InMem.load {w:World} {b o:Nat} {v:Value} (h:InMem w b o v):∀ j u,v.cells.toList[j]? = some u→w.cell? ((⟨b,o,none⟩:Addr).add j)=some u:=fun j u hu=>by
 rw[Addr.add_lit];exact h j u (by simpa using hu)
theorem b7I {P:Program} {w:World} {t:TypeId} {ag:Bool} {n b o:Nat} (hl:a9b P t=some (ag,n)) {v:Value} (hm:InMem w b o v)
 (hv:(ag=true∧∃ arr,v = .agg arr∧arr.size=n)∨(ag=false∧v.oneCell'=true)):(loadVar t ⟨b,o,none⟩).run P w = .ok v w:=by
 obtain ⟨h1,h2,h3⟩:=a4c hl w;simp only[loadVar,Sem.run_bind,h1,Result.andThen_ok];rcases hv with ⟨rfl,arr,rfl,hn⟩ | ⟨rfl,hv⟩
 ·have:=run_loadCells_list (P:=P) w ⟨b,o,none⟩ arr.toList (by simpa [Value.cells] using hm.load);simp only[Array.length_toList,hn]at this;simp[h2,this]
 ·have hc:=a1U hv;have:=hm 0 v (by simp[hc]);simp only[Nat.add_zero]at this;simp[run_load,this]
theorem RL0.toRL {M:MM} {xs:List AV} {vs:List Value} (h:RL0 M.w M.I xs vs):RL M xs vs:=RL.of0 h
theorem RH.cell {M:MM} (hR:RH M) {id g:Nat} {ob:VObj} (ho:M.H[id]? = some ob) (hz:ob.sz≠0) (hm:M.m.getD id none=some g) {j:Nat} {x:AV} (hx:ob.cs[j]? = some x) :
 ∃ v,M.w.cell? ⟨g,M.o id+j,none⟩=some v∧RV M x v:=by
 have:=(hR.own id ob ho).2;rw[hm]at this;obtain ⟨_,cur,h2,h3,h4⟩:=this;obtain ⟨fr,h2,_⟩:=h2.cells hz;have hj:j<ob.cs.length:=(List.getElem?_eq_some_iff.1 hx).1;have hc:cur[M.o id+j]? = some cur[M.o id+j]:=Array.getElem?_eq_getElem (by omega);exact ⟨cur[M.o id+j],by rw[cell_of_row M.w g _ cur ob.ty fr h2];exact hc,h4 j x _ hx hc⟩
theorem RH.cells {M:MM} (hR:RH M) {id g:Nat} {ob:VObj} (ho:M.H[id]? = some ob) (hz:ob.sz≠0) (hm:M.m.getD id none=some g) (off:Nat):∀ (n:Nat),off+n≤ob.cs.length →
 ∃ vs:List Value,vs.length=n∧RL M ((ob.cs.drop off).take n) vs∧∀ j u,vs[j]? = some u→M.w.cell? ⟨g,M.o id+off+j,none⟩=some u:=by
 intro n hn;have h1:∀ j,j<n→∃ v,M.w.cell? ⟨g,M.o id+off+j,none⟩=some v∧∀ x,ob.cs[off+j]? = some x→RV M x v:=fun j hj=>by
  have hx:ob.cs[off+j]? = some ob.cs[off+j]:=List.getElem?_eq_getElem (by omega);obtain ⟨v,h1,h2⟩:=hR.cell ho hz hm hx;exact ⟨v,by rw[Nat.add_assoc];exact h1,fun x h3=>by rw[hx]at h3;cases h3;exact h2⟩
 refine ⟨(List.range n).map fun j=>(M.w.cell? ⟨g,M.o id+off+j,none⟩).getD undef,by simp,RL.of_get (by simp;omega) fun j x v hx hv=>?_,fun j u hu=>?_⟩
 ·rw[List.getElem?_take]at hx;split at hx
  ·rename_i hj;obtain ⟨u,h2,h3⟩:=h1 j hj;rw[List.getElem?_drop]at hx;simp[hj,h2]at hv;subst hv;exact h3 x hx
  ·cases hx
 ·have hj:j<n:=by have:=(List.getElem?_eq_some_iff.1 hu).1;simpa using this
  obtain ⟨v,h2,_⟩:=h1 j hj;simp[hj,h2]at hu;subst hu;exact h2
theorem a9Y {M:MM} {id s off:Nat} {x:Value} (h:RV M (.ptr id s off) x) {ob:VObj} (ho:M.H[id]? = some ob) (hs:ob.s=s) :
 ∃ g,M.m.getD id none=some g∧x = .pointer (some ⟨g,M.o id+off,none⟩):=by
 simp only[RV]at h;exact (h.2.2 ob ho hs).2
theorem b8D {M:MM} {id s off:Nat} {x:Value} (h:RV M (.ptr id s off) x) {ob:VObj} (ho:M.H[id]? = some ob) (hs:ob.s=s):ob.sz≠0:=by
 simp only[RV]at h;exact (h.2.2 ob ho hs).1
theorem b4J {P:Program} {o:Oper} {a:Act} {M:MM} (hR:RH M) {env:List (Nat × AV)} (he:EnvR M env a) {C:AV→List VObj→Nat→Prop} {t:TypeId} {x:Operand} {ag:Bool} {n:Nat}
 (ho:o.op = .load t x) (hl:a9b P t=some (ag,n)) (h:(K.ld ag n x).wp P (evF (get env)) M.H M.nx C):QStep P o a M C:=by
 have hx:=EnvR.ev he x;simp only[K.wp]at h;have key:∀ {b off:Nat} {v:Value},a.eval x = .pointer (some ⟨b,off,none⟩)→InMem M.w b off v→((ag=true∧∃ arr,v = .agg arr∧arr.size=n)∨(ag=false∧v.oneCell'=true)) →
  (execOp a.eval o).run P M.w = .ok (.value v) M.w:=fun e1 e2 e3=>by
  simp[execOp,ho,Instr.loadAt,Instr.sureAddr,e1,b7I hl e2 e3]
 split at h
 ·rename_i y hy;rw[hy]at hx;simp only[RV,RV0]at hx;obtain ⟨b,off,v,h1,h2,h3,h4⟩:=hx;obtain ⟨h5,hC⟩:=h;refine QStep.mk hR v y (key h1 h4 ?_) (RV.of0 h3) hC;unfold c0L at h5;split at h5
  ·simp only[RV0]at h3;obtain ⟨vs,rfl,h6⟩:=h3;exact .inl ⟨h5.1,_,rfl,by simp[h6.length,h5.2]⟩
  ·exact .inr ⟨h5.1,(RV.one h5.2 (RV.of0 h3)).1⟩
 ·rename_i id s off hy;rw[hy]at hx;split at h
  ·rename_i ob hob;obtain ⟨hs,hp,hC⟩:=h;obtain ⟨g,hg,e1⟩:=a9Y hx hob hs;have hzz:=b8D hx hob hs;obtain ⟨hp1,hp2⟩:=hp;by_cases hag:ag=true
   ·subst hag;obtain ⟨vs,g1,g2,g3⟩:=hR.cells hob hzz hg off n hp1;refine QStep.mk hR (.agg vs.toArray) _ (key e1 (fun j u hu=>g3 j u (by simpa [Value.cells] using hu)) (.inl ⟨rfl,_,rfl,by simpa using g1⟩)) ?_ hC;simp only[a1f];exact (by simp only[if_true,RV];exact ⟨vs,rfl,g2⟩)
   ·have hag':ag=false:=by simpa using hag
    subst hag';obtain ⟨rfl,h6⟩:=hp2.resolve_left (by simp);have hlt:off<ob.cs.length:=by omega
    have hget:ob.cs[off]? = some ob.cs[off]:=List.getElem?_eq_getElem hlt;obtain ⟨v,g1,g2⟩:=hR.cell hob hzz hg hget;have hgd:ob.cs.getD off .dead=ob.cs[off]:=by simp[List.getD,hget]
    rw[hgd]at h6;have h7:=RV.one h6 g2;refine QStep.mk hR v _ (key e1 (fun j u hu=>?_) (.inr ⟨rfl,h7.1⟩)) ?_ hC
    ·rw[h7.2]at hu;cases j with
     | zero=>simp at hu;subst hu;exact g1
     | succ j=>simp at hu
    ·simp only[a1f,Bool.false_eq_true,if_false,hgd];exact g2
  ·exact h.elim
 ·exact h.elim
theorem RL.all1 {M:MM}:∀ {xs:List AV} {vs:List Value},xs.all AV.one=true→RL M xs vs→∀ v ∈ vs,v.oneCell'=true
 | [],_,_,h,v,hv=>by simp only[RL]at h;subst h;cases hv
 | c::cs,vs,h1,h,v,hv=>by
  simp only[List.all_cons,Bool.and_eq_true]at h1;simp only[RL]at h;obtain ⟨u,vs',rfl,h2,h3⟩:=h;rcases List.mem_cons.1 hv with rfl | hv
  ·exact (RV.one h1.1 h2).1
  ·exact RL.all1 h1.2 h3 v hv
theorem RV.cells {M:MM} {x:AV} (h1:x.laid=true) {v:Value} (h:RV M x v):RL M x.cells v.cells.toList∧∀ u ∈ v.cells.toList,u.oneCell'=true:=by
 unfold AV.laid at h1;split at h1
 ·simp only[RV]at h;obtain ⟨vs,rfl,h2⟩:=h;simp only[AV.cells,Value.cells];exact ⟨by simpa using h2,by simpa using RL.all1 h1 h2⟩
 ·have h2:=RV.one h1 h;have hc:x.cells=[x]:=by
   unfold AV.cells;split
   ·simp[AV.one]at h1
   ·rfl
  rw[hc,h2.2];simp only[RL];exact ⟨⟨v,[],rfl,h,rfl⟩,by simpa using h2.1⟩
theorem b3A (w:World) (g:Nat) (cs:Array Value):w.grownBy (w.setRow g cs) (some g) :=
 ⟨rfl,rfl,rfl,by simp,fun k _ hk=>setRow_other w g k _ (fun e=>hk (by simp[e]))⟩
theorem a3a (P:Program) (g o:Nat) (t:TypeId) (fr:Nat × Nat):∀ (vs:List Value) (i:Nat) (cur:Array Value) (w:World),w.heap[g]? = some (.cells cur t fr)→FrOK fr cur.size→o+i+vs.length≤cur.size→(∀ v ∈ vs,v.oneCell'=true) →
 (storeCells ⟨g,o,none⟩ vs i).run P w = .ok () (w.setRow g (cur.toList.take (o+i)++vs++cur.toList.drop (o+i+vs.length)).toArray)
 | [],i,cur,w,hg,_,_,_=>by
  simp only[storeCells,List.append_nil,List.length_nil,Nat.add_zero,List.take_append_drop,Array.toArray_toList];rw[setRow_self w g cur t fr hg];rfl
 | v::rest,i,cur,w,hg,hfz,hl,h1=>by
  have hi:o+i<cur.size:=by simp at hl;omega
  have hadd:(⟨g,o,none⟩:Addr).add i=⟨g,o+i,none⟩:=Addr.add_lit ..;have hcell:w.cell? ⟨g,o+i,none⟩=some cur[o+i]:=by simp[World.cell?,hg,hi]
  have hfro:w.frozen? ⟨g,o+i,none⟩=false:=by
   obtain ⟨lo,hi'⟩:=fr;simp only[World.frozen?,hg,Bool.and_eq_false_iff,decide_eq_false_iff_not];rcases hfz with h | h
   ·right;simp only at h;omega
   ·left;simp only at h;omega
  have hst:(store ((⟨g,o,none⟩:Addr).add i) v).run P w = .ok () (w.setRow g (cur.setIfInBounds (o+i) v)):=by
   rw[hadd,run_store P w _ v _ (h1 v (by simp)),hcell];simp[hfro,setCell_eq_setRow w g (o+i) cur t fr v hg]
  have ih:=a3a P g o t fr rest (i+1) (cur.setIfInBounds (o+i) v) (w.setRow g (cur.setIfInBounds (o+i) v)) (setRow_heap w g cur _ t _ hg) (by simpa using hfz) (by simp at hl ⊢;omega) (fun x hx=>h1 x (by simp[hx]));simp only[storeCells,Sem.run_bind,hst,Result.andThen_ok,ih,setRow_setRow];congr 3;have e:=list_seg_step cur.toList (o+i) v rest (by simp at hl ⊢;omega);simpa [Array.toList_setIfInBounds,Nat.add_assoc] using e
theorem RH.write {M:MM} (hR:RH M) {id g:Nat} {ob:VObj} (ho:M.H[id]? = some ob) (hz:ob.sz≠0) (hm:M.m.getD id none=some g) (off:Nat) (xs:List AV) (vs:List Value) (hf:off+xs.length≤ob.cs.length) (h:RL M xs vs) (h1:∀ v ∈ vs,v.oneCell'=true)
 (P:Program):∃ M':MM,M'.I0=M.I0∧M'.w0=M.w0∧M'.H=M.H.set id { ob with cs:=ob.cs.take off++xs++ob.cs.drop (off+xs.length) }∧M'.nx=M.nx∧RH M'∧Keep M M' ∧
  (storeCells ⟨g,M.o id+off,none⟩ vs).run P M.w = .ok () M'.w:=by
 have hown:=(hR.own id ob ho).2;rw[hm]at hown;obtain ⟨_,cur,h2,h3,h4⟩:=hown;obtain ⟨fr,h2,hfr⟩:=h2.cells hz;have hl:=h.length;have hrun:=a3a P g (M.o id+off) ob.ty fr vs 0 cur M.w h2 hfr (by omega) h1;simp only[Nat.add_zero]at hrun;have hcell:=setRow_heap M.w g cur (cur.toList.take (M.o id+off)++vs++cur.toList.drop (M.o id+off+vs.length)).toArray ob.ty fr h2;have hcs:(cur.toList.take (M.o id+off)++vs++cur.toList.drop (M.o id+off+vs.length)).length=cur.size:=by
  simp only[List.length_append,List.length_take,List.length_drop,Array.length_toList];omega
 obtain ⟨k1,k2⟩:=hR.put (M.w.setRow g (cur.toList.take (M.o id+off)++vs++cur.toList.drop (M.o id+off+vs.length)).toArray) id ob { ob with cs:=ob.cs.take off++xs++ob.cs.drop (off+xs.length) } (some g) M.nx (M.o id) ho (hm▸b3A M.w g _)
  ⟨.inl hm,_,Cont.of hz hcell (by rw[List.size_toArray,hcs];exact hfr),by simp only[List.size_toArray,List.length_append,List.length_take,List.length_drop,Array.length_toList];omega,fun j x v hx hv=>by
    simp only[List.getElem?_toArray]at hv;rw[List.append_assoc,List.getElem?_append]at hx hv;simp only[List.length_take,Array.length_toList]at hx hv;rw[Nat.min_eq_left (by omega)]at hx hv;split at hx
    ·rename_i hj;rw[if_pos (by omega)]at hv;rw[List.getElem?_take,if_pos (by omega)]at hx hv;exact h4 j x v hx (by simpa using hv)
    ·rename_i hj;rw[if_neg (by omega)]at hv;rw[List.getElem?_append]at hx hv;rw[hl,show M.o id+j-(M.o id+off)=j-off by omega]at hv;split at hx
     ·rename_i hj2;rw[if_pos hj2]at hv;obtain ⟨u,h5,h6⟩:=h.get _ _ hx;rw[h5]at hv;cases hv;exact h6
     ·rename_i hj2;rw[if_neg hj2]at hv;rw[List.getElem?_drop]at hx hv;exact h4 _ x v hx (by rw[← hv];simp;congr 1;omega)⟩
  (.inr ⟨rfl,rfl,rfl,rfl,by simp only[List.length_append,List.length_take,List.length_drop];omega,hm.symm,fun g' e cur' ty' fr' hc=>by
    cases e;rw[hcell]at hc;injection hc with hc;injection hc with hc1 hc2 hc3;exact ⟨cur,ob.ty,fr,h2,by rw[← hc1];simpa using hcs.symm⟩⟩)
 exact ⟨⟨M.I0,M.w0,M.w.setRow g _,_,_,M.nx,_⟩,rfl,rfl,rfl,rfl,k1,k2,hrun⟩
theorem Step.skip {P:Program} {o:Oper} {a:Act} {M M':MM} {C:AV→List VObj→Nat→Prop} (hI:M'.I0=M.I0) (hw:M'.w0=M.w0) (hR:RH M') (k:KeepRV M M')
 (he:(execOp a.eval o).run P M.w = .ok .skip M'.w) (hC:C (.val undef) M'.H M'.nx):Step P o a M C:=by
 intro Q K' hK;unfold Oper.wp;rw[he];exact hK undef _ M' hI hw hR k (by simp only[RV]) hC
theorem Step.value {P:Program} {o:Oper} {a:Act} {M M':MM} {C:AV→List VObj→Nat→Prop} (hI:M'.I0=M.I0) (hw:M'.w0=M.w0) (hR:RH M') (k:KeepRV M M') (v:Value) (r:AV)
 (he:(execOp a.eval o).run P M.w = .ok (.value v) M'.w) (hr:RV M' r v) (hC:C r M'.H M'.nx):Step P o a M C:=by
 intro Q K' hK;unfold Oper.wp;rw[he];exact hK v r M' hI hw hR k hr hC
theorem b4K (cs:List AV) (off:Nat) (x:AV) (h:off<cs.length):cs.set off x=cs.take off++[x]++cs.drop (off+1):=by
 rw[List.set_eq_take_append_cons_drop,if_pos h];simp
theorem c0Q {P:Program} {o:Oper} {a:Act} {M:MM} (hR:RH M) {env:List (Nat × AV)} (he:EnvR M env a) {C:AV→List VObj→Nat→Prop} {t:TypeId} {x y:Operand} {ag:Bool} {n:Nat}
 (ho:o.op = .store t x y) (hl:a9b P t=some (ag,n)) (h:(K.sto ag n x y).wp P (evF (get env)) M.H M.nx C):Step P o a M C:=by
 have hx:=EnvR.ev he x;have hy:=EnvR.ev he y;simp only[K.wp]at h;split at h
 ·rename_i id s off hxe;rw[hxe]at hx;split at h
  ·rename_i ob hob;obtain ⟨hs,hf,hok,hC⟩:=h;obtain ⟨g,hg,e1⟩:=a9Y hx hob hs;have hsz:=(a4c hl M.w).2.1;have key:(evF (get env) y).laid=true∧(evF (get env) y).cells.length=n ∧
    b7H ob.cs off (evF (get env) y)=ob.cs.take off++(evF (get env) y).cells++ob.cs.drop (off+(evF (get env) y).cells.length):=by
    generalize evF (get env) y=q at hok;unfold b2r at hok;split at hok
    ·exact ⟨by simpa [AV.laid] using hok.2.1,by simpa [AV.cells] using hok.2.2,by simp[b7H,AV.cells]⟩
    ·rename_i _ hq;have h1:=(a4c hl M.w).2.2 hok.1;have hc:q.cells=[q]:=by
      unfold AV.cells;split
      ·exact (hq _ rfl).elim
      ·rfl
     refine ⟨?_,by rw[hc,h1];rfl,?_⟩
     ·unfold AV.laid;split
      ·exact (hq _ rfl).elim
      ·exact hok.2
     ·rw[hc];have:b7H ob.cs off q=ob.cs.set off q:=by
       unfold b7H;split
       ·exact (hq _ rfl).elim
       ·rfl
      rw[this,b4K _ _ _ (by omega)];rfl
   obtain ⟨hla,hn,hput⟩:=key;obtain ⟨c1,c2⟩:=RV.cells hla hy;obtain ⟨M',m1,m2,m3,m4,m5,m6,m7⟩:=hR.write hob (b8D hx hob hs) hg off _ _ (by rw[hn];exact hf) c1 c2 P;have hlen:=c1.length;refine Step.skip m1 m2 m5 m6.rv ?_ ?_
   ·simp only[execOp,ho,Instr.storeAt,Instr.sureAddr,e1,storeVar,Sem.run_bind,Sem.run_pure,Result.andThen_ok,hsz];rw[if_neg (by rw[← hn,← hlen];simp)];simp only[m7,Result.andThen_ok]
   ·rw[m3,m4,← hput];exact hC
  ·exact h.elim
 ·exact h.elim
end Go.V
