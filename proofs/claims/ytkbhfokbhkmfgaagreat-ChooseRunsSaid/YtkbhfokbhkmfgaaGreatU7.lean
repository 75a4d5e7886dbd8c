/- The engine, part 7: structs and slices built; new variables; calls; and all operations together. No condition. -/
import Derived.Test.YtkbhfokbhkmfgaaGreatUK
import Derived.Laws.Tables
set_option linter.unusedVariables false
set_option linter.unusedSimpArgs false
namespace Go.V
open Go.RowKit
theorem b6b (off:Nat):∀ (vs:List Value) (k:Nat) (cs:Array Value),off+k+vs.length≤cs.size →
 ((vs.zipIdx k).foldl (fun cs x=>cs.setIfInBounds (off+x.2) x.1) cs).toList=cs.toList.take (off+k)++vs++cs.toList.drop (off+k+vs.length)
 | [],k,cs,_=>by simp
 | v::vs,k,cs,h=>by
  simp only[List.length_cons]at h;simp only[List.zipIdx_cons,List.foldl_cons];rw[b6b off vs (k+1) _ (by simp;omega)];have e:=list_seg_step cs.toList (off+k) v vs (by simp;omega);simpa [Array.toList_setIfInBounds,Nat.add_assoc] using e
section
variable {P:Program} {o:Oper} {a:Act} {M:MM} {env:List (Nat × AV)} {C:AV→List VObj→Nat→Prop}
theorem RL.splice {xs ys:List AV} {vs us:List Value} (h:RL M xs vs) (k:RL M ys us) (off:Nat):RL M (xs.take off++ys++xs.drop (off+ys.length)) (vs.take off++us++vs.drop (off+us.length)):=by
 have:=k.length;rw[this];exact ((h.take off).append k).append (h.drop _)
theorem b0c (he:EnvR M env a) (place:Nat→Option (Nat × Nat)):∀ (parts:List (Nat × Operand)) (ps:List (Nat × Nat × Operand)) (zs:List AV) (cells:Array Value),a2a place parts=some ps →
 RL M zs cells.toList→(∀ v ∈ cells.toList,v.oneCell'=true)→a3m zs.length (a1i (evF (get env)) ps) →
 ∃ cells',Instr.fill place cells (parts.map fun x=>(x.1,a.eval x.2))=some cells'∧RL M (a5w zs (a1i (evF (get env)) ps)) cells'.toList∧(∀ v ∈ cells'.toList,v.oneCell'=true)
 | [],ps,zs,cells,hp,h,h1,_=>by
  simp only[a2a,Option.some.injEq]at hp;subst hp;exact ⟨cells,by simp[Instr.fill],by simpa [a1i,a5w] using h,h1⟩
 | (i,x)::rest,ps,zs,cells,hp,h,h1,hok=>by
  simp only[a2a]at hp;split at hp
  ·rename_i off size r hpl hr;simp only[Option.some.injEq]at hp;subst hp;simp only[a1i,a3m]at hok;obtain ⟨hla,hn,hf,hrest⟩:=hok;obtain ⟨c1,c2⟩:=RV.cells hla (EnvR.ev he x);have hlen:=c1.length;have hzl:=h.length;simp only[Array.length_toList]at hlen hzl;have hfold:=b6b off (a.eval x).cells.toList 0 cells (by simp only[Array.length_toList];omega);simp only[Nat.add_zero]at hfold;have hsp:=RL.splice h c1 off;rw[← hfold]at hsp;have hall:∀ v ∈ (((a.eval x).cells.toList.zipIdx 0).foldl (fun cs x=>cs.setIfInBounds (off+x.2) x.1) cells).toList,v.oneCell'=true:=fun v hv=>by
    rw[hfold]at hv;rcases List.mem_append.1 hv with hv | hv
    ·rcases List.mem_append.1 hv with hv | hv
     ·exact h1 v (List.mem_of_mem_take hv)
     ·exact c2 v hv
    ·exact h1 v (List.mem_of_mem_drop hv)
   have hzs:(zs.take off++(evF (get env) x).cells++zs.drop (off+(evF (get env) x).cells.length)).length=zs.length:=by
    simp only[List.length_append,List.length_take,List.length_drop];omega
   obtain ⟨cells',q1,q2,q3⟩:=b0c he place rest r _ _ hr hsp hall (by rw[hzs];exact hrest);refine ⟨cells',?_,by simpa only [a1i,a5w] using q2,q3⟩;simp only[List.map_cons,Instr.fill,hpl];rw[if_neg (by simp only[Bool.or_eq_true,decide_eq_true_eq];omega)];rw[← q1];congr 1;rw[← Array.foldl_toList];simp
  ·cases hp
theorem a8f (f:Operand→Value) (parts:Array (Nat × Operand)):(parts.map fun (i,x)=>(i,f x)).toList=parts.toList.map fun x=>(x.1,f x.2):=by simp
theorem a9g (hR:RH M) (he:EnvR M env a) {t:TypeId} {parts:Array (Nat × Operand)} {z:List Value} {ps:List (Nat × Nat × Operand)} {place:Nat→Option (Nat × Nat)} (ho:o.op = .build t parts) (hz:a5e P t=some z)
 (hb:∀ i zv l,P.info? t=some i→i.zero=some zv→P.built t l=Instr.fill place zv.cells l) (hp:a2a place parts.toList=some ps)
 (h:(K.bld z ps).wp P (evF (get env)) M.H M.nx C):QStep P o a M C:=by
 obtain ⟨i,zv,z1,z2,z3,z4,z5⟩:=a5f hz;simp only[K.wp]at h;obtain ⟨hok,hC⟩:=h;obtain ⟨cells',q1,q2,q3⟩:=b0c (M:=M) he place parts.toList ps (z.map AV.val) zv.cells hp (by rw[z3];exact RL.vals z) (fun v hv=>z5 v (by simpa using hv)) (by simpa using hok);have hrun:=run_build (P:=P) M.w t (parts.map fun (i,x)=>(i,a.eval x)) cells' (by rw[hb i zv _ z1 z2,a8f];exact q1);refine QStep.mk hR (.agg cells') _ (by simp only[execOp,ho,Sem.run_bind,hrun,Result.andThen_ok,Sem.run_pure]) ?_ hC;simp only[RV];exact ⟨cells'.toList,by simp,q2⟩
theorem c0Z (hR:RH M) (he:EnvR M env a) {t e:TypeId} {n:Nat} {inf:TypeInfo} {parts:Array (Nat × Operand)} {z:List Value} {ps:List (Nat × Nat × Operand)} (ho:o.op = .buildSlice t n parts) (ht:P.underlying t=some (.slice e)) (hi:P.info? e=some inf) (hz:a5e P e=some z)
 (hn0:inf.size≠0) (hbig:n*inf.size≤2 ^ 24) (hp:a2a (fun i=>some (i*inf.size,inf.size)) parts.toList=some ps) (h:(K.bsl e inf.size n (List.replicate n z).flatten ps).wp P (evF (get env)) M.H M.nx C):Step P o a M C:=by
 obtain ⟨i',zv,z1,z2,z3,z4,z5⟩:=a5f hz;have:i'=inf:=by rw[hi]at z1;exact (Option.some.inj z1).symm
 subst this;simp only[K.wp]at h;obtain ⟨hok,hC⟩:=h;have hzl:z.length=i'.size:=by rw[← z3];simpa using z4
 have hmade:(madeCells zv.cells (n*i'.size)).toList=(List.replicate n z).flatten:=by
  apply List.ext_getElem?;intro j;by_cases hj:j<n*i'.size
  ·rw[b3Y z n j (by rw[hzl];exact hj),Array.getElem?_toList,a9e _ _ _ (by omega) hj,← z3];simp
  ·rw[List.getElem?_eq_none (by simp[size_madeCells];omega),List.getElem?_eq_none (by simp[hzl];omega)]
 obtain ⟨cells',q1,q2,q3⟩:=b0c (M:=M) he (fun i=>some (i*i'.size,i'.size)) parts.toList ps (((List.replicate n z).flatten).map AV.val) (madeCells zv.cells (n*i'.size)) hp (by rw[hmade];exact RL.vals _)
  (fun v hv=>by
    rw[hmade]at hv;obtain ⟨l,hl,hv⟩:=List.mem_flatten.1 hv;rw[List.eq_of_mem_replicate hl,← z3]at hv;exact z5 v (by simpa using hv)) (by simpa [hzl] using hok)
 have hlen:=q2.length;have hfl:(a5w (((List.replicate n z).flatten).map AV.val) (a1i (evF (get env)) ps)).length=n*i'.size:=by
  have:∀ (l:List (Nat × Nat × AV)) (zs:List AV),a3m zs.length l→(a5w zs l).length=zs.length:=by
   intro l
   induction l with
   | nil=>intro zs _;rfl
   | cons p l ih =>
    intro zs hk;obtain ⟨off,size,q⟩:=p;simp only[a3m]at hk;simp only[a5w];have e:(zs.take off++q.cells++zs.drop (off+q.cells.length)).length=zs.length:=by simp only[List.length_append,List.length_take,List.length_drop];omega
    rw[ih _ (by rw[e];exact hk.2.2.2),e]
  rw[this _ _ (by simpa [hzl] using hok)];simp[hzl]
 obtain ⟨M',m1,m2,m3,m4,m5,m6,m7,m8,m9⟩:=hR.fresh e i'.size M.nx hn0 _ cells' (by rw[← hlen];simp) (fun j x v hx hv=>by
  obtain ⟨u,r1,r2⟩:=q2.get _ _ hx;rw[Array.getElem?_toList,hv]at r1;cases r1;exact r2) rfl
 have hcs:cells'.size=n*i'.size:=by rw[← hfl,← hlen];simp
 refine Step.value m1 m2 m6 m7.rv (.slice (some ⟨M.w.heap.size,0,none⟩) n n) (.ref M.H.length M.nx 0 n) ?_ ?_ ?_
 ·have hq1:Instr.fill (fun i=>some (i*i'.size,i'.size)) ((Array.range (n*i'.size)).map (zv.cells[· % zv.cells.size]!)) (parts.map fun (i,x)=>(i,a.eval x)).toList=some cells':=by rw[a8f];exact q1
  have r0:Array.range 0 = #[]:=rfl;by_cases hz0:n*i'.size=0
  ·have hq2:Instr.fill (fun i=>some (i*i'.size,i'.size)) #[] (parts.map fun (i,x)=>(i,a.eval x)).toList=some cells':=by
    rw[hz0]at hq1;simpa [r0] using hq1
   rw[m3];simp at hq2;simp[execOp,ho,Instr.buildSlice,run_underlying ht,sizeOf,typeInfo,hi,hz0,newRow,r0];rw[hq2];simp
  ·rw[m3];simp at hq1;simp[execOp,ho,Instr.buildSlice,run_underlying ht,sizeOf,typeInfo,zeroValue,hi,z2,hz0,newRow];rw[hq1];simp;omega
 ·refine RV.fresh hn0 m4 m5 m8 m9 (Nat.le_refl _) ?_ (by rw[hfl];exact Nat.le_refl _) (.inr rfl) fun cur ty fr hcur=>?_
  ·simp only[maxLen];have:n*1≤n*i'.size:=Nat.mul_le_mul_left _ (by omega);omega
  ·rw[Nat.zero_add];rw[m3,heap_alloc_new]at hcur;injection hcur with hcur;injection hcur with hcur;rw[← hcur,hcs]
 ·rw[m4,m5];exact hC
theorem b6c {M':MM} {g ty:Nat} {xs:List AV} (hH:M'.H=M.H++[⟨M.nx,ty,1,xs⟩]) (hnx:M'.nx=M.nx+1) (hm:M'.m.getD M.H.length none=some g) (ho:M'.o M.H.length=0):RV M' (.ptr M.H.length M.nx 0) (.pointer (some ⟨g,0,none⟩)):=by
 simp only[RV];exact ⟨by omega,rfl,fun ob hob _=>⟨by
  rw[hH]at hob;rcases a2l hob with ⟨_,rfl⟩ | hob
  ·simp
  ·have:=(List.getElem?_eq_some_iff.1 hob).1;omega,g,hm,by rw[ho]⟩⟩
theorem c1a (hR:RH M) (he:EnvR M env a) {t:TypeId} {x:Operand} (ho:o.op = .box t x) (h:(K.box t x).wp P (evF (get env)) M.H M.nx C):Step P o a M C:=by
 have hx:=EnvR.ev he x;simp only[K.wp]at h;obtain ⟨hla,hC⟩:=h;obtain ⟨c1,c2⟩:=RV.cells hla hx;have hl:=c1.length;obtain ⟨M',m1,m2,m3,m4,m5,m6,m7,m8,m9⟩:=hR.fresh t 1 M.nx (by simp) _ (a.eval x).cells (by rw[← hl];simp) (fun j x v hx hv=>by
  obtain ⟨u,r1,r2⟩:=c1.get _ _ hx;rw[Array.getElem?_toList,hv]at r1;cases r1;exact r2) rfl
 refine Step.value m1 m2 m6 m7.rv (.pointer (some ⟨M.w.heap.size,0,none⟩)) (.ptr M.H.length M.nx 0) ?_ (b6c m4 m5 m8 m9) (by rw[m4,m5];exact hC);simp[execOp,ho,Instr.box,newVar,newRow,m3]
theorem c1b (hR:RH M) {t:TypeId} {z:List Value} (ho:o.op = .alloc t) (hz:a5e P t=some z) (h:(K.alc t z).wp P (evF (get env)) M.H M.nx C):Step P o a M C:=by
 obtain ⟨i,zv,z1,z2,z3,z4,z5⟩:=a5f hz;simp only[K.wp]at h;obtain ⟨M',m1,m2,m3,m4,m5,m6,m7,m8,m9⟩:=hR.fresh t 1 M.nx (by simp) (z.map AV.val) zv.cells (by simp[← z3]) (fun j x v hx hv=>by
  rw[List.getElem?_map,← z3]at hx;simp[hv]at hx;subst hx;simp only[RV]) rfl
 refine Step.value m1 m2 m6 m7.rv (.pointer (some ⟨M.w.heap.size,0,none⟩)) (.ptr M.H.length M.nx 0) ?_ (b6c m4 m5 m8 m9) (by rw[m4,m5];exact h);simp[execOp,ho,Instr.alloc,zeroValue,typeInfo,z1,z2,newVar,newRow,m3]
theorem b0d (hR:RH M) (he:EnvR M env a) {f:Operand} {c:Call} (ho:o.op = .call c) (hc:c.callee = .value f) (h:(K.call f c.args.toList).wp P (evF (get env)) M.H M.nx C):Step P o a M C:=by
 have hf:=EnvR.ev he f;have hargs:=EnvR.evs he c.args.toList;simp only[K.wp]at h;split at h
 ·rename_i g cs h1;rw[h1]at hf;rw[RV]at hf;obtain ⟨vs,p1,p2⟩:=hf;obtain ⟨⟨fn,c1,c2,c3⟩,hcall⟩:=h;intro Q K' hK;have hcalls:=hcall M _ hR rfl rfl (hargs.append p2);have hrun:(execOp a.eval o).run P M.w = .ok (.enter g ((c.args.toList.map a.eval)++vs).toArray) M.w:=by
   have e : #[]++c.args.map a.eval++vs.toArray=((c.args.toList.map a.eval)++vs).toArray:=by
    apply Array.ext';simp
   simp only[execOp,ho,resolve,hc,p1,Deferred.ofValue,Sem.run_bind,Sem.run_pure,Result.andThen_ok,invoke,callFunc,run_program,c1,c2,c3,e];simp
  unfold Oper.wp;rw[hrun];refine hcalls.mono fun e w' hres=>?_;obtain ⟨v,r,M',rfl,q2,q3,rfl,q5,q6,q7,q8⟩:=hres;exact hK v r M' q2 q3 q5 q6 q7 q8
 ·rename_i g cs h1;rw[h1]at hf;rw[RV]at hf;obtain ⟨vs,p1,p2⟩:=hf;obtain ⟨⟨fn,c1,c2,c3⟩,hcall⟩:=h;intro Q K' hK;have hcalls:=hcall M _ hR rfl rfl (p2.append hargs);have hrun:(execOp a.eval o).run P M.w = .ok (.enter g (vs++(c.args.toList.map a.eval)).toArray) M.w:=by
   have e:vs.toArray++c.args.map a.eval++#[]=(vs++(c.args.toList.map a.eval)).toArray:=by
    apply Array.ext';simp
   simp only[execOp,ho,resolve,hc,p1,Deferred.ofValue,Sem.run_bind,Sem.run_pure,Result.andThen_ok,invoke,callFunc,run_program,c1,c2,c3,e];simp
  unfold Oper.wp;rw[hrun];refine hcalls.mono fun e w' hres=>?_;obtain ⟨v,r,M',rfl,q2,q3,rfl,q5,q6,q7,q8⟩:=hres;exact hK v r M' q2 q3 q5 q6 q7 q8
 ·exact h.elim
theorem b0D {t:TypeId} {fs:Array Field} {places:List (Nat × Nat)} (hu:P.underlying t=some (.struct fs)) (hp:a8z P fs.toList=some places) (i:TypeInfo) (zv:Value) (l:List (Nat × Value)) (hi:P.info? t=some i) (hz:i.zero=some zv) :
 P.built t l=Instr.fill (fun j=>places[j]?) zv.cells l:=by
 unfold a8z at hp;unfold Program.built;simp only[hi,hu,hz,hp];simp
theorem b2v {t e:TypeId} {n:Nat} {ie:TypeInfo} (hu:P.underlying t=some (.array n e)) (he:P.info? e=some ie) (i:TypeInfo) (zv:Value) (l:List (Nat × Value)) (hi:P.info? t=some i) (hz:i.zero=some zv) :
 P.built t l=Instr.fill (fun j=>some (j*ie.size,ie.size)) zv.cells l:=by
 unfold Program.built;simp only[hi,hu,hz,he]
theorem b0e (hR:RH M) (he:EnvR M env a) {k:K} (hk:b1R P o.op=some k) (h:k.wp P (evF (get env)) M.H M.nx C):Step P o a M C:=by
 cases hop:o.op<;>rw[hop]at hk<;>simp only[b1R]at hk<;>try (cases hk;done)
 case move x=>cases hk;exact (b2f hR he (.inl hop) h).step hR
 case assign x=>cases hk;exact (b2f hR he (.inr hop) h).step hR
 case pick c x y=>cases hk;exact (b3T hR he hop h).step hR
 case load t x =>
  split at hk
  ·rename_i ag n hl;cases hk;exact (b4J hR he hop hl h).step hR
  ·cases hk
 case store t x y =>
  split at hk
  ·rename_i ag n hl;cases hk;exact c0Q hR he hop hl h
  ·cases hk
 case indexAddr t x i =>
  split at hk
  ·rename_i e hu;split at hk
   ·rename_i inf hi;split at hk
    ·cases hk
    ·cases hk;exact (b5M hR he hop hu hi h).step hR
   ·cases hk
  ·rename_i len e hu;split at hk
   ·rename_i ag n hl;split at hk
    ·cases hk
    ·cases hk;exact (b3U hR he hop hu hl h).step hR
   ·cases hk
  ·cases hk
 case fieldAddr t x f =>
  split at hk
  ·rename_i off ag n hf;cases hk;exact (b5N hR he hop hf h).step hR
  ·cases hk
 case field t x f =>
  split at hk
  ·rename_i off ag n hf;cases hk;exact (b5O hR he hop hf h).step hR
  ·cases hk
 case binOp op t x y t' =>
  split at hk
  ·cases hk;exact (a9c hR he hop h).step hR
  ·cases hk;exact (a9c hR he hop h).step hR
  ·rename_i hu;split at hk
   ·cases hk;exact (a9d (neg:=false) hR he hop hu h).step hR
   ·cases hk;exact (a9d (neg:=true) hR he hop hu h).step hR
   ·cases hk
  ·rename_i hu;split at hk
   ·rename_i hn;have hn:=c0O hn;subst hn;split at hk
    ·cases hk;exact (a7N (neg:=false) hR he hop hu h).step hR
    ·cases hk;exact (a7N (neg:=true) hR he hop hu h).step hR
    ·cases hk
   ·cases hk
  ·rename_i hu;split at hk
   ·rename_i hn;have hn:=c0N hn;subst hn;split at hk
    ·cases hk;exact b4a (neg:=false) hR he hop hu h
    ·cases hk;exact b4a (neg:=true) hR he hop hu h
    ·cases hk
   ·cases hk
  ·split at hk
   ·cases hk
   ·rename_i hg;simp only[not_or,Bool.not_eq_true,Bool.not_eq_false]at hg;split at hk
    ·rename_i ks hf;split at hk
     ·cases hk;exact (a9f (neg:=false) hR he hop hg.1 hg.2 hf h).step hR
     ·cases hk;exact (a9f (neg:=true) hR he hop hg.1 hg.2 hf h).step hR
     ·cases hk
    ·cases hk
  ·cases hk
 case index t x i =>
  split at hk
  ·rename_i hu;cases hk;exact (b5W hR he hop hu h).step hR
  ·rename_i len e hu;split at hk
   ·rename_i ag n hl;split at hk
    ·cases hk
    ·cases hk;exact (b5X hR he hop hu hl h).step hR
   ·cases hk
  ·cases hk
 case unOp op t x=>cases hk;exact (b8G hR he hop h).step hR
 case convert s d x =>
  split at hk
  ·rename_i q k' h1 h2;cases hk;exact (b3W hR he hop h2 ⟨_,h1⟩ h).step hR
  ·rename_i e h1 h2;split at hk
   ·rename_i hb;cases hk;exact (b5Z hR he hop h1 h2 hb h).step hR
   ·cases hk
  ·rename_i e h1 h2;split at hk
   ·rename_i hb;cases hk;exact c0Y hR he hop h1 h2 hb h
   ·cases hk
  ·cases hk
 case slice t x lo hi mx =>
  cases mx with
  | some m=>simp at hk
  | none =>
   simp only at hk;split at hk
   ·rename_i e hu;split at hk
    ·rename_i inf hi;cases hk;exact (b8H hR he hop hu hi h).step hR
    ·cases hk
   ·rename_i hu;cases hk;exact (b5U hR he hop hu h).step hR
   ·cases hk
 case makeSlice t n c =>
  split at hk
  ·rename_i e hu;split at hk
   ·rename_i inf z hi hz;split at hk
    ·cases hk
    ·rename_i hn;cases hk;exact c3a hR he hop hu hi hz hn h
   ·cases hk
  ·cases hk
 case buildSlice t n parts =>
  split at hk
  ·rename_i e hu;split at hk
   ·rename_i inf z hi hz;split at hk
    ·cases hk
    ·rename_i hn;split at hk
     ·rename_i ps hp;cases hk;exact c0Z hR he hop hu hi hz (fun e=>hn (.inl e)) (by omega) hp h
     ·cases hk
   ·cases hk
  ·cases hk
 case build t parts =>
  split at hk
  ·rename_i fields hu;split at hk
   ·rename_i z places hz hpl;split at hk
    ·rename_i ps hp;cases hk;exact (a9g hR he hop hz (b0D hu hpl) hp h).step hR
    ·cases hk
   ·cases hk
  ·rename_i n e hu;split at hk
   ·rename_i inf z hi hz;split at hk
    ·rename_i ps hp;cases hk;exact (a9g hR he hop hz (b2v hu hi) hp h).step hR
    ·cases hk
   ·cases hk
  ·cases hk
 case box t x=>cases hk;exact c1a hR he hop h
 case alloc t =>
  split at hk
  ·rename_i z hz;cases hk;exact c1b hR hop hz h
  ·cases hk
 case makeFunc fn first captured =>
  cases fn with
  | func f =>
   simp only at hk;split at hk
   ·rename_i hf;cases hk;exact (b5S hR he hop hf h).step hR
   ·split at hk
    ·rename_i hf;cases hk;exact (b5T hR he hop hf h).step hR
    ·cases hk
  | _=>simp at hk
 case nilCheck x=>cases hk;exact (b5Q hR he hop h).step hR
 case extract x i=>cases hk;exact (b5R hR he hop h).step hR
 case makeMap t r =>
  cases r with
  | some r=>simp at hk
  | none =>
   simp only at hk;split at hk
   ·cases hk;exact c0W hR hop h
   ·cases hk
 case mapUpdate t m k v =>
  split at hk
  ·rename_i kt e hu;split at hk
   ·rename_i k0 h1;cases hk;exact b6a hR he (.inl hop) hu h1 h
   ·cases hk
  ·cases hk
 case insert t m k v =>
  split at hk
  ·rename_i kt e hu;split at hk
   ·rename_i k0 h1;cases hk;exact b6a hR he (.inr hop) hu h1 h
   ·cases hk
  ·cases hk
 case lookup t x i ok =>
  split at hk
  ·rename_i kt e hu;split at hk
   ·rename_i k0 z h1 h2;cases hk;exact (b4b hR he hop hu h1 h2 h).step hR
   ·cases hk
  ·cases hk
 case call c =>
  split at hk
  ·rename_i f hc;split at hk
   ·cases hk;exact b0d hR he hop hc h
   ·split at hk
    ·cases hk;exact b0d hR he hop hc h
    ·cases hk;exact b0d hR he hop hc h
  ·rename_i hc;split at hk
   ·rename_i x t ha hat;split at hk
    ·rename_i e hu;cases hk;exact (b5P hR he hop hc ha hat hu h).step hR
    ·rename_i hu;cases hk;exact (b3V hR he hop hc ha hat hu h).step hR
    ·rename_i n e hu;cases hk;refine Step.quiet hR (.int .i64 n) _ ?_ (EnvR.ev he (.const (.int .i64 n))) h;have ha':c.args = #[x]:=by rw[← Array.toArray_toList (xs:=c.args),ha]
     have hat':c.argTypes = #[t]:=by rw[← Array.toArray_toList (xs:=c.argTypes),hat]
     simp[execOp,hop,resolve,hc,ha',hat',invoke,builtin,Builtin.len_,run_underlying hu,goInt]
    ·rename_i kt e hu;cases hk;exact (b4c hR he hop hc ha hat hu h).step hR
    ·cases hk
   ·cases hk
  ·rename_i hc;split at hk
   ·rename_i x y ha;cases hk;exact (b2h (mx:=true) hR he hop hc ha h).step hR
   ·cases hk
  ·rename_i hc;split at hk
   ·rename_i x y ha;cases hk;exact (b2h (mx:=false) hR he hop hc ha h).step hR
   ·cases hk
  ·rename_i hc;split at hk
   ·rename_i x t ha hat;split at hk
    ·rename_i e hu;split at hk
     ·rename_i z hz;split at hk
      ·rename_i h1;cases hk;exact c0V hR he hop hc ha hat hu hz h1 h
      ·cases hk
     ·cases hk
    ·cases hk
   ·cases hk
  ·rename_i hc;split at hk
   ·rename_i x y t t' ha hat;split at hk
    ·rename_i e e' hu hu';split at hk
     ·rename_i inf hi;split at hk
      ·cases hk
      ·cases hk;exact c0U hR he hop hc ha hat hu hu' hi h
     ·cases hk
    ·cases hk
   ·cases hk
  ·rename_i hc;split at hk
   ·rename_i x y t t' ha hat;split at hk
    ·rename_i htt;subst htt;split at hk
     ·rename_i e hu;split at hk
      ·rename_i inf z hi hz;split at hk
       ·cases hk
       ·rename_i hn;cases hk;exact c0S hR he hop hc ha hat hu hi hz hn h
      ·cases hk
     ·cases hk
    ·cases hk
   ·cases hk
  ·cases hk
theorem b7L (hR:RH M) (he:EnvR M env a) {k:K} (hk:b1R P o.op=some k) (hq:k.quiet=true) (h:k.wp P (evF (get env)) M.H M.nx C):QStep P o a M C:=by
 cases hop:o.op<;>rw[hop]at hk<;>simp only[b1R]at hk<;>try (cases hk;done)
 case move x=>cases hk;exact (b2f hR he (.inl hop) h)
 case assign x=>cases hk;exact (b2f hR he (.inr hop) h)
 case pick c x y=>cases hk;exact (b3T hR he hop h)
 case load t x =>
  split at hk
  ·rename_i ag n hl;cases hk;exact (b4J hR he hop hl h)
  ·cases hk
 case store t x y =>
  split at hk
  ·rename_i ag n hl;cases hk;simp[K.quiet]at hq
  ·cases hk
 case indexAddr t x i =>
  split at hk
  ·rename_i e hu;split at hk
   ·rename_i inf hi;split at hk
    ·cases hk
    ·cases hk;exact (b5M hR he hop hu hi h)
   ·cases hk
  ·rename_i len e hu;split at hk
   ·rename_i ag n hl;split at hk
    ·cases hk
    ·cases hk;exact (b3U hR he hop hu hl h)
   ·cases hk
  ·cases hk
 case fieldAddr t x f =>
  split at hk
  ·rename_i off ag n hf;cases hk;exact (b5N hR he hop hf h)
  ·cases hk
 case field t x f =>
  split at hk
  ·rename_i off ag n hf;cases hk;exact (b5O hR he hop hf h)
  ·cases hk
 case binOp op t x y t' =>
  split at hk
  ·cases hk;exact (a9c hR he hop h)
  ·cases hk;exact (a9c hR he hop h)
  ·rename_i hu;split at hk
   ·cases hk;exact (a9d (neg:=false) hR he hop hu h)
   ·cases hk;exact (a9d (neg:=true) hR he hop hu h)
   ·cases hk
  ·rename_i hu;split at hk
   ·rename_i hn;have hn:=c0O hn;subst hn;split at hk
    ·cases hk;exact (a7N (neg:=false) hR he hop hu h)
    ·cases hk;exact (a7N (neg:=true) hR he hop hu h)
    ·cases hk
   ·cases hk
  ·rename_i hu;split at hk
   ·rename_i hn;have hn:=c0N hn;subst hn;split at hk
    ·cases hk;simp[K.quiet]at hq
    ·cases hk;simp[K.quiet]at hq
    ·cases hk
   ·cases hk
  ·split at hk
   ·cases hk
   ·rename_i hg;simp only[not_or,Bool.not_eq_true,Bool.not_eq_false]at hg;split at hk
    ·rename_i ks hf;split at hk
     ·cases hk;exact (a9f (neg:=false) hR he hop hg.1 hg.2 hf h)
     ·cases hk;exact (a9f (neg:=true) hR he hop hg.1 hg.2 hf h)
     ·cases hk
    ·cases hk
  ·cases hk
 case index t x i =>
  split at hk
  ·rename_i hu;cases hk;exact (b5W hR he hop hu h)
  ·rename_i len e hu;split at hk
   ·rename_i ag n hl;split at hk
    ·cases hk
    ·cases hk;exact (b5X hR he hop hu hl h)
   ·cases hk
  ·cases hk
 case unOp op t x=>cases hk;exact (b8G hR he hop h)
 case convert s d x =>
  split at hk
  ·rename_i q k' h1 h2;cases hk;exact (b3W hR he hop h2 ⟨_,h1⟩ h)
  ·rename_i e h1 h2;split at hk
   ·rename_i hb;cases hk;exact (b5Z hR he hop h1 h2 hb h)
   ·cases hk
  ·rename_i e h1 h2;split at hk
   ·rename_i hb;cases hk;simp[K.quiet]at hq
   ·cases hk
  ·cases hk
 case slice t x lo hi mx =>
  cases mx with
  | some m=>simp at hk
  | none =>
   simp only at hk;split at hk
   ·rename_i e hu;split at hk
    ·rename_i inf hi;cases hk;exact (b8H hR he hop hu hi h)
    ·cases hk
   ·rename_i hu;cases hk;exact (b5U hR he hop hu h)
   ·cases hk
 case makeSlice t n c =>
  split at hk
  ·rename_i e hu;split at hk
   ·rename_i inf z hi hz;split at hk
    ·cases hk
    ·cases hk;simp[K.quiet]at hq
   ·cases hk
  ·cases hk
 case buildSlice t n parts =>
  split at hk
  ·rename_i e hu;split at hk
   ·rename_i inf z hi hz;split at hk
    ·cases hk
    ·rename_i hn;split at hk
     ·rename_i ps hp;cases hk;simp[K.quiet]at hq
     ·cases hk
   ·cases hk
  ·cases hk
 case build t parts =>
  split at hk
  ·rename_i fields hu;split at hk
   ·rename_i z places hz hpl;split at hk
    ·rename_i ps hp;cases hk;exact (a9g hR he hop hz (b0D hu hpl) hp h)
    ·cases hk
   ·cases hk
  ·rename_i n e hu;split at hk
   ·rename_i inf z hi hz;split at hk
    ·rename_i ps hp;cases hk;exact (a9g hR he hop hz (b2v hu hi) hp h)
    ·cases hk
   ·cases hk
  ·cases hk
 case box t x=>cases hk;simp[K.quiet]at hq
 case alloc t =>
  split at hk
  ·rename_i z hz;cases hk;simp[K.quiet]at hq
  ·cases hk
 case makeFunc fn first captured =>
  cases fn with
  | func f =>
   simp only at hk;split at hk
   ·rename_i hf;cases hk;exact (b5S hR he hop hf h)
   ·split at hk
    ·rename_i hf;cases hk;exact (b5T hR he hop hf h)
    ·cases hk
  | _=>simp at hk
 case nilCheck x=>cases hk;exact (b5Q hR he hop h)
 case extract x i=>cases hk;exact (b5R hR he hop h)
 case makeMap t r =>
  cases r with
  | some r=>simp at hk
  | none =>
   simp only at hk;split at hk
   ·cases hk;simp[K.quiet]at hq
   ·cases hk
 case mapUpdate t m k v =>
  split at hk
  ·rename_i kt e hu;split at hk
   ·rename_i k0 h1;cases hk;simp[K.quiet]at hq
   ·cases hk
  ·cases hk
 case insert t m k v =>
  split at hk
  ·rename_i kt e hu;split at hk
   ·rename_i k0 h1;cases hk;simp[K.quiet]at hq
   ·cases hk
  ·cases hk
 case lookup t x i ok =>
  split at hk
  ·rename_i kt e hu;split at hk
   ·rename_i k0 z h1 h2;cases hk;exact (b4b hR he hop hu h1 h2 h)
   ·cases hk
  ·cases hk
 case call c =>
  split at hk
  ·rename_i f hc;split at hk
   ·cases hk;simp[K.quiet]at hq
   ·split at hk<;>(cases hk;simp[K.quiet]at hq)
  ·rename_i hc;split at hk
   ·rename_i x t ha hat;split at hk
    ·rename_i e hu;cases hk;exact (b5P hR he hop hc ha hat hu h)
    ·rename_i hu;cases hk;exact (b3V hR he hop hc ha hat hu h)
    ·rename_i n e hu;cases hk;refine QStep.mk hR (.int .i64 n) _ ?_ (EnvR.ev he (.const (.int .i64 n))) h;have ha':c.args = #[x]:=by rw[← Array.toArray_toList (xs:=c.args),ha]
     have hat':c.argTypes = #[t]:=by rw[← Array.toArray_toList (xs:=c.argTypes),hat]
     simp[execOp,hop,resolve,hc,ha',hat',invoke,builtin,Builtin.len_,run_underlying hu,goInt]
    ·rename_i kt e hu;cases hk;exact (b4c hR he hop hc ha hat hu h)
    ·cases hk
   ·cases hk
  ·rename_i hc;split at hk
   ·rename_i x y ha;cases hk;exact (b2h (mx:=true) hR he hop hc ha h)
   ·cases hk
  ·rename_i hc;split at hk
   ·rename_i x y ha;cases hk;exact (b2h (mx:=false) hR he hop hc ha h)
   ·cases hk
  ·rename_i hc;split at hk
   ·rename_i x t ha hat;split at hk
    ·rename_i e hu;split at hk
     ·rename_i z hz;split at hk
      ·rename_i h1;cases hk;simp[K.quiet]at hq
      ·cases hk
     ·cases hk
    ·cases hk
   ·cases hk
  ·rename_i hc;split at hk
   ·rename_i x y t t' ha hat;split at hk
    ·rename_i e e' hu hu';split at hk
     ·rename_i inf hi;split at hk
      ·cases hk
      ·cases hk;simp[K.quiet]at hq
     ·cases hk
    ·cases hk
   ·cases hk
  ·rename_i hc;split at hk
   ·rename_i x y t t' ha hat;split at hk
    ·rename_i htt;subst htt;split at hk
     ·rename_i e hu;split at hk
      ·rename_i inf z hi hz;split at hk
       ·cases hk
       ·cases hk;simp[K.quiet]at hq
      ·cases hk
     ·cases hk
    ·cases hk
   ·cases hk
  ·cases hk
end
end Go.V
