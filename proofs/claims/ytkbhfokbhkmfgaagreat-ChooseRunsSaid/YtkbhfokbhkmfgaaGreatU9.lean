/- The engine, part 9: functions: entry, results, calls of functions with a contract; and what may be forgotten, or taken for something nobody writes to. No condition. -/
import Derived.Test.YtkbhfokbhkmfgaaGreatU8
set_option linter.unusedVariables false
set_option linter.unusedSimpArgs false
namespace Go.V
open Go.RowKit
inductive VR where
 | tmp (t:Nat)
 | cell (t:Nat) (ag:Bool) (n:Nat)
deriving Inhabited
def VR.wp (P:Program) (st:St) (C:AV→Prop):VR→Prop
 | .tmp t=>C (get st.env t)
 | .cell t ag n=>(K.ld ag n (.tmp t)).wp P (evF (get st.env)) st.H st.nx fun r _ _=>C r
def VRs (P:Program) (st:St):List VR→(List AV→Prop)→Prop
 | [],C=>C []
 | r::rs,C=>r.wp P st fun x=>VRs P st rs fun xs=>C (x::xs)
def b7O (P:Program) (st:St) (C:AV→Prop):List VR→Prop
 | [r]=>r.wp P st C
 | rs=>VRs P st rs fun xs=>C (.tup xs)
def a7X (P:Program):List ResultVar→Option (List VR)
 | []=>some []
 | .tmp t::l=>match a7X P l with
  | some r=>some (.tmp t::r)
  | none=>none
 | .cell t ty::l=>match a9b P ty,a7X P l with
  | some (ag,n),some r=>some (.cell t ag n::r)
  | _,_=>none
def b4j (P:Program) (pt pf:Bool) (f:Nat):Option (Nat × VC × List VR) :=
 match P.funcs[f]? with
 | some fn=>match fn.body with
  | some c => if fn.name == "runtime.NumGoroutine" then none else
   match a3n P fn.ntmps pt pf c,a7X P fn.results.toList with
   | some vc,some rs=>some (fn.ntmps,vc,rs)
   | _,_=>none
  | none=>none
 | none=>none
def b2z (P:Program) (pt:Bool) (f:Nat):Option (Nat × VC × List VR):=b4j P pt false f
def a0z (P:Program) (f:Nat):Option (Nat × VC × List VR):=b2z P false f
def a2A:Nat→List AV→List (Nat × AV)
 | _,[]=>[]
 | i,x::xs=>(i,x)::a2A (i+1) xs
section
variable {P:Program}
theorem a7R:∀ (xs:List AV) (i t:Nat),get (a2A i xs) t=if i≤t then (xs[t-i]?).getD .dead else .dead
 | [],i,t=>by simp[a2A,get]
 | x::xs,i,t=>by
  simp only[a2A,get];split
  ·rename_i h;subst h;simp
  ·rename_i h;rw[a7R xs (i+1) t];by_cases h1:i≤t
   ·rw[if_pos h1,if_pos (by omega),show t-i=(t-(i+1))+1 by omega,List.getElem?_cons_succ]
   ·rw[if_neg h1,if_neg (by omega)]
def b9Y (tmps:Array Value):ResultVar→Sem Value
 | .tmp t=>pure (tmps.getD t undef)
 | .cell t ty=>do loadVar ty (← asAddr (tmps.getD t undef))
theorem b9Z (fn:Func) (tmps:Array Value):results fn tmps=(do let vs ← fn.results.mapM (b9Y tmps);pure (if h:vs.size=1 then vs[0] else .tuple vs)):=by
 unfold results;congr 2
theorem VR.sound {M:MM} {env:List (Nat × AV)} {a:Act} (hR:RH M) (he:EnvR M env a) {C:AV→Prop} {rv:ResultVar} {r:VR} (hc:a7X P [rv]=some [r]) (h:r.wp P ⟨env,M.H,M.nx⟩ C) :
 ∃ v x,(b9Y a.tmps rv).run P M.w = .ok v M.w∧RV M x v∧C x:=by
 cases rv with
 | tmp t =>
  simp only[a7X,Option.some.injEq,List.cons.injEq,and_true]at hc;subst hc;exact ⟨_,_,rfl,he t,h⟩
 | cell t ty =>
  simp only[a7X]at hc;split at hc
  ·rename_i ag n r' hl hr;simp only[Option.some.injEq]at hr;subst hr;simp only[Option.some.injEq,List.cons.injEq,and_true]at hc;subst hc;simp only[VR.wp]at h;obtain ⟨v, x, h1, h2, h3⟩ := b4J (o := { dst := none, op := .load ty (.tmp t), type := 0, pos := "", after := #[], guard := none }) (a := a) hR he rfl hl h
   refine ⟨v,x,?_,h2,h3⟩;simp only[execOp,Instr.loadAt,Act.eval]at h1;have:∃ ad,a.tmps.getD t undef = .pointer (some ad):=by
    have hx:=he t;simp only[K.wp,evF]at h;split at h
    ·rename_i y hy;rw[hy]at hx;simp only[RV,RV0]at hx;obtain ⟨b,off,u,e,_⟩:=hx;exact ⟨_,e⟩
    ·rename_i id s off hy;rw[hy]at hx;split at h
     ·rename_i ob hob;obtain ⟨g,_,e⟩:=a9Y hx hob h.1;exact ⟨_,e⟩
     ·exact h.elim
    ·exact h.elim
   obtain ⟨ad,e⟩:=this;simp only[b9Y];rw[e]at h1 ⊢;simp only[Instr.sureAddr,Sem.run_bind,Sem.run_pure,Result.andThen_ok,asAddr]at h1 ⊢;cases hq:(loadVar ty ad).run P M.w with
   | ok u w'=>rw[hq]at h1;simp at h1;rw[h1.1,h1.2]
   | halt x w'=>rw[hq]at h1;simp at h1
  ·cases hc
theorem b4k {rv:ResultVar} {l:List ResultVar} {rs:List VR} (h:a7X P (rv::l)=some rs):∃ r rs',rs=r::rs'∧a7X P [rv]=some [r]∧a7X P l=some rs':=by
 cases rv with
 | tmp t =>
  simp only[a7X]at h ⊢;split at h
  ·rename_i r hr;cases h;exact ⟨_,_,rfl,rfl,hr⟩
  ·cases h
 | cell t ty =>
  simp only[a7X]at h ⊢;split at h
  ·rename_i ag n r hl hr;cases h;exact ⟨_,_,rfl,by simp[hl],hr⟩
  ·cases h
theorem VRs.sound {M:MM} {env:List (Nat × AV)} {a:Act} (hR:RH M) (he:EnvR M env a):∀ (l:List ResultVar) (rs:List VR) (C:List AV→Prop),a7X P l=some rs→VRs P ⟨env,M.H,M.nx⟩ rs C →
 ∃ vs xs,(l.mapM (b9Y a.tmps)).run P M.w = .ok vs M.w∧RL M xs vs∧C xs∧vs.length=l.length
 | [],rs,C,hc,h=>by
  simp only[a7X,Option.some.injEq]at hc;subst hc;exact ⟨[],[],by simp,by simp[RL],h,rfl⟩
 | rv::l,rs,C,hc,h=>by
  obtain ⟨r,rs',rfl,h1,h2⟩:=b4k hc;simp only[VRs]at h;obtain ⟨v,x,e1,e2,e3⟩:=VR.sound hR he h1 h;obtain ⟨vs,xs,f1,f2,f3,f4⟩:=VRs.sound hR he l rs' _ h2 e3;refine ⟨v::vs,x::xs,?_,by simp only[RL];exact ⟨v,vs,rfl,e2,f2⟩,f3,by simp[f4]⟩;rw[List.mapM_cons];simp only[Sem.run_bind,e1,Result.andThen_ok,f1,Sem.run_pure]
theorem b0h {M:MM} {env:List (Nat × AV)} {a:Act} (hR:RH M) (he:EnvR M env a) {fn:Func} {rs:List VR} {C:AV→Prop} (hc:a7X P fn.results.toList=some rs) (h:b7O P ⟨env,M.H,M.nx⟩ C rs) :
 ∃ v x,(results fn a.tmps).run P M.w = .ok v M.w∧RV M x v∧C x:=by
 have main:∀ (C':List AV→Prop),VRs P ⟨env,M.H,M.nx⟩ rs C'→∃ vs xs,(fn.results.mapM (b9Y a.tmps)).run P M.w = .ok vs M.w∧RL M xs vs.toList∧C' xs∧vs.size=fn.results.size:=fun C' h'=>by
  obtain ⟨vs,xs,f1,f2,f3,f4⟩:=VRs.sound hR he fn.results.toList rs C' hc h';refine ⟨vs.toArray,xs,?_,by simpa using f2,f3,by simpa using f4⟩;rw[Array.mapM_eq_mapM_toList];simp only[Sem.run_map,f1,Result.andThen_ok]
 have run:∀ {vs:Array Value},(fn.results.mapM (b9Y a.tmps)).run P M.w = .ok vs M.w→(results fn a.tmps).run P M.w = .ok (if h:vs.size=1 then vs[0] else .tuple vs) M.w:=fun {vs} e=>by
  rw[b9Z];simp only[Sem.run_bind,e,Result.andThen_ok,Sem.run_pure]
 unfold b7O at h;split at h
 ·rename_i r;obtain ⟨vs,xs,f1,f2,f3,f4⟩:=main (fun xs=>∃ x,xs=[x]∧C x) (by
   simp only[VRs];cases r with
   | tmp t=>exact ⟨_,rfl,h⟩
   | cell t ag n =>
    simp only[VR.wp]at h ⊢;simp only[K.wp]at h ⊢;split at h
    ·exact ⟨h.1,_,rfl,h.2⟩
    ·split at h
     ·rename_i hob;exact ⟨h.1,h.2.1,_,rfl,h.2.2⟩
     ·exact h.elim
    ·exact h.elim)
  obtain ⟨x,rfl,hC⟩:=f3;have hr:=run f1;have h1:=f2.length;simp only[Array.length_toList,List.length_singleton]at h1;rw[dif_pos h1]at hr;refine ⟨vs[0],x,hr,?_,hC⟩;simp only[RL]at f2;obtain ⟨v,vs',e1,e2,e3⟩:=f2;have:vs[0]=v:=by
   have:vs.toList[0]? = some v:=by rw[e1];rfl
   rw[Array.getElem?_toList,Array.getElem?_eq_getElem (by omega)]at this;exact Option.some.inj this
  rw[this];exact e2
 ·rename_i hne;obtain ⟨vs,xs,f1,f2,f3,f4⟩:=main _ h;have hr:=run f1;have h1:¬ vs.size=1:=by
   intro e;have hl:fn.results.toList.length=1:=by simp;omega
   match hq:fn.results.toList,hl with
   | [rv],_ =>
    rw[hq]at hc;obtain ⟨r,rs',rfl,_,h2⟩:=b4k hc;simp only[a7X,Option.some.injEq]at h2;subst h2;exact hne r rfl
  rw[dif_neg h1]at hr;refine ⟨_,_,hr,?_,f3⟩;simp only[RV];exact ⟨vs.toList,by simp,f2⟩
def a8D (P:Program) (rs:List VR) (C:AV→List VObj→Nat→Prop):VE→St→Prop
 | .normal,st=>b7O P st (fun r=>C r st.H st.nx) rs
 | .ret,st=>b7O P st (fun r=>C r st.H st.nx) rs
 | .exit _,_=>False
theorem VCall.of_bodyQ (hm:P.follows .mixedOrders=true) {pt pf:Bool} {f N:Nat} {vc:VC} {rs:List VR} (hf:b4j P pt pf f=some (N,vc,rs)) {args:List AV} (hargs:args.length≤N) {H:List VObj} {nx:Nat} {C:AV→List VObj→Nat→Prop}
 (h:VW P vc (a8D P rs C) ⟨a2A 0 args,H,nx⟩):VCall P f args H nx C:=by
 unfold b4j at hf;split at hf
 ·rename_i fn hfn;split at hf
  ·rename_i c hb;split at hf
   ·cases hf
   ·rename_i hname;split at hf
    ·rename_i vc' rs' hc hr;cases hf;refine ⟨⟨fn,hfn,by simpa using hname,by simp[hb]⟩,fun M vs hR hH hnx hvs=>?_⟩;subst hH;subst hnx;have hlen:=hvs.length;refine calls_of_wp hfn hb ?_;have he:EnvR M (a2A 0 args) { tmps:=vs.toArray++Array.replicate (fn.ntmps-vs.toArray.size) undef,defers:=[] }:=by
      intro t;rw[a7R];simp only[Nat.zero_le,if_true,Nat.sub_zero];cases ht:args[t]? with
      | none=>simp only[Option.getD_none,RV]
      | some x =>
       obtain ⟨v,e1,e2⟩:=hvs.get _ _ ht;have hlt:t<vs.length:=(List.getElem?_eq_some_iff.1 e1).1;have:(vs.toArray++Array.replicate (fn.ntmps-vs.toArray.size) undef).getD t undef=v:=by
        have e3:(vs.toArray++Array.replicate (fn.ntmps-vs.toArray.size) undef)[t]? = some v:=by
         rw[Array.getElem?_append_left (by simpa using hlt)];simpa using e1
        rw[Array.getD_eq_getD_getElem?,e3];rfl
       simp only[Option.getD_some];rw[this];exact e2
     refine wp_mono (a3l hm c vc hc (a8D P rs C) M _ _ hR he (by simp;omega) rfl h) fun e a' w' hp=>?_;obtain ⟨M',env',p1,p2,rfl,p4,p5,p6,p7,p8,p9⟩:=hp;have fin:b7O P ⟨env',M'.H,M'.nx⟩ (fun r=>C r M'.H M'.nx) rs→a'.defers=[]∧∃ v,(results fn a'.tmps).run P M'.w = .ok v M'.w∧∃ v' r M'',Ending.returned v = .returned v'∧M''.I0=M.I0∧M''.w0=M.w0∧M''.w=M'.w∧RH M''∧KeepRV M M''∧RV M'' r v'∧C r M''.H M''.nx:=fun hw=>by
      obtain ⟨v,x,r1,r2,r3⟩:=b0h p4 p6 hr hw;exact ⟨p8,v,r1,v,x,M',rfl,p1,p2,rfl,p4,p5,r2,r3⟩
     cases e with
     | normal=>exact fin p9
     | ret=>exact fin p9
     | exit id=>exact p9.elim
     | goto l=>exact p9.elim
     | panic ch=>exact p9.elim
     | outgrown=>exact p9.elim
    ·cases hf
  ·cases hf
 ·cases hf
theorem VCall.of_bodyP (hm:P.follows .mixedOrders=true) {pt:Bool} {f N:Nat} {vc:VC} {rs:List VR} (hf:b2z P pt f=some (N,vc,rs)) {args:List AV} (hargs:args.length≤N) {H:List VObj} {nx:Nat} {C:AV→List VObj→Nat→Prop}
 (h:VW P vc (a8D P rs C) ⟨a2A 0 args,H,nx⟩):VCall P f args H nx C:=VCall.of_bodyQ hm hf hargs h
theorem VCall.of_body (hm:P.follows .mixedOrders=true) {f N:Nat} {vc:VC} {rs:List VR} (hf:a0z P f=some (N,vc,rs)) {args:List AV} (hargs:args.length≤N) {H:List VObj} {nx:Nat} {C:AV→List VObj→Nat→Prop}
 (h:VW P vc (a8D P rs C) ⟨a2A 0 args,H,nx⟩):VCall P f args H nx C:=VCall.of_bodyP hm hf hargs h
def Drop (M:MM) (n:Nat) (b:Nat):Prop:=(M.I0 b∨(M.w0.heap.size≤b∧b<M.w.heap.size))∧∀ id,id<n→M.m.getD id none≠some b
def Frz (n:Nat) (H:List VObj) (nx:Nat) (x y:AV):Prop:=∀ (M:MM),RH M→M.H=H→M.nx=nx→∀ v,RV M x v→RV0 M.w (Drop M n) y v
theorem Contract.of_call {f:Nat} {args:List AV} {C:AV→Prop} (h:VCall P f args [] 0 fun r H nx=>∃ y,Frz 0 H nx r y∧C y):Contract P f args C:=by
 refine ⟨h.1,fun I w vs hI hvs=>?_⟩;have hR:RH ⟨I,w,w,[],[],0,fun _=>0⟩:=⟨Below.refl _ _,hI,rfl,fun i j g hi=>by simp at hi,fun id ob ho=>by simp at ho⟩
 have hII:∀ b,I b→MM.I ⟨I,w,w,[],[],0,fun _=>0⟩ b:=fun b hb=>⟨.inl hb,fun id=>by simp⟩
 refine (h.2 ⟨I,w,w,[],[],0,fun _=>0⟩ vs hR rfl rfl (RL.of0 (RL0.mono hII (fun _ _ _ _ _ h=>h) _ _ hvs))).mono fun e w' hp=>?_;obtain ⟨v,r,M',rfl,p2,p3,rfl,p5,p6,p7,y,p8,p9⟩:=hp;refine ⟨v,y,rfl,?_,?_,p9⟩
 ·have:=p8 M' p5 rfl rfl v p7;refine RV0.mono (fun b hb=>?_) (fun _ _ _ _ _ h=>h) _ _ this;have h1:=hb.1;rw[p2,p3]at h1;exact h1
 ·have:=p5.below;rw[p3]at this;exact this
end
theorem Drop.of {M:MM} {n b:Nat} (h:M.I b):Drop M n b:=⟨h.1,fun id _=>h.2 id⟩
theorem Frz.pure {n:Nat} {H:List VObj} {nx:Nat} {x:AV} (h:x.pure=true):Frz n H nx x x:=fun _ _ _ _ v r =>
 RV0.mono (fun _ hb=>Drop.of hb) (fun _ _ _ _ _ h=>h) x v (RV.pure h r)
theorem Frz.nil {n:Nat} {H:List VObj} {nx:Nat} (sz:Nat):Frz n H nx (.val (.slice none 0 0)) (.imm sz []):=fun M hR _ _ v r =>
 RV0.mono (fun _ hb=>Drop.of hb) (fun _ _ _ _ _ h=>h) _ v (Sle.nil sz M hR v r)
def FrzL (n:Nat) (H:List VObj) (nx:Nat):List AV→List AV→Prop
 | [],ys=>ys=[]
 | x::xs,ys=>∃ y ys',ys=y::ys'∧Frz n H nx x y∧FrzL n H nx xs ys'
theorem FrzL.rl {n:Nat} {H:List VObj} {nx:Nat} {M:MM} (hR:RH M) (hH:M.H=H) (hnx:M.nx=nx):∀ {xs ys:List AV} {vs:List Value},FrzL n H nx xs ys→RL M xs vs→RL0 M.w (Drop M n) ys vs
 | [],ys,vs,h,k=>by simp only[FrzL]at h;subst h;simpa only [RL,RL0] using k
 | x::xs,ys,vs,h,k=>by
  simp only[FrzL]at h;obtain ⟨y,ys',rfl,h2,h3⟩:=h;simp only[RL]at k;obtain ⟨v,vs',rfl,k2,k3⟩:=k;simp only[RL0];exact ⟨v,vs',rfl,h2 M hR hH hnx v k2,h3.rl hR hH hnx k3⟩
theorem FrzL.pure {n:Nat} {H:List VObj} {nx:Nat}:∀ {xs:List AV},xs.all AV.pure=true→FrzL n H nx xs xs
 | [],_=>rfl
 | x::xs,h=>by
  simp only[List.all_cons,Bool.and_eq_true]at h;exact ⟨x,xs,rfl,Frz.pure h.1,FrzL.pure h.2⟩
theorem Frz.agg {n:Nat} {H:List VObj} {nx:Nat} {xs ys:List AV} (h:FrzL n H nx xs ys):Frz n H nx (.agg xs) (.agg ys):=fun M hR hH hnx v r=>by
 simp only[RV]at r;obtain ⟨vs,h1,h2⟩:=r;simp only[RV0];exact ⟨vs,h1,h.rl hR hH hnx h2⟩
theorem Frz.tup {n:Nat} {H:List VObj} {nx:Nat} {xs ys:List AV} (h:FrzL n H nx xs ys):Frz n H nx (.tup xs) (.tup ys):=fun M hR hH hnx v r=>by
 simp only[RV]at r;obtain ⟨vs,h1,h2⟩:=r;simp only[RV0];exact ⟨vs,h1,h.rl hR hH hnx h2⟩
theorem Frz.ref {n:Nat} {H:List VObj} {nx id s off len:Nat} {ob:VObj} {ys:List AV} (hid:n≤id) (ho:H[id]? = some ob) (hs:ob.s=s) (hz:ob.sz=1) (h1:ob.cs.all AV.one=true) (h:FrzL n H nx ((ob.cs.drop off).take len) ys) :
 Frz n H nx (.ref id s off len) (.imm 1 ys):=fun M hR hH hnx v r=>by
 subst hH;simp only[RV]at r;obtain ⟨hzz,r⟩:=r.2.2 ob ho hs;cases hm:M.m.getD id none with
 | none =>
  rw[hm]at r;obtain ⟨rfl,rfl,rfl⟩:=r;simp only[List.take_zero,FrzL]at h;subst h;simp only[RV0,RL0];exact ⟨none,0,0,[],rfl,rfl,Nat.le_refl _,by simp[maxLen],rfl,by simp,.inl rfl⟩
 | some g =>
  rw[hm]at r;obtain ⟨oo,cap,rfl,q2,q3,q4,q5,q6⟩:=r;rw[hz]at q4;obtain ⟨vs,g1,g2,g3⟩:=hR.cells ho hzz hm off len (by omega);have hone:=RL.all1 (by
   rw[List.all_eq_true]at h1 ⊢;exact fun q hq=>h1 q (List.mem_of_mem_drop (List.mem_of_mem_take hq))) g2
  have hrl:=h.rl hR rfl hnx g2;simp only[RV0];refine ⟨_,len,cap,vs,rfl,?_,q2,q3,hrl,fun u hu=>by rw[a1U (hone u hu)];rfl,?_⟩
  ·rw[← hrl.length,g1]
  ·by_cases hl:len=0
   ·exact .inl hl
   ·refine .inr ⟨g,oo,rfl,⟨.inr ⟨(hR.lt hm).1,(hR.lt hm).2.1⟩,fun j hj e=>by have:=hR.inj j id g e hm;omega⟩,fun i u hu j x hx=>?_⟩;have hoo:oo=M.o id+off:=by rcases q5 with q5 | q5<;>omega
    subst hoo;rw[a1U (hone u (List.mem_of_getElem? hu))]at hx;cases j with
    | zero=>simp at hx;subst hx;simpa using g3 i u hu
    | succ j=>simp at hx
theorem Wk.mk {st st':St} (he:∀ p ∈ st'.env,get st.env p.1=p.2) (hH:∃ tl,st.H=st'.H++tl) (hnx:st.nx≤st'.nx):Wk st st':=fun M a hR h1 h2 h3=>by
 obtain ⟨tl,hH⟩:=hH;rw[← h1]at hH;rw[← h2]at hnx;have hgetD:∀ id,id<st'.H.length→(M.m.take st'.H.length).getD id none=M.m.getD id none:=fun id hid=>by
  rw[List.getD_eq_getElem?_getD,List.getElem?_take,if_pos hid,List.getD_eq_getElem?_getD]
 have hgetN:∀ id,¬ id<st'.H.length→(M.m.take st'.H.length).getD id none=none:=fun id hid=>by
  rw[List.getD_eq_getElem?_getD,List.getElem?_take,if_neg hid];rfl
 have hob:∀ id ob,st'.H[id]? = some ob→M.H[id]? = some ob∧id<st'.H.length:=fun id ob h=>by
  have hlt:=(List.getElem?_eq_some_iff.1 h).1;exact ⟨by rw[hH,List.getElem?_append_left hlt];exact h,hlt⟩
 have hk:Keep M ⟨M.I0,M.w0,M.w,st'.H,M.m.take st'.H.length,st'.nx,M.o⟩:=by
  refine ⟨fun b hb=>⟨hb.1,fun id=>?_⟩,fun _ _ _ _ _ h=>h,Oth.refl _,hnx,fun id ob ho _=>?_⟩
  ·by_cases hid:id<st'.H.length
   ·show (M.m.take st'.H.length).getD id none≠some b;rw[hgetD id hid];exact hb.2 id
   ·show (M.m.take st'.H.length).getD id none≠some b;rw[hgetN id hid];simp
  ·obtain ⟨e1,e2⟩:=hob id ob ho;exact ⟨ob,e1,rfl,rfl,Nat.le_refl _,rfl,hgetD id e2,fun _ _ cur ty fr h=>⟨cur,ty,fr,h,rfl⟩⟩
 refine ⟨⟨M.I0,M.w0,M.w,st'.H,M.m.take st'.H.length,st'.nx,M.o⟩,rfl,rfl,rfl,⟨hR.below,hR.i0,?_,fun i j g hi hj=>?_,fun id ob ho=>?_⟩,hk.rv,rfl,rfl,fun t=>?_⟩
 ·have:=hR.len;rw[hH,List.length_append]at this;simp only[List.length_take];omega
 ·by_cases h5:i<st'.H.length
  ·by_cases h6:j<st'.H.length
   ·simp only[hgetD i h5,hgetD j h6]at hi hj;exact hR.inj i j g hi hj
   ·simp only[hgetN j h6]at hj;cases hj
  ·simp only[hgetN i h5]at hi;cases hi
 ·obtain ⟨e1,e2⟩:=hob id ob ho;obtain ⟨h5,h6⟩:=hR.own id ob e1;refine ⟨Nat.lt_of_lt_of_le h5 hnx,?_⟩;show (match (M.m.take st'.H.length).getD id none with | none=>_ | some g=>_);rw[hgetD id e2];cases hm:M.m.getD id none with
  | none=>rw[hm]at h6;exact h6
  | some g =>
   rw[hm]at h6;obtain ⟨q1,cur,q2,q3,q4⟩:=h6;exact ⟨q1,cur,q2,q3,fun j x v hx hv=>RV.keep hk x v (q4 j x v hx hv)⟩
 ·have key:∀ (e:List (Nat × AV)),(∀ p ∈ e,get st.env p.1=p.2)→get e t = .dead∨get e t=get st.env t:=by
   intro e
   induction e with
   | nil=>intro _;exact .inl rfl
   | cons p e ih =>
    intro hp;obtain ⟨k,x⟩:=p;simp only[get];split
    ·rename_i hk;subst hk;exact .inr (hp (k,x) (by simp)).symm
    ·exact ih fun q hq=>hp q (by simp[hq])
  rcases key st'.env he with h5 | h5
  ·rw[h5];simp only[RV]
  ·rw[h5];exact RV.keep hk _ _ (h3 t)
theorem Wk.drop {st st':St} (he:∀ p ∈ st'.env,get st.env p.1=p.2∨Frz st'.H.length st.H st.nx (get st.env p.1) p.2)
 (hH:∀ (j:Nat) (ob':VObj),st'.H[j]? = some ob'→∃ ob:VObj,st.H[j]? = some ob∧ob.s=ob'.s∧ob.ty=ob'.ty∧ob.sz=ob'.sz∧ob.cs.length=ob'.cs.length∧(ob'.sz=0→ob'.cs=ob.cs) ∧
   ∀ (i:Nat) x y,ob.cs[i]? = some x→ob'.cs[i]? = some y→x=y∨Frz st'.H.length st.H st.nx x y) (hlen:st'.H.length≤st.H.length) (hnx:st.nx≤st'.nx):Wk st st':=fun M a hR h1 h2 h3=>by
 rw[← h1]at hH hlen;rw[← h1]at he;rw[← h2]at he hH hnx;have hmlen:=hR.len;have hgetD:∀ id,id<st'.H.length→(M.m.take st'.H.length).getD id none=M.m.getD id none:=fun id hid=>by
  rw[List.getD_eq_getElem?_getD,List.getElem?_take,if_pos hid,List.getD_eq_getElem?_getD]
 have hgetN:∀ id,¬ id<st'.H.length→(M.m.take st'.H.length).getD id none=none:=fun id hid=>by
  rw[List.getD_eq_getElem?_getD,List.getElem?_take,if_neg hid];rfl
 obtain ⟨M',hM'⟩:∃ M':MM,M'=⟨M.I0,M.w0,M.w,st'.H,M.m.take st'.H.length,st'.nx,M.o⟩:=⟨_,rfl⟩
 have hDI:∀ b,Drop M st'.H.length b→M'.I b:=fun b hb=>by
  subst hM';refine ⟨hb.1,fun id=>?_⟩;by_cases hid:id<st'.H.length
  ·show (M.m.take st'.H.length).getD id none≠some b;rw[hgetD id hid];exact hb.2 id hid
  ·show (M.m.take st'.H.length).getD id none≠some b;rw[hgetN id hid];simp
 have hkeep:Keep M M':=by
  refine ⟨fun b hb=>hDI b (Drop.of hb),fun _ _ _ _ _ h=>by rw[hM'];exact h,by rw[hM'];exact Oth.refl _,by rw[hM'];exact hnx,fun id ob' ho _=>?_⟩;subst hM';obtain ⟨ob,e1,e2,e3,e4,e5,_⟩:=hH id ob' ho;exact ⟨ob,e1,e2,e4,Nat.le_of_eq e5,rfl,hgetD id (List.getElem?_eq_some_iff.1 ho).1,fun _ _ cur ty fr h=>⟨cur,ty,fr,h,rfl⟩⟩
 have conv:∀ {x y:AV} {v:Value},x=y∨Frz st'.H.length M.H M.nx x y→RV M x v→RV M' y v:=fun {x y v} h hv=>by
  rcases h with h | h
  ·subst h;exact RV.keep hkeep x v hv
  ·have:=h M hR rfl rfl v hv;refine RV.of0 (RV0.mono hDI (fun _ _ _ _ _ h=>by rw[hM'];exact h) _ _ this)
 have hI0:M'.I0=M.I0:=by rw[hM']
 have hw0:M'.w0=M.w0:=by rw[hM']
 have hw:M'.w=M.w:=by rw[hM']
 have hHH:M'.H=st'.H:=by rw[hM']
 have hnn:M'.nx=st'.nx:=by rw[hM']
 have hoM:M'.o=M.o:=by rw[hM']
 have hmm:M'.m=M.m.take st'.H.length:=by rw[hM']
 refine ⟨M',hI0,hw0,hw,⟨by rw[hw0,hw];exact hR.below,by rw[hI0,hw0];exact hR.i0,?_,fun i j g hi hj=>?_,fun id ob' ho=>?_⟩,hkeep.rv,hHH,hnn,fun t=>?_⟩
 ·rw[hmm,hHH,List.length_take];omega
 ·rw[hmm]at hi hj;by_cases h5:i<st'.H.length
  ·by_cases h6:j<st'.H.length
   ·rw[hgetD i h5]at hi;rw[hgetD j h6]at hj;exact hR.inj i j g hi hj
   ·rw[hgetN j h6]at hj;cases hj
  ·rw[hgetN i h5]at hi;cases hi
 ·rw[hHH]at ho;obtain ⟨ob,e1,e2,e3,e4,e5,e7,e6⟩:=hH id ob' ho;obtain ⟨h5,h6⟩:=hR.own id ob e1;refine ⟨by rw[hnn,← e2];omega,?_⟩;rw[hmm,hgetD id (List.getElem?_eq_some_iff.1 ho).1];cases hm:M.m.getD id none with
  | none=>rw[hm]at h6;simp only at h6 ⊢;exact List.eq_nil_of_length_eq_zero (by rw[← e5,h6];rfl)
  | some g =>
   rw[hm]at h6;obtain ⟨q1,cur,q2,q3,q4⟩:=h6;refine ⟨by rw[hw0];exact q1,cur,by rw[hw];exact q2.alike e4.symm e3.symm e7,by rw[hoM];omega,fun j y v hy hv=>?_⟩;have hv:cur[M.o id+j]? = some v:=by rw[← hv,hoM]
   have hj:j<ob.cs.length:=by have:=(List.getElem?_eq_some_iff.1 hy).1;omega
   have hx:ob.cs[j]? = some ob.cs[j]:=List.getElem?_eq_getElem hj;exact conv (e6 j _ y hx hy) (q4 j _ v hx hv)
 ·have key:∀ (e:List (Nat × AV)),(∀ p ∈ e,get st.env p.1=p.2∨Frz st'.H.length M.H M.nx (get st.env p.1) p.2)→get e t = .dead∨get st.env t=get e t∨Frz st'.H.length M.H M.nx (get st.env t) (get e t):=by
   intro e
   induction e with
   | nil=>intro _;exact .inl rfl
   | cons p e ih =>
    intro hp;obtain ⟨k,x⟩:=p;simp only[get];split
    ·rename_i hk;subst hk;exact .inr (hp (k,x) (by simp))
    ·exact ih fun q hq=>hp q (by simp[hq])
  rcases key st'.env he with h5 | h5
  ·rw[h5];simp only[RV]
  ·exact conv h5 (h3 t)
theorem Wk.virt {st st':St} (ty sz:Nat) (hsz:sz≠0) (he:∀ p ∈ st'.env,get st.env p.1=p.2∨(get st.env p.1 = .val (.slice none 0 0)∧p.2 = .ref st.H.length st.nx 0 0))
 (hH:∃ H0:List VObj,st'.H=H0++[⟨st.nx,ty,sz,[]⟩]∧H0.length=st.H.length∧∀ (j:Nat) (ob':VObj),H0[j]? = some ob'→∃ ob:VObj,st.H[j]? = some ob∧ob.s=ob'.s∧ob.ty=ob'.ty∧ob.sz=ob'.sz∧ob.cs.length=ob'.cs.length∧(ob'.sz=0→ob'.cs=ob.cs) ∧
   ∀ (i:Nat) x y,ob.cs[i]? = some x→ob'.cs[i]? = some y→x=y∨(x = .val (.slice none 0 0)∧y = .ref st.H.length st.nx 0 0)) (hnx:st'.nx=st.nx+1):Wk st st':=fun M a hR h1 h2 h3=>by
 obtain ⟨H0,hH0,hl0,hH⟩:=hH;rw[← h1]at hH hl0 he;rw[← h2]at hH he hnx hH0;have hmlen:=hR.len;obtain ⟨M',hM'⟩:∃ M':MM,M'=⟨M.I0,M.w0,M.w,st'.H,M.m++[none],st'.nx,M.o⟩:=⟨_,rfl⟩
 have hI0:M'.I0=M.I0:=by rw[hM']
 have hw0:M'.w0=M.w0:=by rw[hM']
 have hw:M'.w=M.w:=by rw[hM']
 have hHH:M'.H=st'.H:=by rw[hM']
 have hnn:M'.nx=st'.nx:=by rw[hM']
 have hoM:M'.o=M.o:=by rw[hM']
 have hmm:∀ id,M'.m.getD id none=M.m.getD id none:=fun id=>by
  rw[hM'];show (M.m++[none]).getD id none=_;rw[a0L hR.len];split
  ·rename_i e;subst e;rw[List.getD_eq_getElem?_getD,List.getElem?_eq_none (by omega)];rfl
  ·rfl
 have hIe:∀ b,M.I b→M'.I b:=fun b hb=>⟨by rw[hI0,hw0,hw];exact hb.1,fun id=>by rw[hmm];exact hb.2 id⟩
 have hob':∀ id ob',st'.H[id]? = some ob'→(id=M.H.length∧ob'=⟨M.nx,ty,sz,[]⟩)∨(id<M.H.length∧H0[id]? = some ob'):=fun id ob' h=>by
  rw[hH0]at h;rcases a2l h with ⟨e1,e2⟩ | h
  ·exact .inl ⟨by omega,e2⟩
  ·exact .inr ⟨by have:=(List.getElem?_eq_some_iff.1 h).1;omega,h⟩
 have hkeep:Keep M M':=by
  refine ⟨hIe,fun _ _ _ _ _ h=>by rw[hw];exact h,by rw[hw];exact Oth.refl _,by rw[hnn];omega,fun id ob' ho hlt=>?_⟩;rw[hHH]at ho;rcases hob' id ob' ho with ⟨_,rfl⟩ | ⟨_,h⟩
  ·exact absurd hlt (Nat.lt_irrefl _)
  ·obtain ⟨ob,e1,e2,e3,e4,e5,_⟩:=hH id ob' h;exact ⟨ob,e1,e2,e4,Nat.le_of_eq e5,by rw[hM'],hmm id,fun g _ cur ty fr h=>⟨cur,ty,fr,by rw[← hw];exact h,rfl⟩⟩
 have hnew:RV M' (.ref M.H.length M.nx 0 0) (.slice none 0 0):=by
  simp only[RV];refine ⟨by rw[hnn];omega,rfl,fun ob hob _=>⟨?_,?_⟩⟩
  ·rw[hHH]at hob;rcases hob' _ _ hob with ⟨_,rfl⟩ | ⟨h,_⟩
   ·exact hsz
   ·exact absurd h (Nat.lt_irrefl _)
  rw[hmm,List.getD_eq_getElem?_getD,List.getElem?_eq_none (by omega)];simp
 have conv:∀ {x y:AV} {v:Value},x=y∨(x = .val (.slice none 0 0)∧y = .ref M.H.length M.nx 0 0)→RV M x v→RV M' y v:=fun {x y v} h hv=>by
  rcases h with h | ⟨h,k⟩
  ·subst h;exact RV.keep hkeep x v hv
  ·subst h;subst k;simp only[RV]at hv;subst hv;exact hnew
 refine ⟨M',hI0,hw0,hw,⟨by rw[hw0,hw];exact hR.below,by rw[hI0,hw0];exact hR.i0,?_,fun i j g hi hj=>by rw[hmm]at hi hj;exact hR.inj i j g hi hj,fun id ob' ho=>?_⟩,hkeep.rv,hHH,hnn,fun t=>?_⟩
 ·rw[hHH,hH0,hM'];simp;omega
 ·rw[hHH]at ho;rw[hmm];rcases hob' id ob' ho with ⟨rfl,rfl⟩ | ⟨hid,h⟩
  ·refine ⟨by rw[hnn];show M.nx<_;omega,?_⟩;rw[List.getD_eq_getElem?_getD,List.getElem?_eq_none (by omega)];rfl
  ·obtain ⟨ob,e1,e2,e3,e4,e5,e7,e6⟩:=hH id ob' h;obtain ⟨h5,h6⟩:=hR.own id ob e1;refine ⟨by rw[hnn,← e2];omega,?_⟩;cases hm:M.m.getD id none with
   | none=>rw[hm]at h6;simp only at h6 ⊢;exact List.eq_nil_of_length_eq_zero (by rw[← e5,h6];rfl)
   | some g =>
    rw[hm]at h6;obtain ⟨q1,cur,q2,q3,q4⟩:=h6;refine ⟨by rw[hw0];exact q1,cur,by rw[hw];exact q2.alike e4.symm e3.symm e7,by rw[hoM];omega,fun j y v hy hv=>?_⟩;have hv:cur[M.o id+j]? = some v:=by rw[← hv,hoM]
    have hj:j<ob.cs.length:=by have:=(List.getElem?_eq_some_iff.1 hy).1;omega
    have hx:ob.cs[j]? = some ob.cs[j]:=List.getElem?_eq_getElem hj;exact conv (e6 j _ y hx hy) (q4 j _ v hx hv)
 ·have key:∀ (e:List (Nat × AV)),(∀ p ∈ e,get st.env p.1=p.2∨(get st.env p.1 = .val (.slice none 0 0)∧p.2 = .ref M.H.length M.nx 0 0))→get e t = .dead∨get st.env t=get e t∨(get st.env t = .val (.slice none 0 0)∧get e t = .ref M.H.length M.nx 0 0):=by
   intro e
   induction e with
   | nil=>intro _;exact .inl rfl
   | cons p e ih =>
    intro hp;obtain ⟨k,x⟩:=p;simp only[get];split
    ·rename_i hk;subst hk;exact .inr (hp (k,x) (by simp))
    ·exact ih fun q hq=>hp q (by simp[hq])
  rcases key st'.env he with h5 | h5
  ·rw[h5];simp only[RV]
  ·exact conv h5 (h3 t)
theorem Wk.refl (st:St):Wk st st:=fun M _ hR h1 h2 h3=>⟨M,rfl,rfl,rfl,hR,KeepRV.refl M,h1,h2,h3⟩
theorem Wk.trans {a b c:St} (h:Wk a b) (k:Wk b c):Wk a c:=fun M x hR h1 h2 h3=>by
 obtain ⟨M1,p1,p2,p3,p4,p5,p6,p7,p8⟩:=h M x hR h1 h2 h3;obtain ⟨M2,q1,q2,q3,q4,q5,q6,q7,q8⟩:=k M1 x p4 p6 p7 p8;exact ⟨M2,q1.trans p1,q2.trans p2,q3.trans p3,q4,p5.trans q5,q6,q7,q8⟩
end Go.V
