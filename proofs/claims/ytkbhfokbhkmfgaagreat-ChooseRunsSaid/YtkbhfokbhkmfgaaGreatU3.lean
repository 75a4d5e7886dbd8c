/- The engine, part 3: memory's two steps (a new object; an object's new contents), and the operations that leave memory as it is. No condition. -/
import Derived.Test.YtkbhfokbhkmfgaaGreatU2
set_option linter.unusedVariables false
set_option linter.unusedSimpArgs false
namespace Go.V
open Go.RowKit
theorem a0L {m:List (Option Nat)} {n:Nat} (h:m.length=n) (x:Option Nat) (id:Nat):(m++[x]).getD id none=if id=n then x else m.getD id none:=by
 subst h;simp only[List.getD_eq_getElem?_getD,List.getElem?_append];split
 ·rename_i h1;rw[if_neg (by omega)]
 ·rename_i h1;split
  ·rename_i h2;subst h2;simp
  ·rename_i h2;rw[List.getElem?_eq_none (by simp;omega),List.getElem?_eq_none (by omega)]
theorem a2l {H:List VObj} {ob:VObj} {id:Nat} {ob':VObj} (h:(H++[ob])[id]? = some ob'):(id=H.length∧ob'=ob)∨H[id]? = some ob':=by
 rw[List.getElem?_append]at h;split at h
 ·exact .inr h
 ·rename_i h1;have h2:id-H.length=0:=by
   rcases Nat.eq_zero_or_pos (id-H.length) with h3 | h3
   ·exact h3
   ·rw[List.getElem?_eq_none (by simp;omega)]at h;cases h
  rw[h2]at h;simp at h;exact .inl ⟨by omega,h.symm⟩
theorem Cont.not_dfr {w:World} {g:Nat} {ob:VObj} {cur:Array Value} (h:Cont w g ob cur) (x:Option (List Deferred)):w.heap[g]?≠some (Obj.deferred x):=by
 unfold Cont at h;intro e;split at h
 ·split at h
  ·rw[e]at h;exact absurd h.1 (by simp)
  ·obtain ⟨_,_,h,_⟩:=h;rw[e]at h;exact absurd h (by simp)
 ·obtain ⟨_,h,_⟩:=h;rw[e]at h;exact absurd h (by simp)
theorem Oth.of_grown {w w':World} {row:Option Nat} (hg:w.grownBy w' row) (hrow:∀ k,row=some k→w.heap[k]?≠some (Obj.deferred (some []))):Oth w w' :=
 ⟨hg.size,fun r hr=>by
   rw[hg.block r (Array.getElem?_eq_some_iff.1 hr).1 (fun e=>hrow r e.symm hr)];exact hr⟩
theorem RH.row {M:MM} (hR:RH M) {id:Nat} {ob:VObj} (ho:M.H[id]? = some ob):∀ k,M.m.getD id none=some k→M.w.heap[k]?≠some (Obj.deferred (some [])):=fun k hk=>by
 have:=(hR.own id ob ho).2;rw[hk]at this;obtain ⟨_,cur,h,_⟩:=this;exact h.not_dfr _
theorem RH.newB {M:MM} (hR:RH M) (w':World) (ob:VObj) (mb:Option Nat) (b0:Nat) (hs:ob.s=M.nx) (hg:M.w.grownBy w' none)
 (hb:match mb with
   | none=>ob.cs=[]
   | some g=>M.w.heap.size≤g∧∃ cur:Array Value,Cont w' g ob cur∧b0+ob.cs.length≤cur.size∧∀ (j:Nat) (x:AV) (v:Value),ob.cs[j]? = some x→cur[b0+j]? = some v→RV M x v) :
 RH ⟨M.I0,M.w0,w',M.H++[ob],M.m++[mb],M.nx+1,fun i=>if i=M.H.length then b0 else M.o i⟩∧Keep M ⟨M.I0,M.w0,w',M.H++[ob],M.m++[mb],M.nx+1,fun i=>if i=M.H.length then b0 else M.o i⟩:=by
 have hmb:∀ g,mb=some g→M.w.heap.size≤g∧g<w'.heap.size:=fun g e=>by
  rw[e]at hb;obtain ⟨h1,cur,h2,_⟩:=hb;exact ⟨h1,h2.lt⟩
 have hkeep:Keep M ⟨M.I0,M.w0,w',M.H++[ob],M.m++[mb],M.nx+1,fun i=>if i=M.H.length then b0 else M.o i⟩:=by
  refine ⟨fun b hI=>⟨?_,fun id=>?_⟩,Same.of_eq fun b hI=>hg.block b (hR.ilt hI) (by simp),Oth.of_grown hg (by simp),Nat.le_succ _,fun id ob' ho hlt=>?_⟩
  ·rcases hI.1 with h1 | h1
   ·exact .inl h1
   ·exact .inr ⟨h1.1,Nat.lt_of_lt_of_le h1.2 hg.size⟩
  ·rw[a0L hR.len];split
   ·intro e;have:=(hmb b e).1;have:=hR.ilt hI;omega
   ·exact hI.2 id
  ·rcases a2l ho with ⟨_,rfl⟩ | h1
   ·omega
   ·have hid:id<M.H.length:=(List.getElem?_eq_some_iff.1 h1).1;have hm:(M.m++[mb]).getD id none=M.m.getD id none:=by rw[a0L hR.len,if_neg (by omega)]
    refine ⟨ob',h1,rfl,rfl,Nat.le_refl _,by show (if id=M.H.length then b0 else M.o id)=_;rw[if_neg (by omega)],hm,fun g hgm cur ty fr hc=>⟨cur,ty,fr,?_,rfl⟩⟩;rw[← hg.block g (hR.lt hgm).2.1 (by simp)];exact hc
 refine ⟨⟨?_,hR.i0,by simp[hR.len],?_,?_⟩,hkeep⟩
 ·exact hR.below.grown hg hR.below.size (by simp)
 ·intro i j g hi hj;simp only[a0L hR.len]at hi hj;split at hi<;>split at hj
  ·omega
  ·have:=(hmb g hi).1;have:=(hR.lt hj).2.1;omega
  ·have:=(hmb g hj).1;have:=(hR.lt hi).2.1;omega
  ·exact hR.inj i j g hi hj
 ·intro id ob' ho;rcases a2l ho with ⟨rfl,rfl⟩ | h1
  ·refine ⟨by show _<M.nx+1;omega,?_⟩;show (match (M.m++[mb]).getD M.H.length none with | none=>_ | some g=>_);rw[a0L hR.len,if_pos rfl];cases mb with
   | none=>exact hb
   | some g =>
    obtain ⟨h1,cur,h2,h3,h4⟩:=hb;refine ⟨Nat.le_trans hR.below.size h1,cur,h2,?_⟩;show (if M.H.length=M.H.length then b0 else M.o M.H.length)+_≤_∧∀ (j:Nat) (x:AV) (v:Value),_→cur[(if M.H.length=M.H.length then b0 else M.o M.H.length)+j]? = _→_;simp only[if_true];exact ⟨h3,fun j x v hx hv=>RV.keep hkeep x v (h4 j x v hx hv)⟩
  ·have hid:id<M.H.length:=(List.getElem?_eq_some_iff.1 h1).1;obtain ⟨h2,h3⟩:=hR.own id ob' h1;refine ⟨by show _<M.nx+1;omega,?_⟩;show (match (M.m++[mb]).getD id none with | none=>_ | some g=>_);rw[a0L hR.len,if_neg (by omega)];cases hm:M.m.getD id none with
   | none=>rw[hm]at h3;exact h3
   | some g =>
    rw[hm]at h3;obtain ⟨p1,cur,p2,p3,p4⟩:=h3;refine ⟨p1,cur,p2.same (hg.block g (hR.lt hm).2.1 (by simp)),?_⟩;show (if id=M.H.length then b0 else M.o id)+_≤_∧∀ (j:Nat) (x:AV) (v:Value),_→cur[(if id=M.H.length then b0 else M.o id)+j]? = _→_;rw[if_neg (by omega)];exact ⟨p3,fun j x v hx hv=>RV.keep hkeep x v (p4 j x v hx hv)⟩
theorem RH.new {M:MM} (hR:RH M) (w':World) (ob:VObj) (mb:Option Nat) (hs:ob.s=M.nx) (hg:M.w.grownBy w' none)
 (hb:match mb with
   | none=>ob.cs=[]
   | some g=>M.w.heap.size≤g∧∃ cur:Array Value,Cont w' g ob cur∧ob.cs.length≤cur.size∧∀ (j:Nat) (x:AV) (v:Value),ob.cs[j]? = some x→cur[j]? = some v→RV M x v) :
 RH ⟨M.I0,M.w0,w',M.H++[ob],M.m++[mb],M.nx+1,fun i=>if i=M.H.length then 0 else M.o i⟩∧Keep M ⟨M.I0,M.w0,w',M.H++[ob],M.m++[mb],M.nx+1,fun i=>if i=M.H.length then 0 else M.o i⟩ :=
 hR.newB w' ob mb 0 hs hg (by
  cases mb with
  | none=>exact hb
  | some g=>obtain ⟨h1,cur,h2,h3,h4⟩:=hb;exact ⟨h1,cur,h2,by omega,fun j x v hx hv=>h4 j x v hx (by rw[← hv,Nat.zero_add])⟩)
theorem RH.put1 {M:MM} (hR:RH M) (w':World) (ob:VObj) (g b0:Nat) (hs:ob.s=M.nx) (hg:M.w.grownBy w' none)
 (hb:M.w.heap.size≤g∧∃ cur:Array Value,Cont w' g ob cur∧b0+ob.cs.length≤cur.size∧∀ (j:Nat) (x:AV) (v:Value),ob.cs[j]? = some x→cur[b0+j]? = some v→RV M x v) :
 RH ⟨M.I0,M.w0,w',M.H++[ob],M.m++[some g],M.nx+1,fun i=>if i=M.H.length then b0 else M.o i⟩∧Keep M ⟨M.I0,M.w0,w',M.H++[ob],M.m++[some g],M.nx+1,fun i=>if i=M.H.length then b0 else M.o i⟩ :=
 hR.newB w' ob (some g) b0 hs hg hb
theorem getD_set {m:List (Option Nat)} {id:Nat} (h:id<m.length) (x:Option Nat) (i:Nat):(m.set id x).getD i none=if i=id then x else m.getD i none:=by
 simp only[List.getD_eq_getElem?_getD,List.getElem?_set];split
 ·rename_i h1;subst h1;simp
 ·rename_i h1;rw[if_neg (by omega)]
theorem get_set {H:List VObj} {id:Nat} {ob ob':VObj} {i:Nat} (h:(H.set id ob)[i]? = some ob'):(i=id∧ob'=ob)∨(i≠id∧H[i]? = some ob'):=by
 rw[List.getElem?_set]at h;split at h
 ·rename_i h1;split at h
  ·exact .inl ⟨h1.symm,by simpa using h.symm⟩
  ·cases h
 ·rename_i h1;exact .inr ⟨fun e=>h1 e.symm,h⟩
theorem RH.put {M:MM} (hR:RH M) (w':World) (id:Nat) (ob ob':VObj) (mb:Option Nat) (nx' b':Nat) (ho:M.H[id]? = some ob) (hg:M.w.grownBy w' (M.m.getD id none))
 (hb:match mb with
   | none=>ob'.cs=[]
   | some g=>(M.m.getD id none=some g∨M.w.heap.size≤g)∧∃ cur:Array Value,Cont w' g ob' cur∧b'+ob'.cs.length≤cur.size∧∀ (j:Nat) (x:AV) (v:Value),ob'.cs[j]? = some x→cur[b'+j]? = some v→RV M x v)
 (hs:(ob'.s=M.nx∧nx'=M.nx+1)∨(nx'=M.nx∧b'=M.o id∧ob'.s=ob.s∧ob'.sz=ob.sz∧ob.cs.length≤ob'.cs.length∧mb=M.m.getD id none ∧
   ∀ g,mb=some g→∀ cur' ty' fr',w'.heap[g]? = some (.cells cur' ty' fr')→∃ cur ty fr,M.w.heap[g]? = some (.cells cur ty fr)∧cur.size=cur'.size)) :
 RH ⟨M.I0,M.w0,w',M.H.set id ob',M.m.set id mb,nx',fun i=>if i=id then b' else M.o i⟩∧Keep M ⟨M.I0,M.w0,w',M.H.set id ob',M.m.set id mb,nx',fun i=>if i=id then b' else M.o i⟩:=by
 have hid:id<M.H.length:=(List.getElem?_eq_some_iff.1 ho).1;have hidm:id<M.m.length:=hR.len▸hid;have hnx:M.nx≤nx':=by rcases hs with h | h<;>omega
 have hmb:∀ g,mb=some g→M.m.getD id none=some g∨M.w.heap.size≤g:=fun g e=>by rw[e]at hb;exact hb.1
 have hB:∀ g,mb=some g→M.w0.heap.size≤g:=fun g e=>by
  rcases hmb g e with h | h
  ·exact (hR.lt h).1
  ·exact Nat.le_trans hR.below.size h
 have hother:∀ i g,i≠id→M.m.getD i none=some g→w'.heap[g]? = M.w.heap[g]?:=fun i g hi hm=>by
  refine hg.block g (hR.lt hm).2.1 fun e=>hi (hR.inj i id g hm e.symm)
 have hkeep:Keep M ⟨M.I0,M.w0,w',M.H.set id ob',M.m.set id mb,nx',fun i=>if i=id then b' else M.o i⟩:=by
  refine ⟨fun b hI=>⟨?_,fun i=>?_⟩,Same.of_eq fun b hI=>hg.block b (hR.ilt hI) (fun e=>hI.2 id e.symm),Oth.of_grown hg (hR.row ho),hnx,fun i ob1 h1 hlt=>?_⟩
  ·rcases hI.1 with h1 | h1
   ·exact .inl h1
   ·exact .inr ⟨h1.1,Nat.lt_of_lt_of_le h1.2 hg.size⟩
  ·rw[getD_set hidm];split
   ·intro e;rcases hmb b e with h | h
    ·exact hI.2 id h
    ·have:=hR.ilt hI;omega
   ·exact hI.2 i
  ·rcases get_set h1 with ⟨rfl,rfl⟩ | ⟨hne,h2⟩
   ·rcases hs with h | ⟨_,hb3,h3,h4,h5,h6,h7⟩
    ·omega
    ·refine ⟨ob,ho,h3.symm,h4.symm,h5,by show (if i=i then b' else M.o i)=_;rw[if_pos rfl,hb3],by show (M.m.set i mb).getD i none=_;rw[getD_set hidm,if_pos rfl,h6],fun g hgm cur' ty' fr' hc=>h7 g (h6.trans hgm) cur' ty' fr' hc⟩
   ·refine ⟨ob1,h2,rfl,rfl,Nat.le_refl _,by show (if i=id then b' else M.o i)=_;rw[if_neg hne],by show (M.m.set id mb).getD i none=_;rw[getD_set hidm,if_neg hne],fun g hgm cur ty fr hc=>⟨cur,ty,fr,?_,rfl⟩⟩;rw[← hother i g hne hgm];exact hc
 refine ⟨⟨?_,hR.i0,by simp[hR.len],?_,?_⟩,hkeep⟩
 ·refine hR.below.grown hg hR.below.size fun k e=>(hR.lt (e)).1
 ·intro i j g hi hj;simp only[getD_set hidm]at hi hj;split at hi<;>split at hj
  ·omega
  ·rename_i h1 h2;rcases hmb g hi with h | h
   ·exact absurd (hR.inj j id g hj h) h2
   ·have:=(hR.lt hj).2.1;omega
  ·rename_i h1 h2;rcases hmb g hj with h | h
   ·exact absurd (hR.inj i id g hi h) h1
   ·have:=(hR.lt hi).2.1;omega
  ·exact hR.inj i j g hi hj
 ·intro i ob1 h1;rcases get_set h1 with ⟨rfl,rfl⟩ | ⟨hne,h2⟩
  ·refine ⟨?_,?_⟩
   ·show _<nx';rcases hs with h | h
    ·omega
    ·have:=(hR.own i ob ho).1;omega
   ·show (match (M.m.set i mb).getD i none with | none=>_ | some g=>_);rw[getD_set hidm,if_pos rfl];cases mb with
    | none=>exact hb
    | some g =>
     obtain ⟨_,cur,q2,q3,q4⟩:=hb;refine ⟨hB g rfl,cur,q2,?_⟩;show (if i=i then b' else M.o i)+_≤_∧∀ (j:Nat) (x:AV) (v:Value),_→cur[(if i=i then b' else M.o i)+j]? = _→_;rw[if_pos rfl];exact ⟨q3,fun j x v hx hv=>RV.keep hkeep x v (q4 j x v hx hv)⟩
  ·obtain ⟨p1,p2⟩:=hR.own i ob1 h2;refine ⟨by show _<nx';omega,?_⟩;show (match (M.m.set id mb).getD i none with | none=>_ | some g=>_);rw[getD_set hidm,if_neg hne];cases hm:M.m.getD i none with
   | none=>rw[hm]at p2;exact p2
   | some g =>
    rw[hm]at p2;obtain ⟨q1,cur,q2,q3,q4⟩:=p2;refine ⟨q1,cur,q2.same (hother i g hne hm),?_⟩;show (if i=id then b' else M.o i)+_≤_∧∀ (j:Nat) (x:AV) (v:Value),_→cur[(if i=id then b' else M.o i)+j]? = _→_;rw[if_neg hne];exact ⟨q3,fun j x v hx hv=>RV.keep hkeep x v (q4 j x v hx hv)⟩
def EnvR (M:MM) (env:List (Nat × AV)) (a:Act):Prop:=∀ t,RV M (get env t) (a.tmps.getD t undef)
theorem RL.vals {M:MM}:∀ (l:List Value),RL M (l.map AV.val) l
 | []=>by simp[RL]
 | v::l=>by simp only[List.map_cons,RL,RV];exact ⟨v,l,rfl,rfl,RL.vals l⟩
theorem RV.cv {M:MM} (v:Value):RV M (cv v) v:=by
 unfold V.cv;split
 ·rename_i cs;simp only[RV];exact ⟨cs.toList,by simp,RL.vals _⟩
 ·simp only[RV]
theorem EnvR.ev {M:MM} {env:List (Nat × AV)} {a:Act} (he:EnvR M env a) (x:Operand):RV M (evF (get env) x) (a.eval x):=by
 cases x with
 | tmp t=>exact he t
 | const v=>exact RV.cv v
 | global g=>simp only[evF,RV]
 | func f=>simp only[evF,RV,RL,Act.eval];exact ⟨[],rfl,rfl⟩
theorem EnvR.evs {M:MM} {env:List (Nat × AV)} {a:Act} (he:EnvR M env a):∀ (xs:List Operand),RL M (evs (evF (get env)) xs) (xs.map a.eval)
 | []=>by simp[V.evs,RL]
 | x::xs=>by simp only[V.evs,RL,List.map_cons];exact ⟨_,_,rfl,he.ev x,he.evs xs⟩
theorem EnvR.keep {M M':MM} (k:KeepRV M M') {env:List (Nat × AV)} {a:Act} (he:EnvR M env a):EnvR M' env a:=fun t=>k.rv _ _ (he t)
theorem b4I {env:List (Nat × AV)} {t:Nat} {x:AV} (h:get env t=x):get ((t,x)::env)=get env:=by
 funext u;simp only[get];split
 ·rename_i e;rw[← e,h]
 ·rfl
theorem EnvR.lit {M:MM} {env:List (Nat × AV)} {a:Act} (he:EnvR M env a) {t:Nat} {x:AV} (h:get env t=x):EnvR M ((t,x)::env) a:=fun u=>by
 rw[b4I h];exact he u
theorem EnvR.put {M:MM} {env:List (Nat × AV)} {a:Act} (he:EnvR M env a) {d:Option Nat} (hd:∀ t,d=some t→t<a.tmps.size) {r:AV} {v:Value} (hr:RV M r v) {H:List VObj} {nx:Nat} :
 EnvR M (St.put ⟨env,H,nx⟩ d r).env (a.put d v):=by
 cases d with
 | none=>exact he
 | some d =>
  intro t;simp only[St.put,Act.put,get];split
  ·rename_i h;subst h;simpa [hd d rfl] using hr
  ·rename_i h;have:=he t;simpa [Array.getElem?_setIfInBounds,h] using this
theorem a1U {v:Value} (h:v.oneCell'=true):v.cells = #[v]:=by
 cases v<;>first | rfl | simp[Value.oneCell']at h
theorem RV.one {M:MM}:∀ {x:AV} {v:Value},x.one=true→RV M x v→v.oneCell'=true∧v.cells = #[v]
 | .val u,v,h1,h=>by
  simp only[RV]at h;subst h;simp only[AV.one]at h1;exact ⟨h1,a1U h1⟩
 | .imm ..,v,_,h=>by simp only[RV,RV0]at h;obtain ⟨a,n,c,vs,rfl,_⟩:=h;exact ⟨rfl,rfl⟩
 | .ip _,v,_,h=>by simp only[RV,RV0]at h;obtain ⟨b,off,u,rfl,_⟩:=h;exact ⟨rfl,rfl⟩
 | .fn ..,v,_,h=>by simp only[RV]at h;obtain ⟨vs,rfl,_⟩:=h;exact ⟨rfl,rfl⟩
 | .bm ..,v,_,h=>by simp only[RV]at h;obtain ⟨vs,rfl,_⟩:=h;exact ⟨rfl,rfl⟩
 | .ref ..,v,_,h=>by simp only[RV]at h;exact ⟨h.2.1,a1U h.2.1⟩
 | .ptr ..,v,_,h=>by simp only[RV]at h;exact ⟨h.2.1,a1U h.2.1⟩
 | .yld ..,v,_,h=>by simp only[RV]at h;exact ⟨h.2.1,a1U h.2.1⟩
 | .mref ..,v,_,h=>by simp only[RV]at h;exact ⟨h.2.1,a1U h.2.1⟩
 | .lp _,_,h1,_=>by simp[AV.one]at h1
 | .agg _,_,h1,_=>by simp[AV.one]at h1
 | .tup _,_,h1,_=>by simp[AV.one]at h1
 | .dead,_,h1,_=>by simp[AV.one]at h1
end Go.V
