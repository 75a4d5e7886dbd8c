/- The engine, part 9b: loops over functions, and the functions that they are over. No condition. -/
import Derived.Test.YtkbhfokbhkmfgaaGreatU9
import Derived.RangeFuncLeaves
import Derived.RangeFuncRecord
import Derived.Sort.LoopGhostIn
import Derived.OrdersIn
set_option linter.unusedVariables false
set_option linter.unusedSimpArgs false
namespace Go.V
open Go.RowKit
def FW (ro:Option Nat):Fence:={ fn:=fun _=>True,depth:=none,alive:=false,round:=ro }
section
variable {P:Program}
theorem b8M {ro:Option Nat} {n:Nat} {f:FuncId} {args:Array Value} {w:World} {R:Ending→World→Prop} (h:Calls P f args w R):CallsIn (FW ro) n P f args w R :=
 (callsIn_wide (n:=n)).2 h
theorem c5h {ro:Option Nat} {n:Nat} {o:Oper} {a:Act} {w:World} {next:Act→World→Prop} {Q:Exit→Act→World→Prop} (hd:∀ c,o.op≠.defer c) (h:o.wp P a w next Q):o.wpIn (FW ro) n P a w next Q:=by
 refine ⟨fun _ _=>trivial,?_⟩;unfold Oper.wp at h;show o.uponIn (FW ro) n P a next Q ((o.semAt ro a.eval).run P w)
 rw[Oper.semAt_eq ro a.eval o hd];generalize (execOp a.eval o).run P w=r at h;unfold Oper.upon at h;split at h
 ·exact h
 ·exact h
 ·exact h
 ·exact ⟨fun e=>(by cases e),b8M h⟩
 ·refine ⟨fun e=>(by cases e),fun c cs _=>?_⟩;obtain ⟨v,w'',h1,h2⟩:=h c cs;exact ⟨v,w'',h1,stepsIn_wide.2 h2⟩
 ·exact h
 ·exact h.elim
def b2A (P:Program) (y:Bool):Op→Option K
 | .call c=>match c.callee with
  | .value (.tmp t)=>if y then some (.ycal (.tmp t) c.args.toList) else b1R P (.call c)
  | _=>b1R P (.call c)
 | op=>b1R P op
def a2b (P:Program) (y:Bool) (N:Nat) (ops:Array Oper):List Oper→Option (List VOp)
 | []=>some []
 | o::l=>match b2A P y o.op,b3z ops o.guard,a2b P y N ops l with
  | some k,some g,some r=>if c0P N o.dst=true then some (⟨o.dst,g,k⟩::r) else none
  | _,_,_=>none
def VOp.isMv:VOp→Bool
 | ⟨some _,none,.mv _⟩=>true
 | _=>false
def b7P:List VOp→List (Nat × AV)→List (Nat × AV)
 | [],env=>env
 | ⟨some d,none,.mv x⟩::l,env=>b7P l ((d,evF (get env) x)::env)
 | _::l,env=>b7P l env
def b2B (P:Program) (y:Bool) (N:Nat):Code→Option (List VOp)
 | .skip=>some []
 | .region _ ops false=>match a2b P y N ops ops.toList with
  | some l=>if l.all VOp.isMv=true then some l else none
  | none=>none
 | _=>none
def b8N (l:List VOp) (x:VC):VC:=match l with
 | []=>x
 | l=>.seq (.ops l) x
theorem b7Q {Q:St→Prop} {H:List VObj} {nx:Nat}:∀ {l:List VOp} {env:List (Nat × AV)},l.all VOp.isMv=true→a5X P l Q ⟨env,H,nx⟩=Q ⟨b7P l env,H,nx⟩
 | [],env,_=>rfl
 | o::l,env,h=>by
  simp only[List.all_cons,Bool.and_eq_true]at h;obtain ⟨h1,h2⟩:=h;unfold VOp.isMv at h1;split at h1
  ·rename_i d x;simp only[a5X,K.wp,St.put,b7P];exact b7Q h2
  ·cases h1
theorem c1f {l:List VOp} {x:VC} {Q:VE→St→Prop} {env:List (Nat × AV)} {H:List VObj} {nx:Nat} (hl:l.all VOp.isMv=true) (h:VW P (b8N l x) Q ⟨env,H,nx⟩):VW P x Q ⟨b7P l env,H,nx⟩:=by
 unfold b8N at h;split at h
 ·exact h
 ·simp only[VW]at h;rw[b7Q hl]at h;exact h
def a4u (P:Program) (y:Bool) (N:Nat) (rnd:Bool):Code→Option VC
 | .skip=>some .skip
 | .region _ ops draw=>match a2b P y N ops ops.toList with
  | some l=>if draw=false then some (.ops l) else
   match b7A false ops l ops.size (if c7k l then 6 else 2) (Array.replicate ops.size false) with
   | some t=>some (.par false t)
   | none=>match b7A true ops l ops.size 3 (Array.replicate ops.size false) with
    | some t=>some (.par true t)
    | none=>none
  | none=>none
 | .seq x y'=>match a4u P y N rnd x,a4u P y N rnd y' with
  | some a,some b=>some (.seq a b)
  | _,_=>none
 | .cond c x y'=>match a4u P y N rnd x,a4u P y N rnd y' with
  | some a,some b=>some (.cond c a b)
  | _,_=>none
 | .block id x=>match a4u P y N rnd x with
  | some a=>some (.block id a)
  | none=>none
 | .loop x=>match a4u P y N rnd x with
  | some a=>some (.loop a)
  | none=>none
 | .exit id=>some (.exit id)
 | .label _=>some .skip
 | .ret=>some .ret
 | .rangeFunc g ps as body=>match b2B P y N as with
  | some l=>if rnd=false then match a4u P y N true body with
   | some x=>if ps.toList.Nodup∧∀ p ∈ ps.toList,p<N then some (.range g ps.toList (b8N l x)) else none
   | none=>none
   else none
  | none=>none
 | _=>none
def DfB (b0:Nat) (ds:List Deferred) (w:World):Prop:=∃ rs:List Nat,ds=rs.map (fun r=>⟨.collected r,#[]⟩)∧rs.Nodup∧∀ r ∈ rs,b0≤r∧w.heap[r]? = some (Obj.deferred (some []))
theorem DfB.oth {b0:Nat} {ds:List Deferred} {w w':World} (h:DfB b0 ds w) (k:Oth w w'):DfB b0 ds w':=by
 obtain ⟨rs,h1,h2,h3⟩:=h;exact ⟨rs,h1,h2,fun r hr=>⟨(h3 r hr).1,k.dfr r (h3 r hr).2⟩⟩
def PostB (N b0:Nat) (M0:MM) (Q:VE→St→Prop):Exit→Act→World→Prop:=fun e a w =>
 ∃ (M:MM) (env:List (Nat × AV)),M.I0=M0.I0∧M.w0=M0.w0∧M.w=w∧RH M∧KeepRV M0 M∧EnvR M env a∧a.tmps.size=N∧DfB b0 a.defers w ∧
  match e with
  | .normal=>Q .normal ⟨env,M.H,M.nx⟩
  | .exit id=>Q (.exit id) ⟨env,M.H,M.nx⟩
  | .ret=>Q .ret ⟨env,M.H,M.nx⟩
  | _=>False
theorem PostB.mono {N b0:Nat} {M0 M1:MM} (h0:M1.I0=M0.I0) (h1:M1.w0=M0.w0) (hk:KeepRV M0 M1) {Q Q':VE→St→Prop} {e:Exit} {a:Act} {w:World} (h:PostB N b0 M1 Q e a w)
 (hn:e = .normal→∀ st,Q .normal st→Q' .normal st) (hx:∀ id,e = .exit id→∀ st,Q (.exit id) st→Q' (.exit id) st) (hr:e = .ret→∀ st,Q .ret st→Q' .ret st):PostB N b0 M0 Q' e a w:=by
 obtain ⟨M,env,p1,p2,p3,p4,p5,p6,p7,p8,p9⟩:=h;refine ⟨M,env,p1.trans h0,p2.trans h1,p3,p4,hk.trans p5,p6,p7,p8,?_⟩;cases e with
 | normal=>exact hn rfl _ p9
 | exit id=>exact hx id rfl _ p9
 | ret=>exact hr rfl _ p9
 | goto l=>exact p9
 | panic c=>exact p9
 | outgrown=>exact p9
variable {N:Nat}
theorem a5z {y:Bool} {ops:Array Oper} {o:Oper} {l:List Oper} {vl:List VOp} (h:a2b P y N ops (o::l)=some vl) :
 ∃ k g r,b2A P y o.op=some k∧b3z ops o.guard=some g∧a2b P y N ops l=some r∧vl=⟨o.dst,g,k⟩::r∧∀ t,o.dst=some t→t<N:=by
 simp only[a2b]at h;split at h
 ·rename_i k g r h1 h2 h3;split at h
  ·rename_i h4;cases h;exact ⟨k,g,r,h1,h2,h3,rfl,fun t e=>by rw[e]at h4;simpa [c0P] using h4⟩
  ·cases h
 ·cases h
theorem b4N {y:Bool} {op:Op} {k:K} (h:b2A P y op=some k):∀ c,op≠.defer c:=fun c e=>by
 subst e;simp[b2A,b1R]at h
theorem c1g {ro:Option Nat} {n:Nat} {y:Bool} {o:Oper} {a:Act} {M:MM} {env:List (Nat × AV)} {C:AV→List VObj→Nat→Prop} (hR:RH M) (he:EnvR M env a) {k:K} (hk:b2A P y o.op=some k) (h:k.wp P (evF (get env)) M.H M.nx C) (Q:Exit→Act→World→Prop) (K':Act→World→Prop)
 (hK:∀ (v:Value) (r:AV) (M':MM),M'.I0=M.I0→M'.w0=M.w0→RH M'→KeepRV M M'→RV M' r v→C r M'.H M'.nx→K' (a.put o.dst v) M'.w):o.wpIn (FW ro) n P a M.w K' Q:=by
 have hnd:=b4N hk;have plain:b1R P o.op=some k→o.wpIn (FW ro) n P a M.w K' Q:=fun hk=>c5h hnd (b0e hR he hk h Q K' hK);unfold b2A at hk;split at hk
 ·rename_i c hop;split at hk
  ·rename_i t hc;split at hk
   ·cases hk;have hf:=EnvR.ev he (.tmp t);have hargs:=EnvR.evs he c.args.toList;simp only[K.wp]at h;split at h
    ·rename_i id s h1;rw[h1]at hf;obtain ⟨l,r,e1,e2,e3,e4⟩:=h M _ _ hR rfl rfl hf hargs;refine ⟨fun _ _=>trivial,?_⟩;show o.uponIn (FW ro) n P a K' Q ((o.semAt ro a.eval).run P M.w);rw[Oper.semAt_eq ro a.eval o hnd];have hrun:(execOp a.eval o).run P M.w = .ok (.round l r.fn ((r.params.zip (c.args.map a.eval)).foldl (fun tmps (t,a)=>tmps.setIfInBounds t a) r.tmps) r.assign r.body) M.w:=by
      have hy:=run_yield (P:=P) (args:=c.args.map a.eval) e2 (by rw[← e3];simp);simp only[execOp,hop,resolve,hc,e1,Deferred.ofValue,Sem.run_bind,Sem.run_pure,Result.andThen_ok,invoke];simpa using hy
     rw[hrun,Oper.uponIn_round];refine ⟨fun e=>(by cases e),?_⟩;have e5:(c.args.toList.map a.eval).toArray=c.args.map a.eval:=by apply Array.ext';simp
     rw[e5]at e4;have e6:RoundIn (FW ro) (n-1) P l r.fn ((r.params.zip (c.args.map a.eval)).foldl (fun tmps (t,a)=>tmps.setIfInBounds t a) r.tmps) r.assign r.body M.w _:=⟨trivial,fun c cs _=>e4.2 c cs (room_wide _)⟩
     refine e6.mono fun e w' hp=>?_;obtain ⟨v,x,M',rfl,q2,q3,rfl,q5,q6,q7,q8⟩:=hp;exact hK v x M' q2 q3 q5 q6 q7 q8
    ·exact h.elim
   ·rw[← hop]at hk;exact plain hk
  ·rw[← hop]at hk;exact plain hk
 ·exact plain hk
theorem a5A {ro:Option Nat} {n:Nat} {y:Bool} {ops:Array Oper} {Qp:Exit→Act→World→Prop} {b0:Nat}:∀ (l:List Oper) (vl:List VOp),a2b P y N ops l=some vl→∀ (Q0:St→Prop) (M:MM) (env:List (Nat × AV)) (a:Act),
 RH M→EnvR M env a→a.tmps.size=N→DfB b0 a.defers M.w→a5X P vl Q0 ⟨env,M.H,M.nx⟩ →
 (∀ (M':MM) (env':List (Nat × AV)) (a':Act),M'.I0=M.I0→M'.w0=M.w0→RH M'→KeepRV M M'→EnvR M' env' a'→a'.tmps.size=N→DfB b0 a'.defers M'.w→Q0 ⟨env',M'.H,M'.nx⟩→Qp .normal a' M'.w) →
 wpListIn (FW ro) n P ops Qp l a M.w
 | [],vl,hc,Q0,M,env,a,hR,he,hN,hd,h,hQ=>by
  simp only[a2b,Option.some.injEq]at hc;subst hc;exact hQ M env a rfl rfl hR (KeepRV.refl _) he hN hd h
 | o::l,vl,hc,Q0,M,env,a,hR,he,hN,hd,h,hQ=>by
  obtain ⟨k,g,r,h1,h2,h3,rfl,h4⟩:=a5z hc;have hdst:∀ t,o.dst=some t→t<a.tmps.size:=fun t e=>hN▸h4 t e;have go:∀ {env:List (Nat × AV)} (he:EnvR M env a) (hk:k.wp P (evF (get env)) M.H M.nx fun r' H nx=>a5X P r Q0 (St.put ⟨env,H,nx⟩ o.dst r')),o.wpIn (FW ro) n P a M.w (wpListIn (FW ro) n P ops Qp l) Qp:=fun {env} he hk=>by
   refine c1g hR he h1 hk Qp _ fun v r' M' m1 m2 m3 m4 m5 m6=>?_;have he':=(he.keep m4).put (d:=o.dst) hdst m5 (H:=M'.H) (nx:=M'.nx);rw[b4i]at m6;exact a5A l r h3 Q0 M' _ _ m3 he' (by rw[a3k];exact hN) (by rw[a1P];exact hd.oth m4.oth) m6
    fun M'' env'' a'' n1 n2 n3 n4 n5 n6 n7 n8=>hQ M'' env'' a'' (n1.trans m1) (n2.trans m2) n3 (m4.trans n4) n5 n6 n7 n8
  have skip:∀ {env:List (Nat × AV)} (he:EnvR M env a) (hk:a5X P r Q0 (St.put ⟨env,M.H,M.nx⟩ o.dst (.val undef))),(∀ f,o.about P M.w a.eval=some f→(FW ro).fn f)∧wpListIn (FW ro) n P ops Qp l (a.put o.dst undef) M.w:=fun {env} he hk=>by
   have he':=he.put (d:=o.dst) hdst (r:=.val undef) (v:=undef) (by simp only[RV]) (H:=M.H) (nx:=M.nx);rw[b4i]at hk;exact ⟨fun _ _=>trivial,a5A l r h3 Q0 M _ _ hR he' (by rw[a3k];exact hN) (by rw[a1P];exact hd) hk hQ⟩
  cases g with
  | none =>
   simp only[a5X]at h;simp only[wpListIn,a4d h2,if_true];exact go he h
  | some tw =>
   obtain ⟨t,want⟩:=tw;simp only[a5X]at h;have ht:=he t;have hw:=a6h h2 (a:=a) rfl;simp only[wpListIn];split at h
   ·rename_i b hb;rw[hb]at ht;simp only[RV]at ht;rw[hw.1 b ht];by_cases hbw:b=want
    ·subst hbw;simp only[beq_self_eq_true,if_true];exact go (he.lit hb) (h.1 rfl)
    ·have:(b == want)=false:=by simpa using hbw
     simp only[this,Bool.false_eq_true,if_false];have hb':b = !want:=by cases b<;>cases want<;>simp_all
     exact skip (he.lit (hb'▸hb)) (h.2 hb')
   ·rename_i v hv hb;rw[hb]at ht;simp only[RV]at ht;rw[hw.2 (fun b e=>hv b (by rw[← ht,e]))];simp only[Bool.false_eq_true,if_false];exact skip he h
   ·exact h.elim
theorem b0F {y:Bool} {ops:Array Oper}:∀ (l:List Oper) (vl:List VOp) (i:Nat) (o:VOp),a2b P y N ops l=some vl→vl[i]? = some o →
 ∃ op,l[i]? = some op∧b2A P y op.op=some o.k∧b3z ops op.guard=some o.g∧o.d=op.dst∧∀ t,op.dst=some t→t<N
 | [],vl,i,o,h,ho=>by simp only[a2b,Option.some.injEq]at h;subst h;simp at ho
 | op::l,vl,i,o,h,ho=>by
  obtain ⟨k,g,r,h1,h2,h3,rfl,h4⟩:=a5z h;cases i with
  | zero=>simp at ho;subst ho;exact ⟨op,by simp,h1,h2,rfl,h4⟩
  | succ i=>exact b0F l r i o h3 (by simpa using ho) |>.imp fun q hq=>⟨by simpa using hq.1,hq.2⟩
theorem a6j {y:Bool} {ops:Array Oper}:∀ (l:List Oper) (vl:List VOp),a2b P y N ops l=some vl→vl.length=l.length
 | [],vl,h=>by simp only[a2b,Option.some.injEq]at h;subst h;rfl
 | op::l,vl,h=>by
  obtain ⟨k,g,r,h1,h2,h3,rfl,h4⟩:=a5z h;simp[a6j l r h3]
theorem a8E {ro:Option Nat} {n:Nat} {y:Bool} {b1:Nat} {fm:Bool} {b0:Nat} {ops:Array Oper} {vl:List VOp} (hc:a2b P y N ops ops.toList=some vl) {Q:(Nat→AV)→List VObj→Nat→Prop} {Qp:Exit→Act→World→Prop}:∀ (fuel:Nat) (listed:Array Bool) (M:MM) (env:List (Nat × AV)) (a:Act),
 RH M→EnvR M env a→a.tmps.size=N→DfB b1 a.defers M.w→VAny P fm b0 ops vl Q fuel listed (get env) M.H M.nx →
 (∀ (M':MM) (env':List (Nat × AV)) (a':Act),M'.I0=M.I0→M'.w0=M.w0→RH M'→KeepRV M M'→EnvR M' env' a'→a'.tmps.size=N→DfB b1 a'.defers M'.w→Q (get env') M'.H M'.nx→Qp .normal a' M'.w) →
 wpAnyIn (FW ro) n P .any ops Qp fuel listed a M.w
 | 0,listed,M,env,a,hR,he,hN,hd,h,hQ=>⟨h.1,hQ M env a rfl rfl hR (KeepRV.refl _) he hN hd h.2⟩
 | fuel+1,listed,M,env,a,hR,he,hN,hd,h,hQ=>by
  refine ⟨fun h0=>hQ M env a rfl rfl hR (KeepRV.refl _) he hN hd (h.1 h0),fun i hi=>?_⟩;obtain ⟨o,ho,hop⟩:=h.2 i hi;obtain ⟨op,h1,h2,h3,h4,h5⟩:=b0F _ _ i o hc ho;have h1':ops[i]? = some op:=by simpa using h1
  have hdst:∀ t,op.dst=some t→t<a.tmps.size:=fun t e=>hN▸h5 t e;unfold wpOpIn;simp only[h1'];unfold VOp1 at hop;have go:∀ (hk:o.k.wpD P fm b0 (evF (get env)) M.H M.nx fun r H nx'=>VAny P fm b0 ops vl Q fuel (listed.setIfInBounds i true) (b0E (get env) o.d r) H nx'),op.wpIn (FW ro) n P a M.w (wpAnyIn (FW ro) n P .any ops Qp fuel (listed.setIfInBounds i true)) Qp:=fun hk=>by
   refine c1g hR he h2 (c4F hk.2) Qp _ fun v r' M' m1 m2 m3 m4 m5 m6=>?_;have he':=(he.keep m4).put (d:=op.dst) hdst m5 (H:=M'.H) (nx:=M'.nx);rw[h4,← a8B env M'.H M'.nx]at m6;exact a8E hc fuel _ M' _ _ m3 he' (by rw[a3k];exact hN) (by rw[a1P];exact hd.oth m4.oth) m6
    fun M'' env'' a'' n1 n2 n3 n4 n5 n6 n7 n8=>hQ M'' env'' a'' (n1.trans m1) (n2.trans m2) n3 (m4.trans n4) n5 n6 n7 n8
  have skip:∀ (hk:VAny P fm b0 ops vl Q fuel (listed.setIfInBounds i true) (b0E (get env) o.d (.val undef)) M.H M.nx),(∀ f,op.about P M.w a.eval=some f→(FW ro).fn f)∧wpAnyIn (FW ro) n P .any ops Qp fuel (listed.setIfInBounds i true) (a.put op.dst undef) M.w:=fun hk=>by
   have he':=he.put (d:=op.dst) hdst (r:=.val undef) (v:=undef) (by simp only[RV]) (H:=M.H) (nx:=M.nx);rw[h4,← a8B env M.H M.nx]at hk;exact ⟨fun _ _=>trivial,a8E hc fuel _ M _ _ hR he' (by rw[a3k];exact hN) (by rw[a1P];exact hd) hk hQ⟩
  cases hg:o.g with
  | none =>
   rw[hg]at h3;simp only[b7N,hg]at hop;simp only[a4d h3,if_true];exact go hop
  | some tw =>
   obtain ⟨t,want⟩:=tw;rw[hg]at h3;simp only[b7N,hg]at hop;have ht:=he t;have hw:=a6h h3 (a:=a) rfl;cases hq:get env t with
   | val v =>
    rw[hq]at ht hop;simp only[RV]at ht;cases v with
    | bool b =>
     rw[hw.1 b ht];simp only at hop;cases hbw:(b == want) with
     | true=>rw[hbw]at hop;simp only[if_true];exact go hop
     | false=>rw[hbw]at hop;simp only[Bool.false_eq_true,if_false];exact skip hop
    | _ =>
     rw[hw.2 (fun b e=>by rw[ht]at e;cases e)];simp only[Bool.false_eq_true,if_false];exact skip hop
   | _=>rw[hq]at hop;exact hop.elim
end
end Go.V
