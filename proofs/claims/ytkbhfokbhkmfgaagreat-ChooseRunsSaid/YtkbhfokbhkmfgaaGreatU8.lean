/- The engine, part 8: code made small, what it does said of data, and that it does that. No condition. -/
import Derived.Test.YtkbhfokbhkmfgaaGreatUB
import Derived.Scope
import Derived.Deep.LoopGhost
set_option linter.unusedVariables false
set_option linter.unusedSimpArgs false
namespace Go.V
open Go.RowKit
inductive VE where
 | normal
 | exit (id:Nat)
 | ret
inductive VC where
 | skip
 | ops (l:List VOp)
 | par (fm:Bool) (t:PT)
 | park (fm:Bool) (t:PT)
 | seq (x y:VC)
 | cond (c:Operand) (x y:VC)
 | block (id:Nat) (x:VC)
 | loop (x:VC)
 | range (g:Operand) (ps:List Nat) (x:VC)
 | exit (id:Nat)
 | ret
deriving Inhabited
def VE.seq (n:St→Prop) (Q:VE→St→Prop):VE→St→Prop
 | .normal,st=>n st
 | .exit id,st=>Q (.exit id) st
 | .ret,st=>Q .ret st
def VE.blk (id:Nat) (Q:VE→St→Prop):VE→St→Prop
 | .normal,st=>Q .normal st
 | .exit j,st=>if j=id then Q .normal st else Q (.exit j) st
 | .ret,st=>Q .ret st
def Wk (st st':St):Prop:=∀ (M:MM) (a:Act),RH M→M.H=st.H→M.nx=st.nx→EnvR M st.env a →
 ∃ M':MM,M'.I0=M.I0∧M'.w0=M.w0∧M'.w=M.w∧RH M'∧KeepRV M M'∧M'.H=st'.H∧M'.nx=st'.nx∧EnvR M' st'.env a
def a8h (P:Program) (fm:Bool) (b0:Nat) (Q:St→Prop):PT→St→Prop
 | .done,st=>Q st
 | .one ⟨d,none,k⟩ t,st=>k.wpD P fm b0 (evF (get st.env)) st.H st.nx fun r H nx=>a8h P fm b0 Q t (St.put ⟨st.env,H,nx⟩ d r)
 | .one ⟨d,some (u,want),k⟩ t,st=>match get st.env u with
  | .val (.bool b)=>(b=want→k.wpD P fm b0 (evF (get ((u,.val (.bool want))::st.env))) st.H st.nx fun r H nx=>a8h P fm b0 Q t (St.put ⟨(u,.val (.bool want))::st.env,H,nx⟩ d r)) ∧
   (b=(!want)→a8h P fm b0 Q t (St.put ⟨(u,.val (.bool (!want)))::st.env,st.H,st.nx⟩ d (.val undef)))
  | .val _=>a8h P fm b0 Q t (st.put d (.val undef))
  | _=>False
 | .both s t,st=>a8h P fm b0 Q s st∧a8h P fm b0 Q t st
def litE (c:Operand) (b:Bool) (env:List (Nat × AV)):List (Nat × AV):=match c with
 | .tmp t=>(t,.val (.bool b))::env
 | _=>env
theorem EnvR.litE {M:MM} {env:List (Nat × AV)} {a:Act} (he:EnvR M env a) {c:Operand} {b:Bool} (h:evF (get env) c = .val (.bool b)):EnvR M (litE c b env) a:=by
 cases c with
 | tmp t=>exact he.lit h
 | _=>exact he
def VW (P:Program):VC→(VE→St→Prop)→St→Prop
 | .skip,Q,st=>Q .normal st
 | .ops l,Q,st=>a5X P l (Q .normal) st
 | .par fm t,Q,st=>a8h P fm st.H.length (Q .normal) t st
 | .park fm t,Q,st=>∃ st',Wk st st'∧a8h P fm st'.H.length (Q .normal) t st'
 | .seq x y,Q,st=>VW P x (VE.seq (VW P y Q) Q) st
 | .cond c x y,Q,st=>match evF (get st.env) c with
  | .val (.bool t)=>(t=true→VW P x Q ⟨litE c true st.env,st.H,st.nx⟩)∧(t=false→VW P y Q ⟨litE c false st.env,st.H,st.nx⟩)
  | _=>False
 | .block id x,Q,st=>VW P x (VE.blk id Q) st
 | .loop x,Q,st=>∃ (J:Nat→St→Prop) (n:Nat) (st':St),Wk st st'∧J n st' ∧
  ∀ n st,J n st→VW P x (VE.seq (fun st'=>∃ st'' m,m<n∧Wk st' st''∧J m st'') Q) st
 | .range g ps x,Q,st=>match evF (get st.env) g with
  | .fn f cs=>∀ R B E:VObj,R.sz=0 →
   (∀ (args:List AV) (H:List VObj) (nx:Nat) (C:AV→List VObj→Nat→Prop),H[st.H.length]? = some R→args.length=ps.length →
     VW P x (fun e st'=>e = .normal∧st'.H[st.H.length]? = some B∧C (.val (.bool true)) (st'.H.set st.H.length R) st'.nx) ⟨ps.zip args++st.env,H.set st.H.length B,nx⟩→YCall P st.H.length st.nx args H nx C) →
   VCall P f (.yld st.H.length st.nx::cs) (st.H++[R]) (st.nx+1) fun _ H nx=>H[st.H.length]? = some R∧Q .normal ⟨st.env,H.set st.H.length E,nx⟩
  | _=>False
 | .exit id,Q,st=>Q (.exit id) st
 | .ret,Q,st=>Q .ret st
def c7j (ops:Array Oper) (l:List VOp):Option Nat :=
 (List.range ops.size).find? fun n=>Region.lexTailB .any ops n && (l.take n).all fun o=>o.k.quiet
def c4G (ops:Array Oper) (l:List VOp):Bool :=
 (Region.lexB .any ops && l.all fun o=>o.k.quiet) || (c7j ops l).isSome
def c1e (pt fm:Bool) (t:PT):VC:=if pt then .park fm t else .par fm t
def c7k (l:List VOp):Bool:=(l.any fun o=>match o.k with
 | .app _ _ _ (.tmp t) _=>l.any fun o'=>o'.d == some t && (match o'.k with | .ld ..=>true | _=>false)
 | _=>false) || ((l.any fun o=>match o.k with | .app ..=>true | _=>false) && (l.any fun o=>match o.k with | .sto ..=>true | _=>false) && !(l.any fun o=>match o.k with | .alc ..=>true | .box ..=>true | _=>false)) || l.any fun o=>match o.k with | .callM _ (.tmp _) _=>true | _=>false
def a3n (P:Program) (N:Nat) (pt pf:Bool):Code→Option VC
 | .skip=>some .skip
 | .region _ ops draw=>match a1B P N ops ops.toList with
  | some l=>if !draw || c4G ops l then some (.ops l) else
   match b7A pf ops l ops.size (if c7k l then 6 else 2) (Array.replicate ops.size false) with
   | some t=>some (c1e pt pf t)
   | none=>match b7A true ops l ops.size 3 (Array.replicate ops.size false) with
    | some t=>some (c1e pt true t)
    | none=>match b7A false ops l ops.size 4 (Array.replicate ops.size false) with
     | some t=>some (c1e pt false t)
     | none=>none
  | none=>none
 | .seq x y=>match a3n P N pt pf x,a3n P N pt pf y with
  | some a,some b=>some (.seq a b)
  | _,_=>none
 | .cond c x y=>match a3n P N pt pf x,a3n P N pt pf y with
  | some a,some b=>some (.cond c a b)
  | _,_=>none
 | .block id x=>match a3n P N pt pf x with
  | some a=>some (.block id a)
  | none=>none
 | .loop x=>match a3n P N pt pf x with
  | some a=>some (.loop a)
  | none=>none
 | .exit id=>some (.exit id)
 | .scope x=>a3n P N pt pf x
 | .label _=>some .skip
 | .ret=>some .ret
 | _=>none
def Post (N:Nat) (M0:MM) (Q:VE→St→Prop):Exit→Act→World→Prop:=fun e a w =>
 ∃ (M:MM) (env:List (Nat × AV)),M.I0=M0.I0∧M.w0=M0.w0∧M.w=w∧RH M∧KeepRV M0 M∧EnvR M env a∧a.tmps.size=N∧a.defers=[] ∧
  match e with
  | .normal=>Q .normal ⟨env,M.H,M.nx⟩
  | .exit id=>Q (.exit id) ⟨env,M.H,M.nx⟩
  | .ret=>Q .ret ⟨env,M.H,M.nx⟩
  | _=>False
section
variable {P:Program} {N:Nat}
theorem a3k (a:Act) (d:Option Nat) (v:Value):(a.put d v).tmps.size=a.tmps.size:=by cases d<;>simp[Act.put]
theorem a1P (a:Act) (d:Option Nat) (v:Value):(a.put d v).defers=a.defers:=by cases d<;>rfl
theorem b4i (env:List (Nat × AV)) (H:List VObj) (nx:Nat) (d:Option Nat) (r:AV):St.put ⟨env,H,nx⟩ d r=⟨(St.put ⟨env,H,nx⟩ d r).env,H,nx⟩:=by cases d<;>rfl
theorem a3o {ops:Array Oper} {o:Oper} {l:List Oper} {vl:List VOp} (h:a1B P N ops (o::l)=some vl) :
 ∃ k g r,b1R P o.op=some k∧b3z ops o.guard=some g∧a1B P N ops l=some r∧vl=⟨o.dst,g,k⟩::r∧∀ t,o.dst=some t→t<N:=by
 simp only[a1B]at h;split at h
 ·rename_i k g r h1 h2 h3;split at h
  ·rename_i h4;cases h;exact ⟨k,g,r,h1,h2,h3,rfl,fun t e=>by rw[e]at h4;simpa [c0P] using h4⟩
  ·cases h
 ·cases h
theorem a6h {ops:Array Oper} {o:Oper} {t:Nat} {want:Bool} (hg:b3z ops o.guard=some (some (t,want))) {a:Act} {x:Value} (hx:a.tmps.getD t undef=x) :
 (∀ b,x = .bool b→Region.wanted o (yielded ops a.tmps)=(b == want))∧((∀ b,x≠.bool b)→Region.wanted o (yielded ops a.tmps)=false):=by
 unfold b3z at hg;split at hg
 ·cases hg
 ·rename_i j w' hgo;split at hg
  ·rename_i t' ht;simp only[Option.some.injEq,Prod.mk.injEq]at hg;obtain ⟨rfl,rfl⟩:=hg;refine ⟨fun b hb=>?_,fun hb=>?_⟩
   ·have hb':a.tmps[t']? = some (.bool b):=by
     rw[hb]at hx;rcases Nat.lt_or_ge t' a.tmps.size with h | h
     ·simp[h]at hx ⊢;exact hx
     ·simp[Array.getElem?_eq_none h,undef]at hx
    simp only[Region.wanted,hgo,yielded,ht,Option.bind_some,hb'];cases b<;>cases w'<;>rfl
   ·simp only[Region.wanted,hgo,yielded,ht,Option.bind_some];cases hq:a.tmps[t']? with
    | none=>simp
    | some v =>
     have:v=x:=by rw[← hx];simp[hq]
     subst this;cases v<;>simp_all
  ·cases hg
theorem a4d {ops:Array Oper} {o:Oper} (hg:b3z ops o.guard=some none) (y:Nat→Option Bool):Region.wanted o y=true:=by
 unfold b3z at hg;split at hg
 ·rename_i h;simp[Region.wanted,h]
 ·split at hg<;>simp at hg
theorem a7P {ops:Array Oper} {Qp:Exit→Act→World→Prop}:∀ (l:List Oper) (vl:List VOp),a1B P N ops l=some vl→∀ (Q0:St→Prop) (M:MM) (env:List (Nat × AV)) (a:Act),
 RH M→EnvR M env a→a.tmps.size=N→a.defers=[]→a5X P vl Q0 ⟨env,M.H,M.nx⟩ →
 (∀ (M':MM) (env':List (Nat × AV)) (a':Act),M'.I0=M.I0→M'.w0=M.w0→RH M'→KeepRV M M'→EnvR M' env' a'→a'.tmps.size=N→a'.defers=[]→Q0 ⟨env',M'.H,M'.nx⟩→Qp .normal a' M'.w) →
 wpList P ops Qp l a M.w
 | [],vl,hc,Q0,M,env,a,hR,he,hN,hd,h,hQ=>by
  simp only[a1B,Option.some.injEq]at hc;subst hc;exact hQ M env a rfl rfl hR (KeepRV.refl _) he hN hd h
 | o::l,vl,hc,Q0,M,env,a,hR,he,hN,hd,h,hQ=>by
  obtain ⟨k,g,r,h1,h2,h3,rfl,h4⟩:=a3o hc;have hdst:∀ t,o.dst=some t→t<a.tmps.size:=fun t e=>hN▸h4 t e;have go:∀ {env:List (Nat × AV)} (he:EnvR M env a) (hk:k.wp P (evF (get env)) M.H M.nx fun r' H nx=>a5X P r Q0 (St.put ⟨env,H,nx⟩ o.dst r')),o.wp P a M.w (wpList P ops Qp l) Qp:=fun {env} he hk=>by
   refine b0e hR he h1 hk Qp _ fun v r' M' m1 m2 m3 m4 m5 m6=>?_;have he':=(he.keep m4).put (d:=o.dst) hdst m5 (H:=M'.H) (nx:=M'.nx);rw[b4i]at m6;exact a7P l r h3 Q0 M' _ _ m3 he' (by rw[a3k];exact hN) (by rw[a1P];exact hd) m6
    fun M'' env'' a'' n1 n2 n3 n4 n5 n6 n7 n8=>hQ M'' env'' a'' (n1.trans m1) (n2.trans m2) n3 (m4.trans n4) n5 n6 n7 n8
  have skip:∀ {env:List (Nat × AV)} (he:EnvR M env a) (hk:a5X P r Q0 (St.put ⟨env,M.H,M.nx⟩ o.dst (.val undef))),wpList P ops Qp l (a.put o.dst undef) M.w:=fun {env} he hk=>by
   have he':=he.put (d:=o.dst) hdst (r:=.val undef) (v:=undef) (by simp only[RV]) (H:=M.H) (nx:=M.nx);rw[b4i]at hk;exact a7P l r h3 Q0 M _ _ hR he' (by rw[a3k];exact hN) (by rw[a1P];exact hd) hk hQ
  cases g with
  | none =>
   simp only[a5X]at h;simp only[wpList,a4d h2,if_true];exact .inl (go he h)
  | some tw =>
   obtain ⟨t,want⟩:=tw;simp only[a5X]at h;have ht:=he t;have hw:=a6h h2 (a:=a) rfl;simp only[wpList];split at h
   ·rename_i b hb;rw[hb]at ht;simp only[RV]at ht;rw[hw.1 b ht];by_cases hbw:b=want
    ·subst hbw;simp only[beq_self_eq_true,if_true];exact .inl (go (he.lit hb) (h.1 rfl))
    ·have:(b == want)=false:=by simpa using hbw
     simp only[this,Bool.false_eq_true,if_false];have hb':b = !want:=by cases b<;>cases want<;>simp_all
     exact skip (he.lit (hb'▸hb)) (h.2 hb')
   ·rename_i v hv hb;rw[hb]at ht;simp only[RV]at ht;rw[hw.2 (fun b e=>hv b (by rw[← ht,e]))];simp only[Bool.false_eq_true,if_false];exact skip he h
   ·exact h.elim
theorem a7Q {ops:Array Oper} {Qs:Act→Prop}:∀ (l:List Oper) (vl vt:List VOp),a1B P N ops l=some vl→(vl.all fun o=>o.k.quiet)=true→∀ (Q0:St→Prop) (M:MM) (env:List (Nat × AV)) (a:Act),
 RH M→EnvR M env a→a.tmps.size=N→a.defers=[]→a5X P (vl++vt) Q0 ⟨env,M.H,M.nx⟩ →
 (∀ (env':List (Nat × AV)) (a':Act),EnvR M env' a'→a'.tmps.size=N→a'.defers=[]→a5X P vt Q0 ⟨env',M.H,M.nx⟩→Qs a') →
 wpStill P ops M.w Qs l a
 | [],vl,vt,hc,_,Q0,M,env,a,hR,he,hN,hd,h,hQ=>by
  simp only[a1B,Option.some.injEq]at hc;subst hc;exact hQ env a he hN hd h
 | o::l,vl,vt,hc,hq,Q0,M,env,a,hR,he,hN,hd,h,hQ=>by
  obtain ⟨k,g,r,h1,h2,h3,rfl,h4⟩:=a3o hc;simp only[List.all_cons,Bool.and_eq_true]at hq;have hdst:∀ t,o.dst=some t→t<a.tmps.size:=fun t e=>hN▸h4 t e;have go:∀ {env:List (Nat × AV)} (he:EnvR M env a) (hk:k.wp P (evF (get env)) M.H M.nx fun r' H nx=>a5X P (r++vt) Q0 (St.put ⟨env,H,nx⟩ o.dst r')),o.still P a M.w (wpStill P ops M.w Qs l):=fun {env} he hk=>by
   obtain ⟨v,r',q1,q2,q3⟩:=b7L hR he h1 hq.1 hk;unfold Oper.still;rw[q1];refine ⟨rfl,?_⟩;have he':=he.put (d:=o.dst) hdst q2 (H:=M.H) (nx:=M.nx);rw[b4i]at q3;exact a7Q l r vt h3 hq.2 Q0 M _ _ hR he' (by rw[a3k];exact hN) (by rw[a1P];exact hd) q3 hQ
  have skip:∀ {env:List (Nat × AV)} (he:EnvR M env a) (hk:a5X P (r++vt) Q0 (St.put ⟨env,M.H,M.nx⟩ o.dst (.val undef))),wpStill P ops M.w Qs l (a.put o.dst undef):=fun {env} he hk=>by
   have he':=he.put (d:=o.dst) hdst (r:=.val undef) (v:=undef) (by simp only[RV]) (H:=M.H) (nx:=M.nx);rw[b4i]at hk;exact a7Q l r vt h3 hq.2 Q0 M _ _ hR he' (by rw[a3k];exact hN) (by rw[a1P];exact hd) hk hQ
  cases g with
  | none =>
   simp only[List.cons_append,a5X]at h;simp only[wpStill,a4d h2,if_true];exact go he h
  | some tw =>
   obtain ⟨t,want⟩:=tw;simp only[List.cons_append,a5X]at h;have ht:=he t;have hw:=a6h h2 (a:=a) rfl;simp only[wpStill];split at h
   ·rename_i b hb;rw[hb]at ht;simp only[RV]at ht;rw[hw.1 b ht];by_cases hbw:b=want
    ·subst hbw;simp only[beq_self_eq_true,if_true];exact go (he.lit hb) (h.1 rfl)
    ·have:(b == want)=false:=by simpa using hbw
     simp only[this,Bool.false_eq_true,if_false];have hb':b = !want:=by cases b<;>cases want<;>simp_all
     exact skip (he.lit (hb'▸hb)) (h.2 hb')
   ·rename_i v hv hb;rw[hb]at ht;simp only[RV]at ht;rw[hw.2 (fun b e=>hv b (by rw[← ht,e]))];simp only[Bool.false_eq_true,if_false];exact skip he h
   ·exact h.elim
theorem a9h {ops:Array Oper}:∀ (l:List Oper) (vl:List VOp) (n:Nat),a1B P N ops l=some vl→a1B P N ops (l.take n)=some (vl.take n)∧a1B P N ops (l.drop n)=some (vl.drop n)
 | [],vl,n,h=>by simp only[a1B,Option.some.injEq]at h;subst h;simp[a1B]
 | o::l,vl,0,h=>by simp[a1B,h]
 | o::l,vl,n+1,h=>by
  obtain ⟨k,g,r,h1,h2,h3,rfl,h4⟩:=a3o h;have ih:=a9h l r n h3;refine ⟨?_,by simpa using ih.2⟩;simp only[List.take_succ_cons,a1B,h1,h2,ih.1];rw[if_pos];cases hd:o.dst with
  | none=>rfl
  | some d=>simpa [c0P] using h4 d hd
theorem a8B (env:List (Nat × AV)) (H:List VObj) (nx:Nat) (d:Option Nat) (r:AV):get (St.put ⟨env,H,nx⟩ d r).env=b0E (get env) d r:=by
 cases d with
 | none=>rfl
 | some d=>funext t;simp only[St.put,get,b0E]
theorem b2x {fm:Bool} {b0:Nat} {Q:St→Prop}:∀ (t:PT) (st:St),a8h P fm b0 Q t st→VTr P fm b0 (fun e H nx=>∃ env,get env=e∧Q ⟨env,H,nx⟩) t (get st.env) st.H st.nx
 | .done,st,h=>⟨st.env,rfl,h⟩
 | .one ⟨d,none,k⟩ t,st,h=>by
  have hl:k.lets fm 0=true:=by cases k<;>first | rfl | simp[K.lets]
  simp only[a8h]at h;simp only[VTr,VOp1,b7N];refine a6g hl h fun r H nx _ hc=>?_;have:=b2x t _ hc;rw[a8B]at this;cases d<;>exact this
 | .one ⟨d,some (u,want),k⟩ t,st,h=>by
  have hl:k.lets fm 0=true:=by cases k<;>first | rfl | simp[K.lets]
  have skip:∀ (env:List (Nat × AV)),get env=get st.env→a8h P fm b0 Q t (St.put ⟨env,st.H,st.nx⟩ d (.val undef))→VTr P fm b0 (fun e H nx=>∃ env,get env=e∧Q ⟨env,H,nx⟩) t (b0E (get st.env) d (.val undef)) st.H st.nx:=fun env hg hc=>by
   have:=b2x t _ hc;have e:=a8B env st.H st.nx d (.val undef);rw[e,hg]at this;cases d<;>exact this
  simp only[a8h]at h;simp only[VTr,VOp1,b7N];split at h
  ·rename_i b hb;simp only[hb];by_cases hbw:b=want
   ·subst hbw;simp only[beq_self_eq_true];have h1:=h.1 rfl;rw[b4I hb]at h1;refine a6g hl h1 fun r H nx _ hc=>?_;have:=b2x t _ hc;rw[a8B,b4I hb]at this;cases d<;>exact this
   ·have:(b == want)=false:=by simpa using hbw
    simp only[this];have hb':b = !want:=by cases b<;>cases want<;>simp_all
    exact skip _ (b4I (hb'▸hb)) (h.2 hb')
  ·rename_i v hv hb;simp only[hb];cases v<;>first | exact (hv _ rfl).elim | exact skip st.env rfl h
  ·exact h.elim
 | .both s t,st,h=>by
  simp only[a8h]at h;exact ⟨b2x s st h.1,b2x t st h.2⟩
theorem b2y {ops:Array Oper}:∀ (l:List Oper) (vl:List VOp) (i:Nat) (o:VOp),a1B P N ops l=some vl→vl[i]? = some o →
 ∃ op,l[i]? = some op∧b1R P op.op=some o.k∧b3z ops op.guard=some o.g∧o.d=op.dst∧∀ t,op.dst=some t→t<N
 | [],vl,i,o,h,ho=>by simp only[a1B,Option.some.injEq]at h;subst h;simp at ho
 | op::l,vl,i,o,h,ho=>by
  obtain ⟨k,g,r,h1,h2,h3,rfl,h4⟩:=a3o h;cases i with
  | zero=>simp at ho;subst ho;exact ⟨op,by simp,h1,h2,rfl,h4⟩
  | succ i=>exact b2y l r i o h3 (by simpa using ho) |>.imp fun q hq=>⟨by simpa using hq.1,hq.2⟩
theorem a8i {ops:Array Oper}:∀ (l:List Oper) (vl:List VOp),a1B P N ops l=some vl→vl.length=l.length
 | [],vl,h=>by simp only[a1B,Option.some.injEq]at h;subst h;rfl
 | op::l,vl,h=>by
  obtain ⟨k,g,r,h1,h2,h3,rfl,h4⟩:=a3o h;simp[a8i l r h3]
theorem b0g {fm:Bool} {b0:Nat} {ops:Array Oper} {vl:List VOp} (hc:a1B P N ops ops.toList=some vl) {Q:(Nat→AV)→List VObj→Nat→Prop} {Qp:Exit→Act→World→Prop}:∀ (fuel:Nat) (listed:Array Bool) (M:MM) (env:List (Nat × AV)) (a:Act),
 RH M→EnvR M env a→a.tmps.size=N→a.defers=[]→VAny P fm b0 ops vl Q fuel listed (get env) M.H M.nx →
 (∀ (M':MM) (env':List (Nat × AV)) (a':Act),M'.I0=M.I0→M'.w0=M.w0→RH M'→KeepRV M M'→EnvR M' env' a'→a'.tmps.size=N→a'.defers=[]→Q (get env') M'.H M'.nx→Qp .normal a' M'.w) →
 wpAny P .any ops Qp fuel listed a M.w
 | 0,listed,M,env,a,hR,he,hN,hd,h,hQ=>⟨h.1,hQ M env a rfl rfl hR (KeepRV.refl _) he hN hd h.2⟩
 | fuel+1,listed,M,env,a,hR,he,hN,hd,h,hQ=>by
  refine ⟨fun h0=>hQ M env a rfl rfl hR (KeepRV.refl _) he hN hd (h.1 h0),fun i hi=>?_⟩;obtain ⟨o,ho,hop⟩:=h.2 i hi;obtain ⟨op,h1,h2,h3,h4,h5⟩:=b2y _ _ i o hc ho;have h1':ops[i]? = some op:=by simpa using h1
  have hdst:∀ t,op.dst=some t→t<a.tmps.size:=fun t e=>hN▸h5 t e;unfold wpOp;simp only[h1'];unfold VOp1 at hop;have go:∀ (hk:o.k.wpD P fm b0 (evF (get env)) M.H M.nx fun r H' nx'=>VAny P fm b0 ops vl Q fuel (listed.setIfInBounds i true) (b0E (get env) o.d r) H' nx'),op.wp P a M.w (wpAny P .any ops Qp fuel (listed.setIfInBounds i true)) Qp:=fun hk=>by
   refine b0e hR he h2 (c4F hk.2) Qp _ fun v r' M' m1 m2 m3 m4 m5 m6=>?_;have he':=(he.keep m4).put (d:=op.dst) hdst m5 (H:=M'.H) (nx:=M'.nx);rw[h4,← a8B env M'.H M'.nx]at m6;exact b0g hc fuel _ M' _ _ m3 he' (by rw[a3k];exact hN) (by rw[a1P];exact hd) m6
    fun M'' env'' a'' n1 n2 n3 n4 n5 n6 n7 n8=>hQ M'' env'' a'' (n1.trans m1) (n2.trans m2) n3 (m4.trans n4) n5 n6 n7 n8
  have skip:∀ (hk:VAny P fm b0 ops vl Q fuel (listed.setIfInBounds i true) (b0E (get env) o.d (.val undef)) M.H M.nx),wpAny P .any ops Qp fuel (listed.setIfInBounds i true) (a.put op.dst undef) M.w:=fun hk=>by
   have he':=he.put (d:=op.dst) hdst (r:=.val undef) (v:=undef) (by simp only[RV]) (H:=M.H) (nx:=M.nx);rw[h4,← a8B env M.H M.nx]at hk;exact b0g hc fuel _ M _ _ hR he' (by rw[a3k];exact hN) (by rw[a1P];exact hd) hk hQ
  cases hg:o.g with
  | none =>
   rw[hg]at h3;simp only[b7N,hg]at hop;simp only[a4d h3,if_true];exact .inl (go hop)
  | some tw =>
   obtain ⟨t,want⟩:=tw;rw[hg]at h3;simp only[b7N,hg]at hop;have ht:=he t;have hw:=a6h h3 (a:=a) rfl;cases hq:get env t with
   | val v =>
    rw[hq]at ht hop;simp only[RV]at ht;cases v with
    | bool b =>
     rw[hw.1 b ht];simp only at hop;cases hbw:(b == want) with
     | true=>rw[hbw]at hop;simp only[if_true];exact .inl (go hop)
     | false=>rw[hbw]at hop;simp only[Bool.false_eq_true,if_false];exact skip hop
    | _ =>
     rw[hw.2 (fun b e=>by rw[ht]at e;cases e)];simp only[Bool.false_eq_true,if_false];exact skip hop
   | _=>rw[hq]at hop;exact hop.elim
theorem RH.drew {M:MM} (hR:RH M) (n:Nat):RH { M with w:={ M.w with drawn:=n } }∧Keep M { M with w:={ M.w with drawn:=n } }:=by
 have hk:Keep M { M with w:={ M.w with drawn:=n } }:=⟨fun _ h=>h,fun _ _ _ _ _ h=>h,⟨Nat.le_refl _,fun _ h=>h⟩,Nat.le_refl _,fun _ ob h _=>⟨ob,h,rfl,rfl,Nat.le_refl _,rfl,rfl,fun _ _ cur ty fr h=>⟨cur,ty,fr,h,rfl⟩⟩⟩
 refine ⟨⟨⟨hR.below.os,hR.below.tape,hR.below.output,hR.below.size,hR.below.block⟩,hR.i0,hR.len,hR.inj,fun id ob ho=>?_⟩,hk⟩;obtain ⟨h1,h2⟩:=hR.own id ob ho;refine ⟨h1,?_⟩;show (match M.m.getD id none with | none=>_ | some g=>_);cases hm:M.m.getD id none with
 | none=>rw[hm]at h2;exact h2
 | some g =>
  rw[hm]at h2;obtain ⟨p1,cur,p2,p3,p4⟩:=h2;exact ⟨p1,cur,p2,p3,fun j x v hx hv=>RV.keep hk x v (p4 j x v hx hv)⟩
theorem Post.mono {M0 M1:MM} (h0:M1.I0=M0.I0) (h1:M1.w0=M0.w0) (hk:KeepRV M0 M1) {Q Q':VE→St→Prop} {e:Exit} {a:Act} {w:World} (h:Post N M1 Q e a w)
 (hn:e = .normal→∀ st,Q .normal st→Q' .normal st) (hx:∀ id,e = .exit id→∀ st,Q (.exit id) st→Q' (.exit id) st) (hr:e = .ret→∀ st,Q .ret st→Q' .ret st):Post N M0 Q' e a w:=by
 obtain ⟨M,env,p1,p2,p3,p4,p5,p6,p7,p8,p9⟩:=h;refine ⟨M,env,p1.trans h0,p2.trans h1,p3,p4,hk.trans p5,p6,p7,p8,?_⟩;cases e with
 | normal=>exact hn rfl _ p9
 | exit id=>exact hx id rfl _ p9
 | ret=>exact hr rfl _ p9
 | goto l=>exact p9
 | panic c=>exact p9
 | outgrown=>exact p9
theorem a3l {pt pf:Bool} (hm:P.follows .mixedOrders=true):∀ (c:Code) (vc:VC),a3n P N pt pf c=some vc→∀ (Q:VE→St→Prop) (M:MM) (env:List (Nat × AV)) (a:Act),
 RH M→EnvR M env a→a.tmps.size=N→a.defers=[]→VW P vc Q ⟨env,M.H,M.nx⟩→c.wp P (Post N M Q) a M.w
 | .skip,vc,hc,Q,M,env,a,hR,he,hN,hd,h=>by
  simp only[a3n,Option.some.injEq]at hc;subst hc;exact wp_skip ⟨M,env,rfl,rfl,rfl,hR,KeepRV.refl _,he,hN,hd,h⟩
 | .label l,vc,hc,Q,M,env,a,hR,he,hN,hd,h=>by
  simp only[a3n,Option.some.injEq]at hc;subst hc;exact wp_label ⟨M,env,rfl,rfl,rfl,hR,KeepRV.refl _,he,hN,hd,h⟩
 | .exit id,vc,hc,Q,M,env,a,hR,he,hN,hd,h=>by
  simp only[a3n,Option.some.injEq]at hc;subst hc;exact wp_exit ⟨M,env,rfl,rfl,rfl,hR,KeepRV.refl _,he,hN,hd,h⟩
 | .ret,vc,hc,Q,M,env,a,hR,he,hN,hd,h=>by
  simp only[a3n,Option.some.injEq]at hc;subst hc;exact wp_ret ⟨M,env,rfl,rfl,rfl,hR,KeepRV.refl _,he,hN,hd,h⟩
 | .region id ops draw,vc,hc,Q,M,env,a,hR,he,hN,hd,h=>by
  simp only[a3n]at hc;split at hc
  ·rename_i l hl;split at hc
   ·rename_i hdr;cases hc;simp only[VW]at h;cases draw with
    | false =>
     refine wp_region_list (a7P ops.toList l hl _ M env a hR he hN hd h fun M' env' a' m1 m2 m3 m4 m5 m6 m7 m8=>?_);exact ⟨M',env',m1,m2,rfl,m3,m4,m5,m6,m7,m8⟩
    | true =>
     obtain ⟨hR1,hk1⟩:=hR.drew (M.w.drawn+1);have he1:=he.keep hk1.rv;simp only[Bool.not_true,Bool.false_or,c4G,Bool.or_eq_true,Bool.and_eq_true]at hdr;rcases hdr with ⟨hB,hq⟩ | htail
     ·refine wp_region_still hm hB ?_;refine a7Q (M:={ M with w:={ M.w with drawn:=M.w.drawn+1 } }) ops.toList l [] hl hq (Q .normal) env a hR1 he1 hN hd (by simpa using h) fun env' a' m1 m2 m3 m4=>?_;exact ⟨{ M with w:={ M.w with drawn:=M.w.drawn+1 } },env',rfl,rfl,rfl,hR1,hk1.rv,m1,m2,m3,m4⟩
     ·obtain ⟨n,hn⟩:=Option.isSome_iff_exists.1 htail;have hn1:=List.find?_some hn;simp only[Bool.and_eq_true]at hn1;obtain ⟨hB,hq⟩:=hn1;obtain ⟨s1,s2⟩:=a9h ops.toList l n hl;have hlit:ops=ops.toList.toArray:=by simp
      rw[hlit];refine wp_region_still_tail n hm (by rw[← hlit];exact hB) ?_;rw[← hlit];refine a7Q (M:={ M with w:={ M.w with drawn:=M.w.drawn+1 } }) (ops.toList.take n) (l.take n) (l.drop n) s1 hq (Q .normal) env a hR1 he1 hN hd (by rw[List.take_append_drop];exact h) fun env' a' m1 m2 m3 m4=>?_;refine a7P (M:={ M with w:={ M.w with drawn:=M.w.drawn+1 } }) (ops.toList.drop n) (l.drop n) s2 _ env' a' hR1 m1 m2 m3 m4 fun M' env' a' m1 m2 m3 m4 m5 m6 m7 m8=>?_;exact ⟨M',env',m1,m2,rfl,m3,hk1.rv.trans m4,m5,m6,m7,m8⟩
   ·rename_i hdr;have hdraw:draw=true:=by cases draw with | true=>rfl | false=>simp at hdr
    subst hdraw;have hlen:l.length=ops.size:=by rw[a8i _ _ hl];simp
    have go0:∀ (M:MM) (env:List (Nat × AV)) (fm:Bool) (forks:Nat) (t:PT),RH M→EnvR M env a→b7A fm ops l ops.size forks (Array.replicate ops.size false)=some t→a8h P fm M.H.length (Q .normal) t ⟨env,M.H,M.nx⟩→(Code.region id ops true).wp P (Post N M Q) a M.w:=fun M env fm forks t hR he ht h=>by
     obtain ⟨hR1,hk1⟩:=hR.drew (M.w.drawn+1);have he1:=he.keep hk1.rv;refine wp_region_any hm ?_;refine b0g (M:={ M with w:={ M.w with drawn:=M.w.drawn+1 } }) hl ops.size _ env a hR1 he1 hN hd (a7O hlen _ _ _ t ht _ _ _ (b2x t _ h)) fun M' env' a' m1 m2 m3 m4 m5 m6 m7 m8=>?_;obtain ⟨env'',e1,e2⟩:=m8;exact ⟨M',env'',m1,m2,rfl,m3,hk1.rv.trans m4,fun t=>by rw[e1];exact m5 t,m6,m7,e2⟩
    have go:∀ (fm:Bool) (forks:Nat) (t:PT),b7A fm ops l ops.size forks (Array.replicate ops.size false)=some t→VW P (c1e pt fm t) Q ⟨env,M.H,M.nx⟩→(Code.region id ops true).wp P (Post N M Q) a M.w:=fun fm forks t ht h=>by
     cases pt with
     | false =>
      have h':VW P (.par fm t) Q ⟨env,M.H,M.nx⟩:=h;simp only[VW]at h';exact go0 M env fm forks t hR he ht h'
     | true =>
      have h':VW P (.park fm t) Q ⟨env,M.H,M.nx⟩:=h;simp only[VW]at h';obtain ⟨⟨env2,H2,nx2⟩,hw,h2⟩:=h';obtain ⟨M1,w1,w2,w3,w4,w5,w6,w7,w8⟩:=hw M a hR rfl rfl he;simp only at w6 w7 w8;subst w6;subst w7;have:=go0 M1 env2 fm forks t w4 w8 ht h2;rw[w3]at this;exact wp_mono this fun e a w hp=>hp.mono w1 w2 w5 (fun _ _ h=>h) (fun _ _ _ h=>h) (fun _ _ h=>h)
    split at hc
    ·rename_i t ht;cases hc;exact go _ _ t ht h
    ·split at hc
     ·rename_i t ht;cases hc;exact go _ _ t ht h
     ·split at hc
      ·rename_i t ht;cases hc;exact go _ _ t ht h
      ·cases hc
  ·cases hc
 | .seq x y,vc,hc,Q,M,env,a,hR,he,hN,hd,h=>by
  simp only[a3n]at hc;split at hc
  ·rename_i vx vy hx hy;cases hc;simp only[VW]at h;refine wp_seq (wp_mono (a3l hm x vx hx _ M env a hR he hN hd h) fun e a' w' hp=>?_);cases e with
   | normal =>
    obtain ⟨M',env',p1,p2,rfl,p4,p5,p6,p7,p8,p9⟩:=hp;refine wp_mono (a3l hm y vy hy Q M' env' a' p4 p6 p7 p8 p9) fun e a w hq=>?_;exact hq.mono p1 p2 p5 (fun _ _ h=>h) (fun _ _ _ h=>h) (fun _ _ h=>h)
   | exit id=>exact hp.mono rfl rfl (KeepRV.refl _) (fun e=>by cases e) (fun id e st h=>by cases e;exact h) (fun e=>by cases e)
   | ret=>exact hp.mono rfl rfl (KeepRV.refl _) (fun e=>by cases e) (fun id e=>by cases e) (fun e st h=>h)
   | goto l=>obtain ⟨_,_,_,_,_,_,_,_,_,_,p9⟩:=hp;exact p9.elim
   | panic ch=>obtain ⟨_,_,_,_,_,_,_,_,_,_,p9⟩:=hp;exact p9.elim
   | outgrown=>obtain ⟨_,_,_,_,_,_,_,_,_,_,p9⟩:=hp;exact p9.elim
  ·cases hc
 | .cond c x y,vc,hc,Q,M,env,a,hR,he,hN,hd,h=>by
  simp only[a3n]at hc;split at hc
  ·rename_i vx vy hx hy;cases hc;simp only[VW]at h;have hv:=EnvR.ev he c;split at h
   ·rename_i t ht;rw[ht]at hv;simp only[RV]at hv;exact wp_cond_split hv (fun e=>a3l hm x vx hx Q M _ a hR (he.litE (by rw[ht,e])) hN hd (h.1 e)) (fun e=>a3l hm y vy hy Q M _ a hR (he.litE (by rw[ht,e])) hN hd (h.2 e))
   ·exact h.elim
  ·cases hc
 | .block id x,vc,hc,Q,M,env,a,hR,he,hN,hd,h=>by
  simp only[a3n]at hc;split at hc
  ·rename_i vx hx;cases hc;simp only[VW]at h;refine wp_block (wp_mono (a3l hm x vx hx _ M env a hR he hN hd h) fun e a' w' hp=>?_);obtain ⟨M',env',p1,p2,p3,p4,p5,p6,p7,p8,p9⟩:=hp;cases e with
   | normal=>exact ⟨M',env',p1,p2,p3,p4,p5,p6,p7,p8,p9⟩
   | exit j =>
    simp only[Exit.inBlock];simp only[VE.blk]at p9;split
    ·rename_i e;rw[if_pos e]at p9;exact ⟨M',env',p1,p2,p3,p4,p5,p6,p7,p8,p9⟩
    ·rename_i e;rw[if_neg e]at p9;exact ⟨M',env',p1,p2,p3,p4,p5,p6,p7,p8,p9⟩
   | ret=>exact ⟨M',env',p1,p2,p3,p4,p5,p6,p7,p8,p9⟩
   | goto l=>exact p9.elim
   | panic ch=>exact p9.elim
   | outgrown=>exact p9.elim
  ·cases hc
 | .loop x,vc,hc,Q,M,env,a,hR,he,hN,hd,h=>by
  simp only[a3n]at hc;split at hc
  ·rename_i vx hx;cases hc;simp only[VW]at h;obtain ⟨J,n,st',hs,hJ,hround⟩:=h;obtain ⟨M1,q1,q2,q3,q4,q5,q6,q7,q8⟩:=hs M a hR rfl rfl he;refine wp_loop_ghost (fun n a w=>∃ M' env',M'.I0=M.I0∧M'.w0=M.w0∧M'.w=w∧RH M'∧KeepRV M M'∧EnvR M' env' a∧a.tmps.size=N∧a.defers=[]∧J n ⟨env',M'.H,M'.nx⟩) n
    ⟨M1,st'.env,q1,q2,q3,q4,q5,q8,hN,hd,by rw[q6,q7];exact hJ⟩ ?_
   intro n a' w' hI;obtain ⟨M',env',p1,p2,rfl,p4,p5,p6,p7,p8,p9⟩:=hI;refine wp_mono (a3l hm x vx hx _ M' env' a' p4 p6 p7 p8 (hround n _ p9)) fun e a2 w2 hp=>?_;obtain ⟨M2,env2,r1,r2,rfl,r4,r5,r6,r7,r8,r9⟩:=hp;cases e with
   | normal =>
    obtain ⟨st'',m,hlt,hsub,hJm⟩:=r9;obtain ⟨M3,t1,t2,t3,t4,t5,t6,t7,t8⟩:=hsub M2 a2 r4 rfl rfl r6;exact ⟨m,hlt,M3,st''.env,t1.trans (r1.trans p1),t2.trans (r2.trans p2),t3,t4,(p5.trans r5).trans t5,t8,r7,r8,by rw[t6,t7];exact hJm⟩
   | exit id=>exact ⟨M2,env2,r1.trans p1,r2.trans p2,rfl,r4,p5.trans r5,r6,r7,r8,r9⟩
   | ret=>exact ⟨M2,env2,r1.trans p1,r2.trans p2,rfl,r4,p5.trans r5,r6,r7,r8,r9⟩
   | goto l=>exact r9.elim
   | panic ch=>exact r9.elim
   | outgrown=>exact r9.elim
  ·cases hc
 | .scope x,vc,hc,Q,M,env,a,hR,he,hN,hd,h=>by
  simp only[a3n]at hc;refine wp_scope_straight (wp_mono (a3l hm x vc hc Q M env a hR he hN hd h) fun e a' w' hp=>?_);cases e with
  | goto l=>obtain ⟨_,_,_,_,_,_,_,_,_,_,p9⟩:=hp;exact p9.elim
  | normal=>exact hp
  | exit id=>exact hp
  | ret=>exact hp
  | panic ch=>exact hp
  | outgrown=>exact hp
 | .goto l,vc,hc,Q,M,env,a,hR,he,hN,hd,h=>by simp[a3n]at hc
 | .refuse s,vc,hc,Q,M,env,a,hR,he,hN,hd,h=>by simp[a3n]at hc
 | .rangeFunc f ps as b,vc,hc,Q,M,env,a,hR,he,hN,hd,h=>by simp[a3n]at hc
theorem b9X {A:Nat→Prop} {k:K} (hk:∀ f args,k≠.call f args∧k≠.callA f args∧∀ st,k≠.callM st f args) {ρ:Operand→AV} {H:List VObj} {nx:Nat} {C:AV→List VObj→Nat→Prop}:k.wpE P A ρ H nx C=k.wp P ρ H nx C:=by
 cases k<;>first | rfl | exact ((hk _ _).1 rfl).elim | exact ((hk _ _).2.1 rfl).elim | exact ((hk _ _).2.2 _ rfl).elim
theorem YCall.mono {id s:Nat} {args:List AV} {H:List VObj} {nx:Nat} {C C':AV→List VObj→Nat→Prop} (h:YCall P id s args H nx C) (hC:∀ r H nx,C r H nx→C' r H nx):YCall P id s args H nx C' :=
 fun M vs y hR hH hnx hy hv=>by
  obtain ⟨l,r,h1,h2,h3,h4⟩:=h M vs y hR hH hnx hy hv;exact ⟨l,r,h1,h2,h3,h4.mono fun _ _ ⟨v,r,M',p1,p2,p3,p4,p5,p6,p7,p8⟩=>⟨v,r,M',p1,p2,p3,p4,p5,p6,p7,hC _ _ _ p8⟩⟩
theorem EOp.go_mono {op:EOp} {args:List AV} {H:List VObj} {nx:Nat} {C C':AV→List VObj→Nat→Prop} (h:op.go H nx C args) (hC:∀ r H nx,C r H nx→C' r H nx):op.go H nx C' args:=by
 unfold EOp.go at h ⊢;split at h
 ·split at h
  ·exact ⟨h.1,h.2.1,h.2.2.1,hC _ _ _ h.2.2.2⟩
  ·exact h
 ·split at h
  ·exact ⟨h.1,h.2.1,hC _ _ _ h.2.2⟩
  ·exact h
 ·exact ⟨h.1,hC _ _ _ h.2⟩
 ·exact hC _ _ _ h
 ·split at h
  ·exact ⟨h.1,h.2.1,h.2.2.1,h.2.2.2.1,hC _ _ _ h.2.2.2.2⟩
  ·exact h
 ·split at h
  ·exact ⟨h.1,h.2.1,hC _ _ _ h.2.2.1,fun e=>hC _ _ _ (h.2.2.2 e)⟩
  ·exact h
 ·exact ⟨h.1,hC _ _ _ h.2⟩
 ·exact hC _ _ _ h
 ·exact h.elim
theorem b8L {k:K} {ρ:Operand→AV} {H:List VObj} {nx:Nat} {C C':AV→List VObj→Nat→Prop} (h:k.wp P ρ H nx C) (hC:∀ r H nx,C r H nx→C' r H nx):k.wp P ρ H nx C':=by
 by_cases hk:∃ f args,k = .call f args∨k = .callA f args∨∃ st,k = .callM st f args
 ·obtain ⟨f,args,rfl | rfl | ⟨st,rfl⟩⟩:=hk
  all_goals
   simp only[K.wp]at h ⊢;split at h
   ·exact VCall.mono h hC
   ·exact VCall.mono h hC
   ·exact h.elim
 ·by_cases he:∃ op xs,k = .eff op xs
  ·obtain ⟨op,xs,rfl⟩:=he;simp only[K.wp]at h ⊢;exact EOp.go_mono h hC
  ·by_cases hy:∃ f args,k = .ycal f args
   ·obtain ⟨f,args,rfl⟩:=hy;simp only[K.wp]at h ⊢;split at h
    ·exact YCall.mono h hC
    ·exact h.elim
   ·have hk':∀ f args,k≠.call f args∧k≠.callA f args∧∀ st,k≠.callM st f args:=fun f args=>⟨fun e=>hk ⟨f,args,.inl e⟩,fun e=>hk ⟨f,args,.inr (.inl e)⟩,fun st e=>hk ⟨f,args,.inr (.inr ⟨st,e⟩)⟩⟩
    have hl:k.lets false 0=true:=by cases k<;>first | rfl | simp[K.lets]
    have hx:k.xtra false 0 ρ:=by
     have ha:∀ x:AV,a8g (Old false 0) x:=fun x=>by cases x<;>simp[a8g,Old]
     have hb:∀ xs:List AV,b7M (Old false 0) xs:=fun xs=>by
      induction xs with
      | nil=>trivial
      | cons x xs ih=>exact ⟨ha x,ih⟩
     clear h;cases k<;>first | trivial | exact ha _ | exact hb _ | exact .inl rfl | exact (he ⟨_,_,rfl⟩).elim | exact (hy ⟨_,_,rfl⟩).elim
    rw[← b9X hk']at h ⊢;exact (a6g (P:=P) (fm:=false) (b:=0) hl ⟨hx,h⟩ fun r H nx _ hc=>hC r H nx hc).2
theorem a6i:∀ (l:List VOp) {Q Q':St→Prop} {st:St},(∀ st,Q st→Q' st)→a5X P l Q st→a5X P l Q' st
 | [],_,_,_,hQ,h=>hQ _ h
 | ⟨d,none,k⟩::l,Q,Q',st,hQ,h=>by
  simp only[a5X]at h ⊢;exact b8L h fun r H nx h=>a6i l hQ h
 | ⟨d,some (t,want),k⟩::l,Q,Q',st,hQ,h=>by
  simp only[a5X]at h ⊢;split at h
  ·exact ⟨fun e=>b8L (h.1 e) fun r H nx h=>a6i l hQ h,fun e=>a6i l hQ (h.2 e)⟩
  ·exact a6i l hQ h
  ·exact h.elim
theorem a3p {fm:Bool} {b0:Nat}:∀ (t:PT) {Q Q':St→Prop} {st:St},(∀ st,Q st→Q' st)→a8h P fm b0 Q t st→a8h P fm b0 Q' t st
 | .done,_,_,_,hQ,h=>hQ _ h
 | .one ⟨d,none,k⟩ t,Q,Q',st,hQ,h=>by
  have hl:k.lets fm 0=true:=by cases k<;>first | rfl | simp[K.lets]
  simp only[a8h]at h ⊢;exact a6g hl h fun r H nx _ h=>a3p t hQ h
 | .one ⟨d,some (u,want),k⟩ t,Q,Q',st,hQ,h=>by
  have hl:k.lets fm 0=true:=by cases k<;>first | rfl | simp[K.lets]
  simp only[a8h]at h ⊢;split at h
  ·exact ⟨fun e=>a6g hl (h.1 e) fun r H nx _ h=>a3p t hQ h,fun e=>a3p t hQ (h.2 e)⟩
  ·exact a3p t hQ h
  ·exact h.elim
 | .both s t,Q,Q',st,hQ,h=>⟨a3p s hQ h.1,a3p t hQ h.2⟩
theorem a8C:∀ (c:VC) (Q Q':VE→St→Prop) (st:St),(∀ e st,Q e st→Q' e st)→VW P c Q st→VW P c Q' st
 | .skip,_,_,_,hQ,h=>hQ _ _ h
 | .ops l,_,_,_,hQ,h=>a6i l (hQ _) h
 | .par fm t,_,_,_,hQ,h=>a3p t (hQ _) h
 | .park fm t,_,_,_,hQ,h=>by
  simp only[VW]at h ⊢;obtain ⟨st',h1,h2⟩:=h;exact ⟨st',h1,a3p t (hQ _) h2⟩
 | .seq x y,Q,Q',st,hQ,h=>by
  simp only[VW]at h ⊢;refine a8C x _ _ st (fun e st h=>?_) h;cases e with
  | normal=>exact a8C y _ _ st hQ h
  | exit id=>exact hQ _ _ h
  | ret=>exact hQ _ _ h
 | .cond c x y,Q,Q',st,hQ,h=>by
  simp only[VW]at h ⊢;split at h
  ·exact ⟨fun e=>a8C x _ _ _ hQ (h.1 e),fun e=>a8C y _ _ _ hQ (h.2 e)⟩
  ·exact h.elim
 | .block id x,Q,Q',st,hQ,h=>by
  simp only[VW]at h ⊢;refine a8C x _ _ st (fun e st h=>?_) h;cases e with
  | normal=>exact hQ _ _ h
  | exit j =>
   simp only[VE.blk]at h ⊢;split
   ·rename_i e;rw[if_pos e]at h;exact hQ _ _ h
   ·rename_i e;rw[if_neg e]at h;exact hQ _ _ h
  | ret=>exact hQ _ _ h
 | .loop x,Q,Q',st,hQ,h=>by
  simp only[VW]at h ⊢;obtain ⟨J,n,st',h1,h2,h3⟩:=h;refine ⟨J,n,st',h1,h2,fun n st hJ=>a8C x _ _ st (fun e st h=>?_) (h3 n st hJ)⟩;cases e with
  | normal=>exact h
  | exit id=>exact hQ _ _ h
  | ret=>exact hQ _ _ h
 | .range g ps x,Q,Q',st,hQ,h=>by
  simp only[VW]at h ⊢;split at h
  ·intro R B E hz hY;exact (h R B E hz hY).mono fun r H nx hp=>⟨hp.1,hQ _ _ hp.2⟩
  ·exact h.elim
 | .exit id,_,_,_,hQ,h=>hQ _ _ h
 | .ret,_,_,_,hQ,h=>hQ _ _ h
end
end Go.V
