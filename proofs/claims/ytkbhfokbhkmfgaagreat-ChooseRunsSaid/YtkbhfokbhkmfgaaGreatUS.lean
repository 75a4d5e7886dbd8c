/- The engine, part 9c: code with loops over functions does what is said of it; calls of such functions. No condition. -/
import Derived.Test.YtkbhfokbhkmfgaaGreatUR
set_option linter.unusedVariables false
set_option linter.unusedSimpArgs false
namespace Go.V
open Go.RowKit
section
variable {P:Program} {N:Nat}
theorem b6j {w:World} {l:Nat} {o:Obj}:w.grownBy (w.putObj l o) (some l) :=
 ⟨rfl,rfl,rfl,by simp[World.putObj],fun k _ hk=>World.putObj_heap_other (fun e=>hk (by rw[e]))⟩
theorem RH.turn {M:MM} (hR:RH M) {id l s:Nat} {r r':Loop} {xs:List AV} (ho:M.H[id]? = some ⟨s,1,0,.lp r::xs⟩) (hm:M.m.getD id none=some l) (ht:r'.tmps=r.tmps) :
 ∃ M':MM,M'.I0=M.I0∧M'.w0=M.w0∧M'.w=M.w.putObj l (.loop r')∧M'.H=M.H.set id ⟨s,1,0,.lp r'::xs⟩∧M'.nx=M.nx∧RH M'∧Keep M M'∧M'.m.getD id none=some l:=by
 have hown:=(hR.own id _ ho).2;rw[hm]at hown;obtain ⟨h1,cur,h2,h3,h4⟩:=hown;unfold Cont at h2;simp only[if_true]at h2;obtain ⟨h2,h5,h6⟩:=h2;have hlt:l<M.w.heap.size:=(Array.getElem?_eq_some_iff.1 h2).1;have hnew:(M.w.putObj l (.loop r')).heap[l]? = some (.loop r'):=World.putObj_heap_same hlt;obtain ⟨k1,k2⟩:=hR.put (M.w.putObj l (.loop r')) id ⟨s,1,0,.lp r::xs⟩ ⟨s,1,0,.lp r'::xs⟩ (some l) M.nx (M.o id) ho (hm▸b6j)
  ⟨.inl hm,cur,by unfold Cont;simp only[if_true];exact ⟨hnew,by rw[h5,ht],by rw[ht];exact h6⟩,h3,fun j x v hx hv=>by
    cases j with
    | zero=>simp at hx;subst hx;simp only[RV]
    | succ j=>exact h4 (j+1) x v (by simpa using hx) hv⟩
  (.inr ⟨rfl,rfl,rfl,rfl,by simp,hm.symm,fun g e cur' ty' fr' hc=>by
    cases e;rw[hnew]at hc;cases hc⟩)
 exact ⟨⟨M.I0,M.w0,M.w.putObj l (.loop r'),M.H.set id ⟨s,1,0,.lp r'::xs⟩,M.m.set id (some l),M.nx,fun i=>if i=id then M.o id else M.o i⟩,rfl,rfl,rfl,rfl,rfl,k1,k2,by
  show (M.m.set id (some l)).getD id none=_;rw[getD_set (by rw[hR.len];exact (List.getElem?_eq_some_iff.1 ho).1),if_pos rfl]⟩
theorem b4O {M:MM} {id s:Nat} {x:Value} (h:RV M (.yld id s) x) {ob:VObj} (ho:M.H[id]? = some ob) (hs:ob.s=s):∃ g,M.m.getD id none=some g∧x = .func (.yield g) #[] #[]:=by
 simp only[RV]at h;exact h.2.2 ob ho hs
theorem RH.rec_ {M:MM} (hR:RH M) {id l s:Nat} {r:Loop} {xs:List AV} (ho:M.H[id]? = some ⟨s,1,0,.lp r::xs⟩) (hm:M.m.getD id none=some l) :
 M.w.heap[l]? = some (.loop r)∧xs.length≤r.tmps.size∧∀ (j:Nat) x v,xs[j]? = some x→r.tmps[j]? = some v→RV M x v:=by
 have hown:=(hR.own id _ ho).2;rw[hm]at hown;obtain ⟨h1,cur,h2,h3,h4⟩:=hown;unfold Cont at h2;simp only[if_true]at h2;obtain ⟨h2,h5,h6⟩:=h2;subst h5;simp only[List.length_cons,Array.size_append,List.size_toArray,List.length_nil]at h3;have ho0:M.o id=0:=by omega
 refine ⟨h2,by omega,fun j x v hx hv=>h4 (j+1) x v (by simpa using hx) ?_⟩;rw[ho0,Nat.zero_add,Array.getElem?_append_right (by simp)];simpa using hv
theorem a6k:∀ (ps:List Nat) (vs:List Value) (tm:Array Value) (t:Nat),((ps.zip vs).foldl (fun tmps (x:Nat × Value)=>tmps.setIfInBounds x.1 x.2) tm).size=tm.size ∧
 (t ∉ ps→((ps.zip vs).foldl (fun tmps (x:Nat × Value)=>tmps.setIfInBounds x.1 x.2) tm)[t]? = tm[t]?)
 | [],vs,tm,t=>⟨rfl,fun _=>rfl⟩
 | p::ps,[],tm,t=>⟨rfl,fun _=>rfl⟩
 | p::ps,v::vs,tm,t=>by
  obtain ⟨h1,h2⟩:=a6k ps vs (tm.setIfInBounds p v) t;simp only[List.zip_cons_cons,List.foldl_cons];refine ⟨by rw[h1];simp,fun hn=>?_⟩;simp only[List.mem_cons,not_or]at hn;rw[h2 hn.2,Array.getElem?_setIfInBounds,if_neg (fun e=>hn.1 e.symm)]
theorem b6k {M:MM} {env:List (Nat × AV)}:∀ (ps:List Nat) (args:List AV) (vs:List Value) (tm:Array Value),ps.Nodup→args.length=ps.length→RL M args vs→(∀ p ∈ ps,p<tm.size)→(∀ t,RV M (get env t) (tm.getD t undef)) →
 ∀ t,RV M (get (ps.zip args++env) t) (((ps.zip vs).foldl (fun tmps (x:Nat × Value)=>tmps.setIfInBounds x.1 x.2) tm).getD t undef)
 | [],args,vs,tm,_,_,_,_,he=>fun t=>by simpa using he t
 | p::ps,[],vs,tm,_,hl,_,_,_=>by simp at hl
 | p::ps,x::args,vs,tm,hnd,hl,hr,hlt,he=>fun t=>by
  simp only[RL]at hr;obtain ⟨v,vs',rfl,h1,h2⟩:=hr;simp only[List.nodup_cons]at hnd;simp only[List.zip_cons_cons,List.cons_append,get,List.foldl_cons];obtain ⟨g1,g2⟩:=a6k ps vs' (tm.setIfInBounds p v) p;by_cases e:p=t
  ·subst e;rw[if_pos rfl];rw[Array.getD_eq_getD_getElem?,g2 hnd.1];have:p<tm.size:=hlt p (by simp);simpa [this] using h1
  ·rw[if_neg e];have ih:=b6k (env:=(p,x)::env) ps args vs' (tm.setIfInBounds p v) hnd.2 (by simpa using hl) h2 (fun q hq=>by simpa using hlt q (by simp[hq])) (fun q=>by
    simp only[get];split
    ·rename_i e2;subst e2;have:p<tm.size:=hlt p (by simp);simpa [this] using h1
    ·rename_i e2;have:=he q;simpa [Array.getElem?_setIfInBounds,e2] using this) t
   have:∀ (zs:List (Nat × AV)),get (zs++(p,x)::env) t=get (zs++env) t:=by
    intro zs
    induction zs with
    | nil=>simp[get,e]
    | cons z zs ih=>obtain ⟨k,u⟩:=z;simp only[List.cons_append,get,ih]
   rw[this]at ih;exact ih
theorem c1h {M M':MM} {x:AV} (h:RV M x undef):RV M' x undef:=by
 cases x with
 | val v=>simpa only [RV] using h
 | imm sz xs=>simp[RV,RV0,undef]at h
 | ip y=>simp[RV,RV0,undef]at h
 | agg cs=>simp[RV,undef]at h
 | fn f cs=>simp[RV,undef]at h
 | bm f cs=>simp[RV,undef]at h
 | tup cs =>
  simp only[RV]at h ⊢;obtain ⟨vs,h1,h2⟩:=h;have:vs=[]:=by
   simp only[undef,Value.tuple.injEq]at h1;have:=congrArg Array.toList h1;simpa using this.symm
  subst this;have hl:=h2.length;have:cs=[]:=List.eq_nil_of_length_eq_zero (by simpa using hl.symm);subst this;exact ⟨[],h1,by simp[RL]⟩
 | ref id s off len=>simp[RV,undef,Value.oneCell']at h
 | ptr id s off=>simp[RV,undef,Value.oneCell']at h
 | yld id s=>simp[RV,undef,Value.oneCell']at h
 | mref id s=>simp[RV,undef,Value.oneCell']at h
 | lp r=>simp only[RV]
 | dead=>simp only[RV]
theorem c1i {a:Array Value} {t:Nat} {v:Value} (h:a[t]? = some v):a.getD t undef=v:=by
 rw[Array.getD_eq_getD_getElem?,h];rfl
theorem b4l {y:Bool} {as:Code} {l:List VOp} (h:b2B P y N as=some l):l.all VOp.isMv=true:=by
 unfold b2B at h;split at h
 ·cases h;rfl
 ·split at h
  ·split at h
   ·rename_i h2;cases h;exact h2
   ·cases h
  ·cases h
 ·cases h
theorem b6l {y:Bool} {as:Code} {l:List VOp} (h:b2B P y N as=some l) (ro:Option Nat) (n b0:Nat) (Q:VE→St→Prop) (M:MM) (env:List (Nat × AV)) (a:Act) (hR:RH M) (he:EnvR M env a) (hN:a.tmps.size=N) (hd:DfB b0 a.defers M.w)
 (hQ:Q .normal ⟨b7P l env,M.H,M.nx⟩):as.wpIn (FW ro) n P (PostB N b0 M Q) a M.w:=by
 have hall:=b4l h;unfold b2B at h;split at h
 ·cases h;exact wpIn_skip ⟨M,env,rfl,rfl,rfl,hR,KeepRV.refl _,he,hN,hd,hQ⟩
 ·rename_i id ops;split at h
  ·rename_i l' hl;split at h
   ·cases h;refine wpIn_region_list (a5A (b0:=b0) ops.toList l hl (Q .normal) M env a hR he hN hd (by rw[b7Q hall];exact hQ) fun M' env' a' m1 m2 m3 m4 m5 m6 m7 m8=>?_);exact ⟨M',env',m1,m2,rfl,m3,m4,m5,m6,m7,m8⟩
   ·cases h
  ·cases h
 ·cases h
theorem c3d {y:Bool} {ps:Array Nat} {as body:Code} {lv:List VOp} {x:VC} (has:b2B P y N as=some lv)
 (body_ok:∀ (l:Nat) (Q:VE→St→Prop) (M:MM) (env:List (Nat × AV)) (a:Act),RH M→EnvR M env a→a.tmps.size=N→DfB 0 a.defers M.w→VW P x Q ⟨env,M.H,M.nx⟩→body.wpIn (FW (some l)) 0 P (PostB N 0 M Q) a M.w)
 {env:List (Nat × AV)} {id s:Nat} {r:Loop} (hr1:r.state = .ready) (hr2:r.pending=none) (hr3:r.params=ps) (hr4:r.assign=as) (hr5:r.body=body) (hr6:r.tmps.size=N) (hnd:ps.toList.Nodup) (hlt:∀ p ∈ ps.toList,p<N)
 {args:List AV} {H:List VObj} {nx:Nat} {C:AV→List VObj→Nat→Prop} (hH:H[id]? = some ⟨s,1,0,.lp r::(List.range N).map (get env)⟩) (hl:args.length=ps.toList.length) (hhi:∀ t,N≤t→∃ M0:MM,RV M0 (get env t) undef)
 (h:VW P (b8N lv x) (fun e st'=>e = .normal∧st'.H[id]? = some ⟨s,1,0,.lp { r with state:=.busy }::(List.range N).map (get env)⟩∧C (.val (.bool true)) (st'.H.set id ⟨s,1,0,.lp r::(List.range N).map (get env)⟩) st'.nx) ⟨ps.toList.zip args++env,H.set id ⟨s,1,0,.lp { r with state:=.busy }::(List.range N).map (get env)⟩,nx⟩) :
 YCall P id s args H nx C:=by
 have h:=c1f (b4l has) h;intro M vs y' hR hMH hMnx hy hvs;subst hMH;subst hMnx;obtain ⟨l,hm,rfl⟩:=b4O hy hH rfl;obtain ⟨g1,g2,g3⟩:=hR.rec_ hH hm;have hvl:=hvs.length;refine ⟨l,r,rfl,g1,by rw[hr3,hvl,hl];simp,?_⟩;have hfold:(r.params.zip vs.toArray).foldl (fun tmps (t,a)=>tmps.setIfInBounds t a) r.tmps=(ps.toList.zip vs).foldl (fun tmps (x:Nat × Value)=>tmps.setIfInBounds x.1 x.2) r.tmps:=by
  rw[hr3,← Array.foldl_toList];simp
 have henv:EnvR M (ps.toList.zip args++env) { tmps:=(r.params.zip vs.toArray).foldl (fun tmps (t,a)=>tmps.setIfInBounds t a) r.tmps,defers:=[] }:=fun t=>by
  show RV M _ (((r.params.zip vs.toArray).foldl (fun tmps (t,a)=>tmps.setIfInBounds t a) r.tmps).getD t undef);rw[hfold];refine b6k ps.toList args vs r.tmps hnd hl hvs (fun p hp=>by rw[hr6];exact hlt p hp) (fun q=>?_) t;rcases Nat.lt_or_ge q N with hq | hq
  · have hqv : r.tmps[q]? = some (r.tmps[q]'(by omega)) := Array.getElem?_eq_getElem (by omega);rw[c1i hqv];exact g3 q _ _ (by simp[hq]) hqv
  ·have:r.tmps.getD q undef=undef:=by rw[Array.getD_eq_getD_getElem?,Array.getElem?_eq_none (by omega)];rfl
   rw[this];obtain ⟨M0,h0⟩:=hhi q hq;exact c1h h0
 have hsz:((r.params.zip vs.toArray).foldl (fun tmps (t,a)=>tmps.setIfInBounds t a) r.tmps).size=N:=by
  rw[hfold,(a6k ps.toList vs r.tmps 0).1,hr6]
 have has':=b6l has (some l) 0 0 (fun e st=>e = .normal∧st=⟨b7P lv (ps.toList.zip args++env),M.H,M.nx⟩) M _ _ hR henv hsz ⟨[],rfl,by simp,by simp⟩ ⟨rfl,rfl⟩;have hR':=roundIn_of_wpIn (F:=Fence.wide) (n:=0) (P:=P) (l:=l) (f:=r.fn) (tmps:=(r.params.zip vs.toArray).foldl (fun tmps (t,a)=>tmps.setIfInBounds t a) r.tmps) (assign:=r.assign) (body:=r.body) (w:=M.w)
  (R:=fun e w'=>∃ (v:Value) (x:AV) (M':MM),e = .returned v∧M'.I0=M.I0∧M'.w0=M.w0∧M'.w=w'∧RH M'∧KeepRV M M'∧RV M' x v∧C x M'.H M'.nx) trivial (by
   rw[hr4];refine wpIn_mono has' fun e a0 w0 hp=>?_;obtain ⟨M4,env4,u1,u2,rfl,u4,u5,u6,u7,u8,u9⟩:=hp;cases e with
   | normal =>
    obtain ⟨_,u10⟩:=u9;simp only[St.mk.injEq]at u10;obtain ⟨v1,v2,v3⟩:=u10;subst v1;have hy4:RV M4 (.yld id s) (.func (.yield l) #[] #[]):=u5.rv _ _ hy;rw[← v2]at hH h;rw[← v3]at h;have hm4:M4.m.getD id none=some l:=by
     obtain ⟨g,e1,e2⟩:=b4O hy4 hH rfl;simp at e2;rw[e1,← e2]
    obtain ⟨M1,m1,m2,m3,m4,m5,m6,m7,m8⟩:=u4.turn (r':={ r with state:=.busy }) hH hm4 rfl;refine ⟨_,run_beginRound (u4.rec_ hH hm4).1 hr1,?_⟩;have hb:=body_ok l _ M1 _ _ m6 (u6.keep m7.rv) u7 (u8.oth m7.oth) (by rw[m4,m5];exact h);rw[← m3,hr5];refine wpIn_mono hb fun e a' w' hp=>?_;obtain ⟨M2,env2,p1,p2,rfl,p4,p5,p6,p7,p8,p9⟩:=hp;cases e with
    | normal =>
     obtain ⟨_,q1,q2⟩:=p9;have hm2:M2.m.getD id none=some l:=by
      have hy1:RV M1 (.yld id s) (.func (.yield l) #[] #[]):=RV.keep m7 _ _ hy4;obtain ⟨g,e1,e2⟩:=b4O (p5.rv _ _ hy1) q1 rfl;simp at e2;rw[e1,← e2]
     obtain ⟨M3,n1,n2,n3,n4,n5,n6,n7,n8⟩:=p4.turn (r':=r) q1 hm2 rfl;have hend:=run_endRound (P:=P) (w:=M2.w) (l:=l) none (p4.rec_ q1 hm2).1;refine ⟨_,_,hend,.bool true,.val (.bool true),M3,rfl,n1.trans (p1.trans (m1.trans u1)),n2.trans (p2.trans (m2.trans u2)),?_,n6,(u5.trans m7.rv).trans (p5.trans n7.rv),by simp only[RV],?_⟩
     ·rw[n3];congr 2;obtain ⟨st,pd,fn,tm,pr,as,bd,df⟩:=r;simp only at hr1 hr2;subst hr1;subst hr2;rfl
     ·rw[n4,n5];exact q2
    | exit id=>exact absurd p9.1 (by simp)
    | ret=>exact absurd p9.1 (by simp)
    | goto l=>exact p9.elim
    | panic ch=>exact p9.elim
    | outgrown=>exact p9.elim
   | exit id=>exact absurd u9.1 (by simp)
   | ret=>exact absurd u9.1 (by simp)
   | goto l=>exact u9.elim
   | panic ch=>exact u9.elim
   | outgrown=>exact u9.elim)
 exact hR'
theorem a3q (hmx:P.follows .mixedOrders=true) {y:Bool}:∀ (c:Code) (rnd:Bool) (vc:VC),a4u P y N rnd c=some vc→∀ (ro:Option Nat) (n b0:Nat) (Q:VE→St→Prop) (M:MM) (env:List (Nat × AV)) (a:Act),(rnd=false→ro=none) →
 RH M→EnvR M env a→a.tmps.size=N→DfB b0 a.defers M.w→(rnd=false→b0≤M.w.heap.size)→VW P vc Q ⟨env,M.H,M.nx⟩→c.wpIn (FW ro) n P (PostB N b0 M Q) a M.w
 | .skip,rnd,vc,hc,ro,n,b0,Q,M,env,a,hro,hR,he,hN,hd,hb,h=>by
  simp only[a4u,Option.some.injEq]at hc;subst hc;exact wpIn_skip ⟨M,env,rfl,rfl,rfl,hR,KeepRV.refl _,he,hN,hd,h⟩
 | .label l,rnd,vc,hc,ro,n,b0,Q,M,env,a,hro,hR,he,hN,hd,hb,h=>by
  simp only[a4u,Option.some.injEq]at hc;subst hc;exact wpIn_label ⟨M,env,rfl,rfl,rfl,hR,KeepRV.refl _,he,hN,hd,h⟩
 | .exit id,rnd,vc,hc,ro,n,b0,Q,M,env,a,hro,hR,he,hN,hd,hb,h=>by
  simp only[a4u,Option.some.injEq]at hc;subst hc;exact wpIn_exit ⟨M,env,rfl,rfl,rfl,hR,KeepRV.refl _,he,hN,hd,h⟩
 | .ret,rnd,vc,hc,ro,n,b0,Q,M,env,a,hro,hR,he,hN,hd,hb,h=>by
  simp only[a4u,Option.some.injEq]at hc;subst hc;exact wpIn_ret ⟨M,env,rfl,rfl,rfl,hR,KeepRV.refl _,he,hN,hd,h⟩
 | .region id ops draw,rnd,vc,hc,ro,n,b0,Q,M,env,a,hro,hR,he,hN,hd,hb,h=>by
  simp only[a4u]at hc;split at hc
  ·rename_i l hl;split at hc
   ·rename_i hdr;cases hc;subst hdr;simp only[VW]at h;refine wpIn_region_list (a5A (b0:=b0) ops.toList l hl _ M env a hR he hN hd h fun M' env' a' m1 m2 m3 m4 m5 m6 m7 m8=>?_);exact ⟨M',env',m1,m2,rfl,m3,m4,m5,m6,m7,m8⟩
   ·rename_i hdr;have hdraw:draw=true:=by cases draw with | true=>rfl | false=>simp at hdr
    subst hdraw;obtain ⟨hR1,hk1⟩:=hR.drew (M.w.drawn+1);have he1:=he.keep hk1.rv;have hd1:DfB b0 a.defers ({ M.w with drawn:=M.w.drawn+1 }:World):=hd.oth hk1.oth;have hlen:l.length=ops.size:=by rw[a6j _ _ hl];simp
    have go:∀ (fm:Bool) (forks:Nat) (t:PT),b7A fm ops l ops.size forks (Array.replicate ops.size false)=some t→a8h P fm M.H.length (Q .normal) t ⟨env,M.H,M.nx⟩→(Code.region id ops true).wpIn (FW ro) n P (PostB N b0 M Q) a M.w:=fun fm forks t ht h=>by
     refine wpIn_region_any hmx ?_;refine a8E (b1:=b0) (M:={ M with w:={ M.w with drawn:=M.w.drawn+1 } }) hl ops.size _ env a hR1 he1 hN hd1 (a7O hlen _ _ _ t ht _ _ _ (b2x t _ h)) fun M' env' a' m1 m2 m3 m4 m5 m6 m7 m8=>?_;obtain ⟨env'',e1,e2⟩:=m8;exact ⟨M',env'',m1,m2,rfl,m3,hk1.rv.trans m4,fun t=>by rw[e1];exact m5 t,m6,m7,e2⟩
    split at hc
    ·rename_i t ht;cases hc;simp only[VW]at h;exact go _ _ t ht h
    ·split at hc
     ·rename_i t ht;cases hc;simp only[VW]at h;exact go _ _ t ht h
     ·cases hc
  ·cases hc
 | .seq x y',rnd,vc,hc,ro,n,b0,Q,M,env,a,hro,hR,he,hN,hd,hb,h=>by
  simp only[a4u]at hc;split at hc
  ·rename_i vx vy hx hy;cases hc;simp only[VW]at h;refine wpIn_seq (wpIn_mono (a3q hmx x rnd vx hx ro n b0 _ M env a hro hR he hN hd hb h) fun e a' w' hp=>?_);cases e with
   | normal =>
    obtain ⟨M',env',p1,p2,rfl,p4,p5,p6,p7,p8,p9⟩:=hp;refine wpIn_mono (a3q hmx y' rnd vy hy ro n b0 Q M' env' a' hro p4 p6 p7 p8 (fun e=>Nat.le_trans (hb e) p5.oth.size) p9) fun e a w hq=>?_;exact hq.mono p1 p2 p5 (fun _ _ h=>h) (fun _ _ _ h=>h) (fun _ _ h=>h)
   | exit id=>exact hp.mono rfl rfl (KeepRV.refl _) (fun e=>by cases e) (fun id e st h=>by cases e;exact h) (fun e=>by cases e)
   | ret=>exact hp.mono rfl rfl (KeepRV.refl _) (fun e=>by cases e) (fun id e=>by cases e) (fun e st h=>h)
   | goto l=>obtain ⟨_,_,_,_,_,_,_,_,_,_,p9⟩:=hp;exact p9.elim
   | panic ch=>obtain ⟨_,_,_,_,_,_,_,_,_,_,p9⟩:=hp;exact p9.elim
   | outgrown=>obtain ⟨_,_,_,_,_,_,_,_,_,_,p9⟩:=hp;exact p9.elim
  ·cases hc
 | .cond c x y',rnd,vc,hc,ro,n,b0,Q,M,env,a,hro,hR,he,hN,hd,hb,h=>by
  simp only[a4u]at hc;split at hc
  ·rename_i vx vy hx hy;cases hc;simp only[VW]at h;have hv:=EnvR.ev he c;split at h
   ·rename_i t ht;rw[ht]at hv;simp only[RV]at hv;exact wpIn_cond_split hv (fun e=>a3q hmx x rnd vx hx ro n b0 Q M _ a hro hR (he.litE (by rw[ht,e])) hN hd hb (h.1 e)) (fun e=>a3q hmx y' rnd vy hy ro n b0 Q M _ a hro hR (he.litE (by rw[ht,e])) hN hd hb (h.2 e))
   ·exact h.elim
  ·cases hc
 | .block id x,rnd,vc,hc,ro,n,b0,Q,M,env,a,hro,hR,he,hN,hd,hb,h=>by
  simp only[a4u]at hc;split at hc
  ·rename_i vx hx;cases hc;simp only[VW]at h;refine wpIn_block (wpIn_mono (a3q hmx x rnd vx hx ro n b0 _ M env a hro hR he hN hd hb h) fun e a' w' hp=>?_);obtain ⟨M',env',p1,p2,p3,p4,p5,p6,p7,p8,p9⟩:=hp;cases e with
   | normal=>exact ⟨M',env',p1,p2,p3,p4,p5,p6,p7,p8,p9⟩
   | exit j =>
    simp only[Exit.inBlock];simp only[VE.blk]at p9;split
    ·rename_i e;rw[if_pos e]at p9;exact ⟨M',env',p1,p2,p3,p4,p5,p6,p7,p8,p9⟩
    ·rename_i e;rw[if_neg e]at p9;exact ⟨M',env',p1,p2,p3,p4,p5,p6,p7,p8,p9⟩
   | ret=>exact ⟨M',env',p1,p2,p3,p4,p5,p6,p7,p8,p9⟩
   | goto l=>exact p9.elim
   | panic ch=>exact p9.elim
   | outgrown=>exact p9.elim
  ·cases hc
 | .loop x,rnd,vc,hc,ro,n,b0,Q,M,env,a,hro,hR,he,hN,hd,hb,h=>by
  simp only[a4u]at hc;split at hc
  ·rename_i vx hx;cases hc;simp only[VW]at h;obtain ⟨J,k,st',hs,hJ,hround⟩:=h;obtain ⟨M1,q1,q2,q3,q4,q5,q6,q7,q8⟩:=hs M a hR rfl rfl he;refine wpIn_loop_ghost (fun k a w=>∃ M' env',M'.I0=M.I0∧M'.w0=M.w0∧M'.w=w∧RH M'∧KeepRV M M'∧EnvR M' env' a∧a.tmps.size=N∧DfB b0 a.defers w∧J k ⟨env',M'.H,M'.nx⟩) k
    ⟨M1,st'.env,q1,q2,q3,q4,q5,q8,hN,hd,by rw[q6,q7];exact hJ⟩ ?_
   intro k a' w' hI;obtain ⟨M',env',p1,p2,rfl,p4,p5,p6,p7,p8,p9⟩:=hI;refine wpIn_mono (a3q hmx x rnd vx hx ro n b0 _ M' env' a' hro p4 p6 p7 p8 (fun e=>Nat.le_trans (hb e) p5.oth.size) (hround k _ p9)) fun e a2 w2 hp=>?_;obtain ⟨M2,env2,r1,r2,rfl,r4,r5,r6,r7,r8,r9⟩:=hp;cases e with
   | normal =>
    obtain ⟨st'',m,hlt,hsub,hJm⟩:=r9;obtain ⟨M3,t1,t2,t3,t4,t5,t6,t7,t8⟩:=hsub M2 a2 r4 rfl rfl r6;exact ⟨m,hlt,M3,st''.env,t1.trans (r1.trans p1),t2.trans (r2.trans p2),t3,t4,(p5.trans r5).trans t5,t8,r7,r8,by rw[t6,t7];exact hJm⟩
   | exit id=>exact ⟨M2,env2,r1.trans p1,r2.trans p2,rfl,r4,p5.trans r5,r6,r7,r8,r9⟩
   | ret=>exact ⟨M2,env2,r1.trans p1,r2.trans p2,rfl,r4,p5.trans r5,r6,r7,r8,r9⟩
   | goto l=>exact r9.elim
   | panic ch=>exact r9.elim
   | outgrown=>exact r9.elim
  ·cases hc
 | .rangeFunc g ps as body,rnd,vc,hc,ro,n,b0,Q,M,env,a,hro,hR,he,hN,hd,hb,h=>by
  simp only[a4u]at hc;cases has:b2B P y N as with
  | none=>rw[has]at hc;cases hc
  | some lv =>
  rw[has]at hc;simp only at hc;split at hc
  ·rename_i hrnd;subst hrnd;have hro':=hro rfl;subst hro';split at hc
   ·rename_i x hx;split at hc
    ·rename_i hps;cases hc;simp only[VW]at h;have hg:=EnvR.ev he g;split at h
     ·rename_i f cs hf;rw[hf]at hg;rw[RV]at hg;obtain ⟨gv,hg1,hg2⟩:=hg;refine wpIn_rangeFunc fun fn _=>?_;obtain ⟨r,hr⟩:∃ r:Loop,r = { state:=.ready,pending:=none,fn,tmps:=a.tmps,params:=ps,assign:=as,body,defers:=M.w.heap.size }:=⟨_,rfl⟩
      obtain ⟨w1,hw1⟩:∃ w1:World,w1=(M.w.alloc (.deferred (some []))).alloc (.loop r):=⟨_,rfl⟩
      obtain ⟨l,hl⟩:∃ l,l=M.w.heap.size+1:=⟨_,rfl⟩
      have hent:=run_enterLoop_outer (P:=P) (w:=M.w) fn a.tmps ps as body;rw[← hr,← hw1,← hl]at hent;have hsz1:(M.w.alloc (.deferred (some []))).heap.size=M.w.heap.size+1:=by simp
      have hloop:w1.heap[l]? = some (.loop r):=by
       rw[hw1,hl,← hsz1];exact heap_alloc_new _ _
      have hdfr:w1.heap[M.w.heap.size]? = some (Obj.deferred (some [])):=by
       rw[hw1,heap_alloc_old _ _ (by rw[hsz1];omega)];exact heap_alloc_new _ _
      have hold:∀ k,k<M.w.heap.size→w1.heap[k]? = M.w.heap[k]?:=fun k hk=>by
       rw[hw1,heap_alloc_old _ _ (by rw[hsz1];omega),heap_alloc_old _ _ hk]
      have hgr:M.w.grownBy w1 none:=⟨by rw[hw1];rfl,by rw[hw1];rfl,by rw[hw1];rfl,by rw[hw1];simp;omega,fun k hk _=>hold k hk⟩
      obtain ⟨k1,k2⟩:=hR.put1 w1 ⟨M.nx,1,0,.lp r::(List.range N).map (get env)⟩ l 0 rfl hgr ⟨by omega,#[undef]++a.tmps,by
       unfold Cont;simp only[if_true];exact ⟨hloop,by rw[hr],by rw[hr];simp[hN]⟩,by simp[hN];omega,fun j x v hx hv=>by
       cases j with
       | zero=>simp at hx;subst hx;simp only[RV]
       | succ j =>
        have hj:j<N:=by have:=(List.getElem?_eq_some_iff.1 hx).1;simp at this;exact this
        simp[hj]at hx;subst hx;rw[Nat.zero_add,Array.getElem?_append_right (by simp)]at hv;have hv':a.tmps[j]? = some v:=by simpa using hv
        have:=he j;rw[c1i hv']at this;exact this⟩
      obtain ⟨M1,hM1⟩:∃ M1:MM,M1=⟨M.I0,M.w0,w1,M.H++[⟨M.nx,1,0,.lp r::(List.range N).map (get env)⟩],M.m++[some l],M.nx+1,fun i=>if i=M.H.length then 0 else M.o i⟩:=⟨_,rfl⟩
      rw[← hM1]at k1 k2;have hyv:RV M1 (.yld M.H.length M.nx) (.func (.yield l) #[] #[]):=by
       simp only[RV];refine ⟨by rw[hM1];exact Nat.lt_succ_self _,rfl,fun ob _ _=>⟨l,?_,rfl⟩⟩;rw[hM1];show (M.m++[some l]).getD M.H.length none=_;rw[a0L hR.len,if_pos rfl]
      have hvc:=h ⟨M.nx,1,0,.lp r::(List.range N).map (get env)⟩ ⟨M.nx,1,0,.lp { r with state:=.busy }::(List.range N).map (get env)⟩ ⟨M.nx,1,0,.lp { r with state:=.exhausted }::(List.range N).map (get env)⟩ rfl
       (fun args H nx C hH hal hb=>c3d (y:=y) (ps:=ps) (body:=body) (x:=x) (N:=N) has (fun l' Q' M' env' a' h1 h2 h3 h4 h5=>a3q hmx body true x hx (some l') 0 0 Q' M' env' a' (fun e=>by cases e) h1 h2 h3 h4 (fun e=>by cases e) h5)
         (by rw[hr]) (by rw[hr]) (by rw[hr]) (by rw[hr]) (by rw[hr]) (by rw[hr];exact hN) hps.1 hps.2 hH hal (fun t ht=>⟨M,by
          have:=he t;rw[Array.getD_eq_getD_getElem?,Array.getElem?_eq_none (by omega)]at this;exact this⟩) hb)
      obtain ⟨⟨fd,c1,c2,c3⟩,hcall⟩:=hvc;have hcalls:=hcall M1 (.func (.yield l) #[] #[]::gv) k1 (by rw[hM1]) (by rw[hM1]) (by
       simp only[RL];exact ⟨_,gv,rfl,hyv,RL.keep k2 _ _ hg2⟩)
      refine ⟨l,[{ target:=.collected M.w.heap.size,args:=#[] }],w1,⟨.fn (.func f) gv.toArray,#[.func (.yield l) #[] #[]]⟩,w1,f,(.func (.yield l) #[] #[]::gv).toArray,w1,hent,?_,?_,?_,fun e=>(by cases e),?_⟩
      ·have e:a.eval (.const (.func (.yield l) #[] #[])) = .func (.yield l) #[] #[]:=rfl;simp[resolve,rangeCall,hg1,Deferred.ofValue,e]
      ·intro f' _;trivial
      ·have e : #[]++#[Value.func (.yield l) #[] #[]]++gv.toArray=(Value.func (.yield l) #[] #[]::gv).toArray:=by apply Array.ext';simp
       have c2' : ¬ fd.name = "runtime.NumGoroutine" := by simpa using c2
       have c3':¬ fd.body=none:=fun e=>by rw[e]at c3;simp at c3
       simp[invoke,callFunc,run_program,c1,c2',c3']
      ·refine b8M ?_;rw[hM1]at hcalls;refine hcalls.mono fun e w' hp=>?_;obtain ⟨v,r',M2,rfl,q2,q3,rfl,q5,q6,q7,q8,q9⟩:=hp;have hm2:M2.m.getD M.H.length none=some l:=by
        rw[← hM1]at q6;obtain ⟨g',e1,e2⟩:=b4O (q6.rv _ _ hyv) q8 rfl;simp at e2;rw[e1,← e2]
       have hrec:=(q5.rec_ q8 hm2).1;have hend:=run_endLoop (P:=P) (w:=M2.w) (l:=l) hrec (by rw[hr];simp);obtain ⟨M3,n1,n2,n3,n4,n5,n6,n7,n8⟩:=q5.turn (r':={ r with state:=.exhausted }) q8 hm2 rfl;obtain ⟨w4,hw4⟩:∃ w4,w4=M2.w.putObj l (.loop { r with state:=.exhausted }):=⟨_,rfl⟩
       rw[← hw4]at hend n3;refine ⟨_,_,hend,?_⟩;have hpn:r.pending=none:=by rw[hr]
       rw[hpn];have hk:KeepRV M M3:=(k2.rv.trans (by rw[hM1];exact q6)).trans n7.rv;refine ⟨M3,env,n1.trans q2,n2.trans q3,n3,n6,hk,he.keep hk,hN,?_,by rw[n4,n5];exact q9⟩;have hoth:Oth w1 M3.w:=q6.oth.trans n7.oth;obtain ⟨rs,d1,d2,d3⟩:=hd;refine ⟨M.w.heap.size::rs,by simp[d1],List.nodup_cons.2 ⟨fun hmem=>?_,d2⟩,fun q hq=>?_⟩
       ·have:=(Array.getElem?_eq_some_iff.1 (d3 _ hmem).2).1;omega
       ·rw[← n3];rcases List.mem_cons.1 hq with rfl | hq
        ·exact ⟨hb rfl,hoth.dfr _ hdfr⟩
        ·exact ⟨(d3 q hq).1,hk.oth.dfr q (d3 q hq).2⟩
     ·exact h.elim
    ·cases hc
   ·cases hc
  ·cases hc
 | .scope x,rnd,vc,hc,ro,n,b0,Q,M,env,a,hro,hR,he,hN,hd,hb,h=>by simp[a4u]at hc
 | .goto l,rnd,vc,hc,ro,n,b0,Q,M,env,a,hro,hR,he,hN,hd,hb,h=>by simp[a4u]at hc
 | .refuse s,rnd,vc,hc,ro,n,b0,Q,M,env,a,hro,hR,he,hN,hd,hb,h=>by simp[a4u]at hc
def b4m (P:Program) (y:Bool) (f:Nat):Option (Nat × VC × List VR) :=
 match P.funcs[f]? with
 | some fn=>match fn.body with
  | some c => if fn.name == "runtime.NumGoroutine" then none else
   match a4u P y fn.ntmps false c,a7X P fn.results.toList with
   | some vc,some rs=>some (fn.ntmps,vc,rs)
   | _,_=>none
  | none=>none
 | none=>none
theorem b0G {fn:Func} {tmps:Array Value} {b0:Nat} {v:Value} {R:Ending→World→Prop}:∀ (rs:List Nat) (M:MM),RH M→rs.Nodup→(∀ r ∈ rs,b0≤r∧M.w.heap[r]? = some (Obj.deferred (some [])))→M.w0.heap.size≤b0 →
 (∀ M':MM,M'.I0=M.I0→M'.w0=M.w0→M'.H=M.H→M'.nx=M.nx→RH M'→(∀ x u,RV M x u→RV M' x u)→M.w.heap.size=M'.w.heap.size→(∀ r,r<b0→M'.w.heap[r]? = M.w.heap[r]?)→LeavesInM (FW none) 0 P fn tmps R [] .returning M'.w) →
 LeavesInM (FW none) 0 P fn tmps R (rs.map fun r=>⟨.collected r,#[]⟩) .returning M.w
 | [],M,hR,_,_,_,h=>h M rfl rfl rfl rfl hR (fun _ _ h=>h) rfl (fun _ _=>rfl)
 | r::rs,M,hR,hnd,hrs,hb,h=>by
  obtain ⟨hr1,hr2⟩:=hrs r (by simp);simp only[List.nodup_cons]at hnd;have hlt:r<M.w.heap.size:=(Array.getElem?_eq_some_iff.1 hr2).1;have hno:∀ id,M.m.getD id none≠some r:=fun id e=>by
   obtain ⟨_,_,ob,ho⟩:=hR.lt e;exact hR.row ho r e hr2
  obtain ⟨M1,hM1⟩:∃ M1:MM,M1=⟨M.I0,M.w0,M.w.putObj r (.deferred none),M.H,M.m,M.nx,M.o⟩:=⟨_,rfl⟩
  have hother:∀ k,k≠r→(M.w.putObj r (.deferred none)).heap[k]? = M.w.heap[k]?:=fun k hk=>World.putObj_heap_other hk;have hsz:(M.w.putObj r (.deferred none)).heap.size=M.w.heap.size:=by simp[World.putObj]
  have hkeep:KeepH M M1:=by
   subst hM1;refine ⟨fun b hb=>⟨?_,hb.2⟩,fun b _ cur ty fr hc=>?_,Nat.le_refl _,fun id ob ho _=>⟨ob,ho,rfl,rfl,Nat.le_refl _,rfl,rfl,fun g hg cur ty fr hc=>⟨cur,ty,fr,?_,rfl⟩⟩⟩
   ·rcases hb.1 with h1 | h1
    ·exact .inl h1
    ·exact .inr ⟨h1.1,by show b<(M.w.putObj r (.deferred none)).heap.size;rw[hsz];exact h1.2⟩
   ·show (M.w.putObj r (.deferred none)).heap[b]? = _;rw[hother b (fun e=>by rw[e,hr2]at hc;cases hc)];exact hc
   ·have hc':(M.w.putObj r (.deferred none)).heap[g]? = some (.cells cur ty fr):=hc;rw[hother g (fun e=>hno id (e▸hg))]at hc';exact hc'
  have hR1:RH M1:=by
   subst hM1;refine ⟨hR.below.grown b6j hR.below.size (fun k e=>by cases e;omega),hR.i0,hR.len,hR.inj,fun id ob ho=>?_⟩;obtain ⟨h1,h2⟩:=hR.own id ob ho;refine ⟨h1,?_⟩;show (match M.m.getD id none with | none=>_ | some g=>_);cases hmm:M.m.getD id none with
   | none=>rw[hmm]at h2;exact h2
   | some g =>
    rw[hmm]at h2;obtain ⟨q1,cur,q2,q3,q4⟩:=h2;exact ⟨q1,cur,q2.same (hother g (fun e=>hno id (e▸hmm))),q3,fun j x v hx hv=>RV.keepH hkeep x v (q4 j x v hx hv)⟩
  refine ⟨by simp,.inl ⟨r,M.w.putObj r (.deferred none),rfl,run_takeDeferred hr2,?_⟩⟩;have ih:=b0G (fn:=fn) (tmps:=tmps) (b0:=b0) (v:=v) (R:=R) rs M1 hR1 hnd.2 (fun q hq=>⟨(hrs q (by simp[hq])).1,by
   subst hM1;show (M.w.putObj r (.deferred none)).heap[q]? = _;rw[hother q (fun e=>hnd.1 (e▸hq))];exact (hrs q (by simp[hq])).2⟩) (by rw[hM1];exact hb) (fun M' e1 e2 e3 e4 e5 e6 e7 e8=>h M' (by rw[e1,hM1]) (by rw[e2,hM1]) (by rw[e3,hM1]) (by rw[e4,hM1]) e5 (fun x u hx=>e6 x u (RV.keepH hkeep x u hx)) (by rw[← e7,hM1];exact hsz.symm) (fun q hq=>by
   rw[e8 q hq,hM1];exact hother q (by omega)))
  rw[hM1]at ih;exact ih
theorem c0a {fn:Func} {tmps:Array Value} {R:Ending→World→Prop} {w:World} (h:∃ v,(results fn tmps).run P w = .ok v w∧R (.returned v) w):LeavesInM (FW none) 0 P fn tmps R [] .returning w:=by
 unfold LeavesInM LeavesIn;exact h
theorem VCall.of_bodyB (hm:P.follows .mixedOrders=true) {y:Bool} {f N:Nat} {vc:VC} {rs:List VR} (hf:b4m P y f=some (N,vc,rs)) {args:List AV} (hargs:args.length≤N) {H:List VObj} {nx:Nat} {C:AV→List VObj→Nat→Prop}
 (h:VW P vc (a8D P rs C) ⟨a2A 0 args,H,nx⟩):VCall P f args H nx C:=by
 unfold b4m at hf;split at hf
 ·rename_i fn hfn;split at hf
  ·rename_i c hb;split at hf
   ·cases hf
   ·rename_i hname;split at hf
    ·rename_i vc' rs' hc hr;cases hf;refine ⟨⟨fn,hfn,by simpa using hname,by simp[hb]⟩,fun M vs hR hH hnx hvs=>?_⟩;subst hH;subst hnx;have hlen:=hvs.length;refine (callsIn_wide (n:=0)).1 (callsIn_of_wp_marks (F:=FW none) (n:=0) hfn hb trivial ?_);have he:EnvR M (a2A 0 args) { tmps:=vs.toArray++Array.replicate (fn.ntmps-vs.toArray.size) undef,defers:=[] }:=by
      intro t;rw[a7R];simp only[Nat.zero_le,if_true,Nat.sub_zero];cases ht:args[t]? with
      | none=>simp only[Option.getD_none,RV]
      | some x =>
       obtain ⟨v,e1,e2⟩:=hvs.get _ _ ht;have hlt:t<vs.length:=(List.getElem?_eq_some_iff.1 e1).1;have:(vs.toArray++Array.replicate (fn.ntmps-vs.toArray.size) undef).getD t undef=v:=by
        have e3:(vs.toArray++Array.replicate (fn.ntmps-vs.toArray.size) undef)[t]? = some v:=by
         rw[Array.getElem?_append_left (by simpa using hlt)];simpa using e1
        rw[Array.getD_eq_getD_getElem?,e3];rfl
       simp only[Option.getD_some];rw[this];exact e2
     refine wpIn_mono (a3q hm c false vc hc none 0 M.w.heap.size (a8D P rs C) M _ _ (fun _=>rfl) hR he (by simp;omega) ⟨[],rfl,by simp,by simp⟩ (fun _=>Nat.le_refl _) h) fun e a' w' hp=>?_;obtain ⟨M',env',p1,p2,rfl,p4,p5,p6,p7,p8,p9⟩:=hp;have fin:b7O P ⟨env',M'.H,M'.nx⟩ (fun r=>C r M'.H M'.nx) rs→LeavesInM (FW none) 0 P fn a'.tmps (fun e w'=>∃ v r M'',e = .returned v∧M''.I0=M.I0∧M''.w0=M.w0∧M''.w=w'∧RH M''∧KeepRV M M''∧RV M'' r v∧C r M''.H M''.nx) a'.defers .returning M'.w:=fun hw=>by
      obtain ⟨ds,d1,d2,d3⟩:=p8;rw[d1];refine b0G (b0:=M.w.heap.size) (v:=undef) ds M' p4 d2 d3 (by rw[p2];exact hR.below.size) fun M'' e1 e2 e3 e4 e5 e6 e7 e8=>c0a ?_;obtain ⟨v,x,r1,r2,r3⟩:=b0h (M:=M'') e5 (fun t=>e6 _ _ (p6 t)) hr (by rw[e3,e4];exact hw);refine ⟨v,r1,v,x,M'',rfl,e1.trans p1,e2.trans p2,rfl,e5,⟨fun x u hx=>e6 x u (p5.rv x u hx),⟨by rw[← e7];exact p5.oth.size,fun r hr'=>?_⟩⟩,r2,by rw[e3,e4];exact r3⟩;rw[e8 r (Array.getElem?_eq_some_iff.1 hr').1];exact p5.oth.dfr r hr'
     cases e with
     | normal=>exact fin p9
     | ret=>exact fin p9
     | exit id=>exact p9.elim
     | goto l=>exact p9.elim
     | panic ch=>exact p9.elim
     | outgrown=>exact p9.elim
    ·cases hf
  ·cases hf
 ·cases hf
end
end Go.V
