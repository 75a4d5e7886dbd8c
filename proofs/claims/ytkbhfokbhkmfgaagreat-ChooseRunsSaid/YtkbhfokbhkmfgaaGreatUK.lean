/- The engine, part 6d: bytes as strings and back, copies, maps. No condition. -/
import Derived.Test.YtkbhfokbhkmfgaaGreatUM
import Derived.MapKept
import Derived.RangeFuncRecord
set_option linter.unusedVariables false
set_option linter.unusedSimpArgs false
namespace Go.V
open Go.RowKit
section
variable {P:Program} {o:Oper} {a:Act} {M:MM} {env:List (Nat × AV)} {C:AV→List VObj→Nat→Prop}
theorem a6f:∀ {xs:List AV} {l:List UInt8},bytesOf xs=some l→∃ ns:List Int,xs=ns.map (fun n=>.val (.int .u8 n))∧l=ns.map fun n=>UInt8.ofNat n.toNat
 | [],l,h=>by simp[bytesOf]at h;subst h;exact ⟨[],rfl,rfl⟩
 | x::xs,l,h=>by
  unfold bytesOf at h;split at h
  ·rename_i e;cases e
  ·rename_i n xs' e;simp only[List.cons.injEq]at e;obtain ⟨rfl,rfl⟩:=e;rw[Option.map_eq_some_iff]at h;obtain ⟨l',h1,rfl⟩:=h;obtain ⟨ns,rfl,rfl⟩:=a6f h1;exact ⟨n::ns,rfl,rfl⟩
  ·cases h
theorem RL.mapval {α:Type} {f:α→Value}:∀ {l:List α} {vs:List Value},RL M (l.map fun x=>.val (f x)) vs→vs=l.map f
 | [],vs,h=>by simpa [RL] using h
 | x::l,vs,h=>by
  simp only[List.map_cons,RL,RV]at h;obtain ⟨v,vs',rfl,rfl,h3⟩:=h;rw[RL.mapval h3];rfl
theorem b8J:∀ (ns:List Int) (r:ByteArray),ns.foldl (fun r n=>r.push (UInt8.ofNat n.toNat)) r=⟨r.data++(ns.map fun n=>UInt8.ofNat n.toNat).toArray⟩
 | [],r=>by simp
 | n::ns,r=>by
  rw[List.foldl_cons,b8J ns];simp[ByteArray.push]
theorem b5Z (hR:RH M) (he:EnvR M env a) {s d e:TypeId} {x:Operand} (ho:o.op = .convert s d x) (hs:P.underlying s=some (.slice e)) (hd:P.underlying d=some .string) (hb:b3S P e=true)
 (h:(K.see .b2s [x]).wp P (evF (get env)) M.H M.nx C):QStep P o a M C:=by
 have hx:=EnvR.ev he x;obtain ⟨he8,inf,hi,hsz⟩:P.underlying e=some (.int .u8)∧∃ inf,P.info? e=some inf∧inf.size=1:=by
  unfold b3S at hb;split at hb
  ·rename_i inf h1 h2;exact ⟨h1,inf,h2,by simpa using hb⟩
  ·cases hb
 have some_:∀ {b off len cap:Nat} {ns:List Int},a.eval x = .slice (some ⟨b,off,none⟩) len cap→ns.length=len→(∀ j u,(ns.map (Value.int .u8))[j]? = some u→M.w.cell? ⟨b,off+j,none⟩=some u) →
  (execOp a.eval o).run P M.w = .ok (.value (.string ⟨(ns.map fun n=>UInt8.ofNat n.toNat).toArray⟩)) M.w:=fun {b off len cap ns} e1 e2 e3=>by
  have hl:=run_loadCells_list (P:=P) M.w ⟨b,off,none⟩ (ns.map (Value.int .u8)) (fun j v hv=>by rw[Addr.add_lit];exact e3 j v hv);rw[List.length_map,e2]at hl;have:=run_bytesToString (P:=P) M.w ⟨b,off,none⟩ len cap ns hl;rw[b8J]at this;simp[execOp,ho,e1,run_convert_bytes_string M.w s d e _ _ _ hs he8 hd,this]
 have none_:∀ {n c:Nat},a.eval x = .slice none n c→(execOp a.eval o).run P M.w = .ok (.value (.string .empty)) M.w:=fun e1=>by
  simp[execOp,ho,e1,run_convert_bytes_string M.w s d e _ _ _ hs he8 hd,Conv.bytesToString]
 simp only[K.wp,evs]at h;generalize evF (get env) x=X at *
 cases X<;>try (simp[SOp.go]at h;done)
 case val v =>
  cases v<;>try (simp[SOp.go]at h;done)
  rename_i b n c;cases b<;>try (simp[SOp.go]at h;done)
  cases n<;>try (simp[SOp.go]at h;done)
  cases c<;>try (simp[SOp.go]at h;done)
  simp only[SOp.go]at h;simp only[RV]at hx;exact QStep.mk hR _ _ (none_ hx) (by simp only[RV]) h
 case imm sz xs =>
  simp only[SOp.go]at h;obtain ⟨rfl,h⟩:=h;split at h
  ·rename_i l hl;obtain ⟨ns,rfl,rfl⟩:=a6f hl;simp only[RV,RV0]at hx;obtain ⟨ad,n,c,vs,p1,p2,p3,p4,p5,p6,p7⟩:=hx;have hvs:=RL.mapval p5.toRL;subst hvs;refine QStep.mk hR (.string ⟨(ns.map fun n=>UInt8.ofNat n.toNat).toArray⟩) _ ?_ (by simp only[RV]) h;rcases p7 with p7 | ⟨b,off,rfl,q2,q3⟩
   ·have hn:ns=[]:=by
     rw[p7]at p2;exact List.eq_nil_of_length_eq_zero (by simpa using p2.symm)
    subst hn;cases ad with
    | none=>exact none_ p1
    | some ad =>
     have hl:=run_loadCells_list (P:=P) M.w ad [] (by simp);have:=run_bytesToString (P:=P) M.w ad 0 c [] (by simpa using hl);subst p7;simp[execOp,ho,p1,run_convert_bytes_string M.w s d e _ _ _ hs he8 hd,this];rfl
   ·refine some_ p1 (by simpa using p2.symm) fun j u hu=>?_;have:=q3 j u hu;rw[Nat.mul_one]at this;have h1:u.cells[0]? = some u:=by
     rw[List.getElem?_map,Option.map_eq_some_iff]at hu;obtain ⟨n',_,rfl⟩:=hu;rfl
    simpa using this 0 u h1
  ·exact h.elim
 case ref id s' off len =>
  simp only[SOp.go]at h;split at h
  ·rename_i ob hob;obtain ⟨h1,h2,h⟩:=h;split at h
   ·rename_i l hl;obtain ⟨ns,e1,rfl⟩:=a6f hl;refine QStep.mk hR (.string ⟨(ns.map fun n=>UInt8.ofNat n.toNat).toArray⟩) _ ?_ (by simp only[RV]) h;simp only[RV]at hx;obtain ⟨hzz,hx⟩:=hx.2.2 ob hob h1;cases hm:M.m.getD id none with
    | none =>
     rw[hm]at hx;obtain ⟨q1,rfl,rfl⟩:=hx;have hn:ns=[]:=by
      have:=congrArg List.length e1;simp at this;exact List.eq_nil_of_length_eq_zero this.symm
     subst hn;exact none_ q1
    | some g =>
     rw[hm]at hx;obtain ⟨oo,cap,q1,q2,q3,q4,q5,q6⟩:=hx;rw[h2,Nat.mul_one]at q4;obtain ⟨vs,g1,g2,g3⟩:=hR.cells hob hzz hm off len q4;rw[e1]at g2;have hvs:=RL.mapval g2;subst hvs;by_cases hl0:len=0
     ·have hn:ns=[]:=List.eq_nil_of_length_eq_zero (by simpa using g1.trans hl0);subst hn;have hl:=run_loadCells_list (P:=P) M.w ⟨g,oo,none⟩ [] (by simp);have:=run_bytesToString (P:=P) M.w ⟨g,oo,none⟩ len cap [] (by rw[hl0];simpa using hl);simp[execOp,ho,q1,run_convert_bytes_string M.w s d e _ _ _ hs he8 hd,this];rfl
     ·have hoo:oo=M.o id+off:=by rcases q5 with q5 | q5<;>omega
      subst hoo;exact some_ q1 (by simpa using g1) fun j u hu=>g3 j u hu
   ·exact h.elim
  ·exact h.elim
theorem b4L {id s:Nat} {x:Value} (h:RV M (.mref id s) x) {ob:VObj} (ho:M.H[id]? = some ob) (hs:ob.s=s):∃ g,M.m.getD id none=some g∧x = .map (some g):=by
 simp only[RV]at h;exact h.2.2 ob ho hs
theorem RH.map (hR:RH M) {id g:Nat} {ob:VObj} (ho:M.H[id]? = some ob) (hz:ob.sz=0) (hm:M.m.getD id none=some g) (hh:∀ r,ob.cs.head?≠some (.lp r)) :
 M.w0.heap.size≤g∧∃ es clock,M.w.heap[g]? = some (.map es clock)∧RL M ob.cs (es.toList.flatMap fun e=>[e.key,e.val])∧M.o id=0:=by
 have:=(hR.own id ob ho).2;rw[hm]at this;obtain ⟨h1,cur,h2,h3,h4⟩:=this;unfold Cont at h2;rw[if_pos hz]at h2;split at h2
 ·rename_i r tl e;exact absurd (by rw[e];rfl) (hh r)
 ·obtain ⟨es,clock,e1,e2,e3⟩:=h2;have ho0:M.o id=0:=by omega
  refine ⟨h1,es,clock,e1,?_,ho0⟩;rw[← e2];refine RL.of_get (by simp[e3]) fun i x v hx hv=>?_;exact h4 i x v hx (by rw[ho0,Nat.zero_add];simpa using hv)
theorem b2u {i:IntKind} {a:Int}:∀ (es:List MapEntry) (idx:Nat) (cs:List AV) (C:Option AV→Prop),a7W (.int i a) cs C→RL M cs (es.flatMap fun e=>[e.key,e.val]) →
 ∃ r,C r∧((r=none∧∀ k,Instr.findNow (.int k) (.int i a) es idx=some none)∨∃ v j u,r=some v∧(∀ k,Instr.findNow (.int k) (.int i a) es idx=some (some (j,u)))∧RV M v u)
 | [],idx,cs,C,h,hr=>by
  cases cs with
  | nil=>simp only[a7W]at h;exact ⟨none,h,.inl ⟨rfl,fun k=>rfl⟩⟩
  | cons c cs=>simp[RL]at hr
 | e::es,idx,cs,C,h,hr=>by
  simp only[List.flatMap_cons,List.cons_append,List.nil_append]at hr
  match cs,hr,h with
  | [],hr,_=>simp[RL]at hr
  | [c],hr,_=>simp[RL]at hr
  | c::v::cs,hr,h =>
   simp only[RL,List.cons.injEq]at hr;obtain ⟨_,_,⟨rfl,rfl⟩,h1,_,_,⟨rfl,rfl⟩,h2,h3⟩:=hr;cases c<;>try (simp[a7W]at h;done)
   rename_i kv;simp only[a7W]at h;simp only[RV]at h1;cases kv<;>try (exact h.elim)
   rename_i j b;obtain ⟨rfl,g1,g2⟩:=h;by_cases e1:a=b
   ·subst e1;exact ⟨_,g1 rfl,.inr ⟨_,idx,e.val,rfl,fun k=>by simp[Instr.findNow,h1,Instr.sameNow],h2⟩⟩
   ·obtain ⟨r,q1,q2⟩:=b2u es (idx+1) cs C (g2 e1) h3;refine ⟨r,q1,?_⟩;have hb:(a == b)=false:=by simpa using e1
    rcases q2 with ⟨rfl,q2⟩ | ⟨v',j',u,rfl,q2,q3⟩
    ·exact .inl ⟨rfl,fun k=>by simp[Instr.findNow,h1,Instr.sameNow,hb,q2]⟩
    ·exact .inr ⟨v',j',u,rfl,fun k=>by simp[Instr.findNow,h1,Instr.sameNow,hb,q2],q3⟩
theorem b9W {k:Value} {cs:List AV} {C:Option AV→Prop} (h:a7W k cs C):∀ r,cs.head?≠some (.lp r):=fun r e=>by
 cases cs with
 | nil=>cases e
 | cons c cs =>
  simp at e;subst e;cases cs<;>simp[a7W]at h
theorem a5T {b:Bool} {n:Nat} {t:TypeId} {k i:IntKind} {a:Int} (hk:P.underlying t=some (.int k)) (w:World):(Instr.checkKey b (n+1) t (.int i a)).run P w = .ok () w:=by
 simp[Instr.checkKey,run_underlying hk]
theorem b4b (hR:RH M) (he:EnvR M env a) {t kt e:TypeId} {k:IntKind} {z:Value} {x i:Operand} {ok:Bool} (ho:o.op = .lookup t x i ok) (hu:P.underlying t=some (.map kt e)) (hk:P.underlying kt=some (.int k)) (hz:(P.info? e).bind (·.zero)=some z)
 (h:(K.see (.look ok z) [x,i]).wp P (evF (get env)) M.H M.nx C):QStep P o a M C:=by
 have hx:=EnvR.ev he x;have hi:=EnvR.ev he i;simp only[K.wp,evs]at h;generalize evF (get env) x=X at *
 generalize evF (get env) i=Y at *
 cases X<;>try (simp[SOp.go]at h;done)
 rename_i id s;cases Y<;>try (simp[SOp.go]at h;done)
 rename_i kv;cases kv<;>try (simp[SOp.go]at h;done)
 rename_i ki n;simp only[SOp.go]at h;split at h
 ·rename_i ob hob;obtain ⟨h1,h2,h⟩:=h;obtain ⟨g,hm,e1⟩:=b4L hx hob h1;obtain ⟨_,es,clock,e2,e3,_⟩:=hR.map hob h2 hm (b9W h);simp only[RV]at hi;obtain ⟨r,q1,q2⟩:=b2u es.toList 0 ob.cs _ h e3;obtain ⟨inf,g1,g2⟩:=Option.bind_eq_some_iff.1 hz;have hzv:(zeroValue e).run P M.w = .ok z M.w:=by simp[zeroValue,typeInfo,g1,g2]
  have hfind:∀ {res:Option (Nat × Value)},(∀ k,Instr.findNow (.int k) (.int ki n) es.toList 0=some res)→(Instr.findKey kt (.int ki n) es.toList).run P M.w = .ok res M.w:=fun hf=>by
   simp[Instr.findKey,run_underlying hk,hf]
  have hget:(getObj g).run P M.w = .ok (.map es clock) M.w:=by simp[getObj,Sem.run,e2]
  have hck:=a5T (b:=es.isEmpty) (n:=9999) (i:=ki) (a:=n) hk M.w;simp only[Nat.reduceAdd]at hck;have hex:execOp a.eval o=(do pure (.value (← Instr.lookup t (a.eval x) (a.eval i) ok))):=by simp only[execOp,ho]
  rcases q2 with ⟨rfl,q2⟩ | ⟨v,j,u,rfl,q2,q3⟩
  ·refine QStep.mk hR (if ok then .tuple #[z,.bool false] else z) _ (by simp[hex,Instr.lookup,run_underlying hu,e1,hget,hi,hck,hfind q2,hzv]) ?_ q1;cases ok with
   | true =>
    simp only[if_true,RV,RL];exact ⟨[z,.bool false],rfl,z,[.bool false],rfl,RV.cv z,.bool false,[],rfl,rfl,rfl⟩
   | false=>simp only[Bool.false_eq_true,if_false];exact RV.cv z
  ·refine QStep.mk hR (if ok then .tuple #[u,.bool true] else u) _ (by simp[hex,Instr.lookup,run_underlying hu,e1,hget,hi,hck,hfind q2]) ?_ q1;cases ok with
   | true =>
    simp only[if_true,RV,RL];exact ⟨[u,.bool true],rfl,u,[.bool true],rfl,q3,.bool true,[],rfl,rfl,rfl⟩
   | false=>simp only[Bool.false_eq_true,if_false];exact q3
 ·exact h.elim
theorem c8Y (es:List MapEntry):(es.flatMap fun e=>[e.key,e.val]).length=2*es.length:=by
 induction es with
 | nil=>rfl
 | cons e es ih=>simp[ih];omega
theorem b4c (hR:RH M) (he:EnvR M env a) {t kt e:TypeId} {x:Operand} {c:Call} (ho:o.op = .call c) (hc:c.callee = .builtin .len) (ha:c.args.toList=[x]) (hat:c.argTypes.toList=[t])
 (hu:P.underlying t=some (.map kt e)) (h:(K.see .mlen [x]).wp P (evF (get env)) M.H M.nx C):QStep P o a M C:=by
 have hx:=EnvR.ev he x;have ha':c.args = #[x]:=by rw[← Array.toArray_toList (xs:=c.args),ha]
 have hat':c.argTypes = #[t]:=by rw[← Array.toArray_toList (xs:=c.argTypes),hat]
 simp only[K.wp,evs]at h;generalize evF (get env) x=X at *
 cases X<;>try (simp[SOp.go]at h;done)
 rename_i id s;simp only[SOp.go]at h;split at h
 ·rename_i ob hob;obtain ⟨h1,h2,hh,h⟩:=h;obtain ⟨g,hm,e1⟩:=b4L hx hob h1;obtain ⟨_,es,clock,e2,e3,_⟩:=hR.map hob h2 hm hh;have hl:=e3.length;rw[c8Y]at hl;have hget:(getObj g).run P M.w = .ok (.map es clock) M.w:=by simp[getObj,Sem.run,e2]
  refine QStep.mk hR (.int .i64 (ob.cs.length / 2:Nat)) _ ?_ (by simp only[RV]) h;have:ob.cs.length / 2=es.size:=by rw[← hl];simp
  rw[this];simp[execOp,ho,resolve,hc,ha',hat',invoke,builtin,Builtin.len_,run_underlying hu,e1,hget,goInt]
 ·exact h.elim
theorem b4M {H:List VObj} {id:Nat} {ob:VObj} (h:H[id]? = some ob):H.set id ob=H:=by
 obtain ⟨h1,h2⟩:=List.getElem?_eq_some_iff.1 h;rw[← h2];exact List.set_getElem_self h1
theorem c0U (hR:RH M) (he:EnvR M env a) {t t' e e':TypeId} {inf:TypeInfo} {x y:Operand} {c:Call} (ho:o.op = .call c) (hc:c.callee = .builtin .copy) (ha:c.args.toList=[x,y]) (hat:c.argTypes.toList=[t,t'])
 (ht:P.underlying t=some (.slice e)) (ht':P.underlying t'=some (.slice e')) (hi:P.info? e=some inf) (h:(K.eff (.cpy inf.size) [x,y]).wp P (evF (get env)) M.H M.nx C):Step P o a M C:=by
 have hx:=EnvR.ev he x;have hy:=EnvR.ev he y;have ha':c.args = #[x,y]:=by rw[← Array.toArray_toList (xs:=c.args),ha]
 have hat':c.argTypes = #[t,t']:=by rw[← Array.toArray_toList (xs:=c.argTypes),hat]
 simp only[K.wp,evs]at h;generalize evF (get env) x=X at *
 generalize evF (get env) y=Y at *
 cases X<;>try (simp[EOp.go]at h;done)
 rename_i id s off len;simp only[EOp.go]at h;split at h
 ·rename_i ob hob;obtain ⟨h1,h2,hok,hC⟩:=h;obtain ⟨ad,cy,news,y1,y2,y3,y4,y5,y6⟩:=b5V hR hok hy;have hyl:=y6.length;have hmin:(a0x M.H inf.size Y).take (min len (a0E Y)*inf.size)=(a0x M.H inf.size Y).take (min len (a0E Y)*inf.size):=rfl;have hnl:(news.take (min len (a0E Y)*inf.size)).length=min len (a0E Y)*inf.size:=by
   rw[List.length_take,y2,Nat.min_eq_left (Nat.mul_le_mul_right _ (Nat.min_le_right _ _))]
  have hfc:(Builtin.firstCells inf.size (min len (a0E Y)) (.slice ad (a0E Y) cy)).run P M.w = .ok (news.take (min len (a0E Y)*inf.size)).toArray M.w:=by
   cases ad with
   | none =>
    have h0:=y4 rfl;have hn:news=[]:=List.eq_nil_of_length_eq_zero (by rw[y2,h0];simp);subst hn;simp[Builtin.firstCells]
   | some b =>
    exact run_firstCells_some M.w inf.size _ b _ _ _ hnl fun j v hv=>by
     rw[List.getElem?_take]at hv;split at hv
     ·exact y3 b rfl j v hv
     ·cases hv
  simp only[RV]at hx;obtain ⟨hzz,hx⟩:=hx.2.2 ob hob h1;have hmm:Nat.min (a0E Y) len=min len (a0E Y):=Nat.min_comm _ _;cases hm:M.m.getD id none with
  | none =>
   rw[hm]at hx;obtain ⟨q1,rfl,rfl⟩:=hx;refine Step.quiet hR (.int .i64 (min 0 (a0E Y):Nat)) (.val (.int .i64 (min 0 (a0E Y):Nat))) ?_ (by simp only[RV]) ?_
   ·have:Nat.min (a0E Y) 0=0:=Nat.min_zero _;have hfc0:(Builtin.firstCells inf.size 0 (.slice ad (a0E Y) cy)).run P M.w = .ok #[] M.w:=by simpa using hfc
    simp[execOp,ho,resolve,hc,ha',hat',invoke,builtin,Builtin.copy_,run_underlying ht,q1,y1,Builtin.lenOf,sizeOf,typeInfo,hi,hfc0,goInt]
   ·simp only[Nat.zero_min,Nat.zero_mul,List.take_zero,List.append_nil,List.nil_append,Nat.add_zero,List.drop_zero]at hC;rw[b4M hob]at hC;exact hC
  | some g =>
   rw[hm]at hx;obtain ⟨oo,cap,q1,q2,q3,q4,q5,q6⟩:=hx;rw[h2]at q4;have hml:min len (a0E Y)*inf.size≤len*inf.size:=Nat.mul_le_mul_right _ (Nat.min_le_left _ _);have hal:((a0x M.H inf.size Y).take (min len (a0E Y)*inf.size)).length=min len (a0E Y)*inf.size:=by
    rw[List.length_take,← hyl,y2,Nat.min_eq_left (Nat.mul_le_mul_right _ (Nat.min_le_right _ _))]
   obtain ⟨M',m1,m2,m3,m4,m5,m6,m7⟩:=hR.write hob hzz hm off _ _ (by rw[hal];omega) (y6.take (min len (a0E Y)*inf.size)) (fun u hu=>y5 u (List.mem_of_mem_take hu)) P;rw[hal]at m3;have hst:(storeCells ⟨g,oo,none⟩ (news.take (min len (a0E Y)*inf.size))).run P M.w = .ok () M'.w:=by
    rcases q5 with q5 | q5
    ·have h0:len=0:=by omega
     subst h0;simp only[Nat.zero_min,Nat.zero_mul,List.take_zero,storeCells,Sem.run_pure]at m7 ⊢;exact m7
    ·rw[q5];exact m7
   refine Step.value m1 m2 m5 m6.rv (.int .i64 (min len (a0E Y):Nat)) (.val (.int .i64 (min len (a0E Y):Nat))) ?_ (by simp only[RV]) (by rw[m3,m4];exact hC);simp[execOp,ho,resolve,hc,ha',hat',invoke,builtin,Builtin.copy_,run_underlying ht,q1,y1,Builtin.lenOf,sizeOf,typeInfo,hi,hmm,hfc,goInt,hst]
 ·exact h.elim
theorem c8Z {z:Value} (hz:z.oneCell'=true) (n:Nat):(Builtin.zeroCells z.cells n).toList=List.replicate n z:=by
 rw[a1U hz];simp[Builtin.zeroCells];apply List.ext_getElem
 ·simp
 ·intro i h1 h2;simp[Nat.mod_one]
theorem c0V (hR:RH M) (he:EnvR M env a) {t e:TypeId} {z:Value} {x:Operand} {c:Call} (ho:o.op = .call c) (hc:c.callee = .builtin .clear) (ha:c.args.toList=[x]) (hat:c.argTypes.toList=[t])
 (ht:P.underlying t=some (.slice e)) (hz:(P.info? e).bind (·.zero)=some z) (h1z:z.oneCell'=true) (h:(K.eff (.clr z) [x]).wp P (evF (get env)) M.H M.nx C):Step P o a M C:=by
 have hx:=EnvR.ev he x;have ha':c.args = #[x]:=by rw[← Array.toArray_toList (xs:=c.args),ha]
 have hat':c.argTypes = #[t]:=by rw[← Array.toArray_toList (xs:=c.argTypes),hat]
 simp only[K.wp,evs]at h;generalize evF (get env) x=X at *
 cases X<;>try (simp[EOp.go]at h;done)
 rename_i id s off len;simp only[EOp.go]at h;split at h
 ·rename_i ob hob;obtain ⟨h1,h2,hC⟩:=h;obtain ⟨inf,g1,g2⟩:=Option.bind_eq_some_iff.1 hz;have hzv:(zeroValue e).run P M.w = .ok z M.w:=by simp[zeroValue,typeInfo,g1,g2]
  simp only[RV]at hx;obtain ⟨hzz,hx⟩:=hx.2.2 ob hob h1;cases hm:M.m.getD id none with
  | none =>
   rw[hm]at hx;obtain ⟨q1,rfl,rfl⟩:=hx;refine Step.quiet hR (.tuple #[]) (.tup []) ?_ (by simp[RV,RL]) ?_
   ·simp[execOp,ho,resolve,hc,ha',hat',invoke,builtin,Builtin.clear_,run_underlying ht,q1]
   ·simp only[List.replicate_zero,List.take_zero,List.append_nil,List.nil_append,Nat.add_zero,List.drop_zero]at hC;rw[b4M hob]at hC;exact hC
  | some g =>
   rw[hm]at hx;obtain ⟨oo,cap,q1,q2,q3,q4,q5,q6⟩:=hx;rw[h2,Nat.mul_one]at q4;by_cases hl:len=0
   ·subst hl;refine Step.quiet hR (.tuple #[]) (.tup []) ?_ (by simp[RV,RL]) ?_
    ·simp[execOp,ho,resolve,hc,ha',hat',invoke,builtin,Builtin.clear_,run_underlying ht,q1]
    ·simp only[List.replicate_zero,List.append_nil,Nat.add_zero,List.take_append_drop]at hC;rw[b4M hob]at hC;exact hC
   ·have hoo:oo=M.o id+off:=by rcases q5 with q5 | q5<;>omega
    subst hoo;have hrl:RL M (List.replicate len (.val z)) (List.replicate len z):=by
     have:=RL.vals (M:=M) (List.replicate len z);simpa using this
    obtain ⟨M',m1,m2,m3,m4,m5,m6,m7⟩:=hR.write hob hzz hm off _ _ (by simpa using q4) hrl (fun u hu=>by rw[List.eq_of_mem_replicate hu];exact h1z) P;refine Step.value m1 m2 m5 m6.rv (.tuple #[]) (.tup []) ?_ (by simp[RV,RL]) (by rw[m3,m4];simpa using hC);obtain ⟨k,rfl⟩:∃ k,len=k+1:=⟨len-1,by omega⟩
    simp[execOp,ho,resolve,hc,ha',hat',invoke,builtin,Builtin.clear_,run_underlying ht,q1,hzv,c8Z h1z,m7]
 ·exact h.elim
theorem c0W (hR:RH M) {t:TypeId} (ho:o.op = .makeMap t none) (h:(K.eff .mkm []).wp P (evF (get env)) M.H M.nx C):Step P o a M C:=by
 simp only[K.wp,evs,EOp.go]at h;obtain ⟨k1,k2⟩:=hR.newB (M.w.alloc (.map #[] 0)) ⟨M.nx,0,0,[]⟩ (some M.w.heap.size) 0 rfl (World.grownBy_alloc M.w _ none) ⟨Nat.le_refl _,#[],by
  unfold Cont;simp only[if_true];exact ⟨#[],0,heap_alloc_new M.w _,by simp,by simp⟩,by simp,fun j x v hx=>by simp at hx⟩
 refine Step.value (M':=⟨M.I0,M.w0,M.w.alloc (.map #[] 0),_,_,_,_⟩) rfl rfl k1 k2.rv (.map (some M.w.heap.size)) (.mref M.H.length M.nx) ?_ ?_ h
 ·simp[execOp,ho,Instr.makeMap,newObj,Sem.run]
 ·simp only[RV];exact ⟨Nat.lt_succ_self _,rfl,fun ob _ _=>⟨_,by rw[a0L hR.len,if_pos rfl],rfl⟩⟩
theorem b4d {i:IntKind} {cs:List AV} (h:b1Q i cs):∀ r,cs.head?≠some (.lp r):=fun r e=>by
 cases cs with
 | nil=>cases e
 | cons c cs=>simp at e;subst e;cases cs<;>simp[b1Q]at h
theorem c0X {k:Value} {v:AV} (cs:List AV) (h:∀ r,cs.head?≠some (.lp r)):∀ r,(b4G k v cs).head?≠some (.lp r):=fun r=>by
 unfold b4G;split
 ·repeat' split
  all_goals simp
 ·simp
theorem b4e {i:IntKind} {a:Int} {v:AV} {u:Value} (hv:RV M v u):∀ (es:List MapEntry) (idx:Nat) (cs:List AV),b1Q i cs→RL M cs (es.flatMap fun e=>[e.key,e.val]) →
 cs.length≤(b4G (.int i a) v cs).length ∧
 (((∀ k,Instr.findNow (.int k) (.int i a) es idx=some none)∧∀ b,RL M (b4G (.int i a) v cs) ((es++[(⟨.int i a,u,b⟩:MapEntry)]).flatMap fun e=>[e.key,e.val])) ∨
  ∃ j w,j<es.length∧(∀ k,Instr.findNow (.int k) (.int i a) es idx=some (some (idx+j,w)))∧((es[j]?).map (·.key)=some (.int i a))∧RL M (b4G (.int i a) v cs) ((es.modify j fun e=>{ e with key:=.int i a,val:=u }).flatMap fun e=>[e.key,e.val]))
 | [],idx,cs,h,hr=>by
  simp only[List.flatMap_nil,RL.length]at hr;have:cs=[]:=List.eq_nil_of_length_eq_zero (by have:=hr.length;simpa using this.symm);subst this;refine ⟨by simp,.inl ⟨fun k=>rfl,fun b=>?_⟩⟩;simp only[b4G,List.nil_append,List.flatMap_cons,List.flatMap_nil,List.append_nil,RL,RV];exact ⟨_,_,rfl,rfl,u,[],rfl,hv,rfl⟩
 | e::es,idx,cs,h,hr=>by
  simp only[List.flatMap_cons,List.cons_append,List.nil_append]at hr
  match cs,hr,h with
  | [],hr,_=>simp[RL]at hr
  | [c],hr,_=>simp[RL]at hr
  | c::x::cs,hr,h =>
   simp only[RL,List.cons.injEq]at hr;obtain ⟨_,_,⟨rfl,rfl⟩,h1,_,_,⟨rfl,rfl⟩,h2,h3⟩:=hr;cases c<;>try (simp[b1Q]at h;done)
   rename_i kv;cases kv<;>try (simp[b1Q]at h;done)
   rename_i j b;simp only[b1Q]at h;obtain ⟨rfl,hx1,h⟩:=h;simp only[RV]at h1;by_cases e1:a=b
   ·subst e1;have hu:b4G (.int j a) v (.val (.int j a)::x::cs) = .val (.int j a)::v::cs:=by simp[b4G]
    rw[hu];refine ⟨by simp,.inr ⟨0,e.val,by simp,fun k=>by simp[Instr.findNow,h1,Instr.sameNow],by simp[h1],?_⟩⟩;simp only[List.modify_zero_cons,List.flatMap_cons,List.cons_append,List.nil_append,RL,RV];exact ⟨_,_,rfl,rfl,_,_,rfl,hv,h3⟩
   ·have hb:(a == b)=false:=by simpa using e1
    have hu:b4G (.int j a) v (.val (.int j b)::x::cs) = .val (.int j b)::x::b4G (.int j a) v cs:=by simp[b4G,hb]
    rw[hu];obtain ⟨hl,ih⟩:=b4e hv es (idx+1) cs h h3;refine ⟨by simpa using hl,?_⟩;rcases ih with ⟨q1,q2⟩ | ⟨j',w,q0,q1,q2,q3⟩
    ·refine .inl ⟨fun k=>by simp[Instr.findNow,h1,Instr.sameNow,hb,q1],fun b'=>?_⟩;simp only[List.cons_append,List.flatMap_cons,List.nil_append,RL,RV];exact ⟨_,_,rfl,h1,_,_,rfl,h2,q2 b'⟩
    ·refine .inr ⟨j'+1,w,by simpa using q0,fun k=>by simp[Instr.findNow,h1,Instr.sameNow,hb,q1];omega,by simpa using q2,?_⟩;simp only[List.modify_succ_cons,List.flatMap_cons,List.cons_append,List.nil_append,RL,RV];exact ⟨_,_,rfl,h1,_,_,rfl,h2,q3⟩
theorem b6a (hR:RH M) (he:EnvR M env a) {t kt e:TypeId} {k0:IntKind} {m k v:Operand} (ho:o.op = .mapUpdate t m k v∨o.op = .insert t m k v) (hu:P.underlying t=some (.map kt e)) (hk:P.underlying kt=some (.int k0))
 (h:(K.eff .upd [m,k,v]).wp P (evF (get env)) M.H M.nx C):Step P o a M C:=by
 have hm':=EnvR.ev he m;have hk':=EnvR.ev he k;have hv':=EnvR.ev he v;simp only[K.wp,evs]at h;generalize evF (get env) m=X at *
 generalize evF (get env) k=Y at *
 generalize evF (get env) v=Z at *
 cases X<;>try (simp[EOp.go]at h;done)
 rename_i id s;cases Y<;>try (simp[EOp.go]at h;done)
 rename_i kv;cases kv<;>try (simp[EOp.go]at h;done)
 rename_i i n;simp only[EOp.go]at h;split at h
 ·rename_i ob hob;obtain ⟨h1,h2,h3,h4,hC⟩:=h;obtain ⟨g,hm,e1⟩:=b4L hm' hob h1;obtain ⟨g1,es,clock,e2,e3,e4⟩:=hR.map hob h2 hm (b4d h3);obtain ⟨hlen,hupd⟩:=b4e (a:=n) hv' es.toList 0 ob.cs h3 e3;simp only[RV]at hk';have hget:(getObj g).run P M.w = .ok (.map es clock) M.w:=by simp[getObj,Sem.run,e2]
  have hset:∀ ob',(setObj g ob').run P M.w = .ok () (M.w.putObj g ob'):=fun ob'=>by simp[setObj,Sem.run,e2,World.putObj]
  have hck:=a5T (b:=false) (n:=9999) (i:=i) (a:=n) hk M.w;simp only[Nat.reduceAdd]at hck;have hlt:g<M.w.heap.size:=(Array.getElem?_eq_some_iff.1 e2).1;have hex:execOp a.eval o=(do Instr.mapUpdate t (a.eval m) (a.eval k) (a.eval v);pure .skip):=by rcases ho with ho | ho<;>simp only[execOp,ho]
  have fin:∀ (es':Array MapEntry) (clock':Nat),RL M (b4G (.int i n) Z ob.cs) (es'.toList.flatMap fun e=>[e.key,e.val])→(Instr.mapUpdate t (a.eval m) (a.eval k) (a.eval v)).run P M.w = .ok () (M.w.putObj g (.map es' clock'))→Step P o a M C:=fun es' clock' hr hrun=>by
   have hnew:(M.w.putObj g (.map es' clock')).heap[g]? = some (.map es' clock'):=World.putObj_heap_same hlt;have hl:=hr.length;obtain ⟨k1,k2⟩:=hR.put (M.w.putObj g (.map es' clock')) id ob { ob with cs:=b4G (.int i n) Z ob.cs } (some g) M.nx (M.o id) hob (hm▸⟨rfl,rfl,rfl,by simp[World.putObj],fun k _ hk=>World.putObj_heap_other (fun e=>hk (by rw[e]))⟩)
    ⟨.inl hm,(es'.toList.flatMap fun e=>[e.key,e.val]).toArray,by
      unfold Cont;rw[if_pos h2];split
      ·rename_i r tl he';have he2:b4G (.int i n) Z ob.cs = .lp r::tl:=he';exact absurd (by rw[he2];rfl) (c0X (k:=.int i n) (v:=Z) ob.cs (b4d h3) r)
      ·exact ⟨es',clock',hnew,by simp,by simpa using hl.symm⟩,by
      rw[e4];simp only[List.size_toArray];rw[← hl];simp,fun j x w hx hw=>by
      obtain ⟨w',r1,r2⟩:=hr.get _ _ hx;rw[e4,Nat.zero_add]at hw;simp at hw;rw[hw]at r1;cases r1;exact r2⟩
    (.inr ⟨rfl,rfl,rfl,rfl,hlen,hm.symm,fun g' e cur' ty' fr' hc=>by
      cases e;rw[hnew]at hc;cases hc⟩)
   refine Step.skip (M':=⟨M.I0,M.w0,M.w.putObj g (.map es' clock'),M.H.set id { ob with cs:=b4G (.int i n) Z ob.cs },M.m.set id (some g),M.nx,fun q=>if q=id then M.o id else M.o q⟩) rfl rfl k1 k2.rv (by simp[hex,hrun]) hC
  rcases hupd with ⟨q1,q2⟩ | ⟨j,w,q0,q1,q2,q3⟩
  ·refine fin (es.push ⟨.int i n,a.eval v,clock⟩) (clock+1) (by simpa using q2 clock) ?_;simp[Instr.mapUpdate,run_underlying hu,e1,hget,hk',hck,Instr.findKey,run_underlying hk,q1,hset]
  ·refine fin (es.modify j fun e=>{ e with key:=.int i n,val:=a.eval v }) clock (by simpa using q3) ?_;have hj:(((es[j]?).map (·.key)).getD (.int i n)) = .int i n:=by
    have:es[j]? = es.toList[j]?:=by simp
    rw[this,q2];rfl
   have hst:(Instr.keyThatStays (.int i n) (.int i n)).run P M.w = .ok (.int i n) M.w:=by simp[Instr.keyThatStays,Instr.sameBits]
   simp[Instr.mapUpdate,run_underlying hu,e1,hget,hk',hck,Instr.findKey,run_underlying hk,q1,hset,hj,hst]
 ·exact h.elim
theorem c0Y (hR:RH M) (he:EnvR M env a) {t d e:TypeId} {x:Operand} (ho:o.op = .convert t d x) (hs:P.underlying t=some .string) (hd:P.underlying d=some (.slice e)) (hb:b3S P e=true)
 (h:(K.eff (.s2b e) [x]).wp P (evF (get env)) M.H M.nx C):Step P o a M C:=by
 have hx:=EnvR.ev he x;obtain ⟨he8,inf,hi,hsz⟩:P.underlying e=some (.int .u8)∧∃ inf,P.info? e=some inf∧inf.size=1:=by
  unfold b3S at hb;split at hb
  ·rename_i inf h1 h2;exact ⟨h1,inf,h2,by simpa using hb⟩
  ·cases hb
 simp only[K.wp,evs]at h;generalize evF (get env) x=X at *
 cases X<;>try (simp[EOp.go]at h;done)
 rename_i v;cases v<;>try (simp[EOp.go]at h;done)
 rename_i b;simp only[EOp.go]at h;obtain ⟨hb1,hC⟩:=h;simp only[RV]at hx;obtain ⟨cap,hcap⟩:∃ cap,cap=grownCap M.w b.size 0 e:=⟨_,rfl⟩
 have hc1:b.size≤cap:=hcap▸grownCap_ge M.w b.size 0 e;have hc2:cap≤maxLen:=hcap▸grownCap_le_maxLen M.w b.size 0 e (by simp only[maxLen];omega);obtain ⟨elems,hel⟩:∃ elems:Array Value,elems=b.data.map (fun c=>.int .u8 c.toNat)++Array.replicate (cap-b.size) (.int .u8 0):=⟨_,rfl⟩
 have hes:elems.size=cap:=by
  have:b.data.size=b.size:=rfl;rw[hel];simp[this];omega
 obtain ⟨w1,hw1⟩:∃ w1:World,w1=M.w.drew.alloc (.cells elems e):=⟨_,rfl⟩
 have hnew:w1.heap[M.w.heap.size]? = some (.cells elems e (0,0)):=by rw[hw1];exact heap_alloc_new M.w.drew _
 obtain ⟨w2,hw2⟩:∃ w2:World,w2=w1.freeze ⟨M.w.heap.size,cap,none⟩ 1:=⟨_,rfl⟩
 have hlt:M.w.heap.size<w1.heap.size:=(Array.getElem?_eq_some_iff.1 hnew).1;have hnew2:w2.heap[M.w.heap.size]? = some (.cells elems e (cap,cap+1)):=by
  rw[hw2];simp only[World.freeze,Nat.one_ne_zero,if_false];rw[Array.getElem?_modify];simp[hnew]
 have hold:∀ k,k<M.w.heap.size→w2.heap[k]? = M.w.heap[k]?:=fun k hk=>by
  rw[hw2];simp only[World.freeze,Nat.one_ne_zero,if_false];rw[Array.getElem?_modify,if_neg (by omega),hw1];exact heap_alloc_old M.w.drew _ hk
 have hgr:M.w.grownBy w2 none:=⟨by rw[hw2,hw1];rfl,by rw[hw2,hw1];rfl,by rw[hw2,hw1];rfl,by rw[hw2];simp[World.freeze];omega,fun k hk _=>hold k hk⟩
 have hrun:(execOp a.eval o).run P M.w = .ok (.value (.slice (some ⟨M.w.heap.size,0,none⟩) b.size cap)) w2:=by
  have hsh:w1.shape? M.w.heap.size=some (e,cap):=by simp[World.shape?,hnew,hes]
  have hq:(Question.appendCap b.size 0 e).forced=false:=rfl;have hch:(choose (.appendCap b.size 0 e)).run P M.w = .ok cap M.w.drew:=by
   rw[run_choose_drew];simp[hq,hcap,grownCap]
  have hno:(newObj (.cells elems e)).run P M.w.drew = .ok M.w.heap.size w1:=by rw[hw1];rfl
  have hsb:(Conv.stringToBytes e b).run P M.w = .ok (.slice (some ⟨M.w.heap.size,0,none⟩) b.size cap) w2:=by
   unfold Conv.stringToBytes;simp only[Sem.run_bind,hch,Result.andThen_ok,newRow,← hel,hno,Sem.run_pure,markStringish,run_shape,hsh,run_freeze,hw2]
  simp[execOp,ho,hx,convert,run_underlying hs,run_underlying hd,run_underlying he8,hsb]
 obtain ⟨k1,k2⟩:=hR.put1 w2 ⟨M.nx,e,1,b.data.toList.map fun c=>.val (.int .u8 (c.toNat:Nat))⟩ M.w.heap.size 0 rfl hgr ⟨Nat.le_refl _,elems,Cont.of (by simp) hnew2 (.inr (by rw[hes];exact Nat.le_refl _)),by
  have:b.data.size=b.size:=rfl;simp[hes,this];omega,fun j x v hx hv=>by
  rw[Nat.zero_add,hel]at hv;have hj:j<b.data.size:=by have:=(List.getElem?_eq_some_iff.1 hx).1;simpa using this
  rw[Array.getElem?_append_left (by simpa using hj)]at hv;simp[hj]at hx hv;obtain ⟨c,q1,rfl⟩:=hx;obtain ⟨c',q2,rfl⟩:=hv;rw[q1]at q2;cases q2;simp only[RV]⟩
 refine Step.value (M':=⟨M.I0,M.w0,w2,M.H++[⟨M.nx,e,1,b.data.toList.map fun c=>.val (.int .u8 (c.toNat:Nat))⟩],M.m++[some M.w.heap.size],M.nx+1,fun i=>if i=M.H.length then 0 else M.o i⟩) rfl rfl k1 k2.rv _ _ hrun ?_ hC;refine RV.fresh (M:=M) (M':=⟨M.I0,M.w0,w2,_,_,_,_⟩) (by simp) rfl rfl (g:=M.w.heap.size) (by show (M.m++[some M.w.heap.size]).getD M.H.length none=_;rw[a0L hR.len,if_pos rfl]) (if_pos rfl) hc1 hc2 (by
  have:b.data.size=b.size:=rfl;simp[this]) (.inr rfl) fun cur ty fr hcur=>?_
 have hcur':w2.heap[M.w.heap.size]? = some (.cells cur ty fr):=hcur;rw[hnew2]at hcur';injection hcur' with hcur';injection hcur' with hcur';rw[← hcur',hes];simp
end
end Go.V
