/- The engine, part 5: the other operations. No condition. -/
import Derived.Test.YtkbhfokbhkmfgaaGreatU4
set_option linter.unusedVariables false
set_option linter.unusedSimpArgs false
namespace Go.V
open Go.RowKit
section
variable {P:Program} {o:Oper} {a:Act} {M:MM} {env:List (Nat × AV)} {C:AV→List VObj→Nat→Prop}
theorem b2f (hR:RH M) (he:EnvR M env a) {x:Operand} (ho:o.op = .move x∨o.op = .assign x) (h:(K.mv x).wp P (evF (get env)) M.H M.nx C):QStep P o a M C :=
 QStep.mk hR (a.eval x) _ (by rcases ho with ho | ho<;>simp[execOp,ho]) (EnvR.ev he x) h
theorem b3T (hR:RH M) (he:EnvR M env a) {c x y:Operand} (ho:o.op = .pick c x y) (h:(K.pick c x y).wp P (evF (get env)) M.H M.nx C):QStep P o a M C:=by
 have hc:=EnvR.ev he c;simp only[K.wp]at h;split at h
 ·rename_i t ht;rw[ht]at hc;simp only[RV]at hc;cases t with
  | true=>exact QStep.mk hR (a.eval x) _ (by simp[execOp,ho,hc,asBool]) (EnvR.ev he x) (h.1 rfl)
  | false=>exact QStep.mk hR (a.eval y) _ (by simp[execOp,ho,hc,asBool]) (EnvR.ev he y) (h.2 rfl)
 ·exact h.elim
theorem b5M (hR:RH M) (he:EnvR M env a) {t e:TypeId} {inf:TypeInfo} {x i:Operand} (ho:o.op = .indexAddr t x i) (ht:P.underlying t=some (.slice e)) (hi:P.info? e=some inf)
 (h:(K.idx inf.size x i).wp P (evF (get env)) M.H M.nx C):QStep P o a M C:=by
 have hx:=EnvR.ev he x;have hii:=EnvR.ev he i;have key:∀ {b off len cap:Nat} {kk:IntKind} {k:Int},a.eval x = .slice (some ⟨b,off,none⟩) len cap→a.eval i = .int kk k→0≤k→k<len →
  (execOp a.eval o).run P M.w = .ok (.value (.pointer (some ⟨b,off+k.toNat*inf.size,none⟩))) M.w:=fun e1 e2 e3 e4=>by
  simp[execOp,ho,Instr.indexAt,e1,e2,asIntOf,run_underlying ht,sizeOf,typeInfo,hi,e3,e4,Addr.add_lit]
 simp only[K.wp]at h;split at h
 ·rename_i sz xs kk k h1 h2;rw[h1]at hx;rw[h2]at hii;simp only[RV]at hii;simp only[RV,RV0]at hx;obtain ⟨ad,n,c,vs,p1,p2,p3,p4,p5,p6,p7⟩:=hx;obtain ⟨rfl,h0,hk,hC⟩:=h;rcases p7 with p7 | ⟨b,off,rfl,q2,q3⟩
  ·omega
  ·have hget:xs[k.toNat]? = some xs[k.toNat]:=List.getElem?_eq_getElem hk;obtain ⟨v,r1,r2⟩:=p5.get _ _ hget;refine QStep.mk hR _ _ (key p1 hii h0 (by omega)) ?_ hC;simp only[RV,RV0];refine ⟨b,_,v,rfl,q2,?_,q3 _ v r1⟩;simpa [List.getD,hget] using r2
 ·rename_i id s off len kk k h1 h2;rw[h1]at hx;rw[h2]at hii;simp only[RV]at hii;split at h
  ·rename_i ob hob;obtain ⟨hs,hz,h0,hk,hC⟩:=h;simp only[RV]at hx;obtain ⟨hlt,_,hx⟩:=hx;obtain ⟨hzz,hx⟩:=hx ob hob hs;cases hm:M.m.getD id none with
   | none=>rw[hm]at hx;omega
   | some g =>
    rw[hm]at hx;obtain ⟨oo,cap,q1,q2,q3,q4,q5,q6⟩:=hx;have hoo:oo=M.o id+off:=by rcases q5 with q5 | q5<;>omega
    subst hoo;refine QStep.mk hR _ _ (key q1 hii h0 (by omega)) ?_ hC;simp only[RV];exact ⟨hlt,rfl,fun ob' hob' _=>⟨by rw[hob]at hob';cases hob';exact hzz,g,hm,by rw[Nat.add_assoc]⟩⟩
  ·exact h.elim
 ·exact h.elim
theorem b8E {cs:List AV} {vs:List Value} {off n:Nat} {ag:Bool} (h:RL M cs vs) (hp:a0F cs off ag n) :
 (ag=true→RV M (a1f cs off ag n) (.agg (vs.toArray.extract off (off+n)))) ∧
 (ag=false→n=1∧∃ v,vs[off]? = some v∧RV M (a1f cs off ag n) v∧v.oneCell'=true):=by
 obtain ⟨hp1,hp2⟩:=hp;refine ⟨fun e=>?_,fun e=>?_⟩
 ·subst e;simp only[a1f,if_true,RV];refine ⟨(vs.drop off).take n,?_,(h.drop off).take n⟩;congr 1;apply Array.ext';simp[List.extract_eq_take_drop]
 ·subst e;obtain ⟨rfl,h6⟩:=hp2.resolve_left (by simp);have hget:cs[off]? = some cs[off]:=List.getElem?_eq_getElem (by omega);have hgd:cs.getD off .dead=cs[off]:=by simp[List.getD,hget]
  obtain ⟨v,g1,g2⟩:=h.get _ _ hget;rw[hgd]at h6;refine ⟨rfl,v,g1,?_,(RV.one h6 g2).1⟩;simp only[a1f,Bool.false_eq_true,if_false,hgd];exact g2
theorem b8F {b off0:Nat} {cs:List AV} {off n:Nat} {ag:Bool} {v:Value} (hI:M.I b) (h:RV0 M.w M.I (.agg cs) v) (hm:InMem M.w b off0 v) (hp:a0F cs off ag n) :
 RV M (.ip (a1f cs off ag n)) (.pointer (some ⟨b,off0+off,none⟩)):=by
 simp only[RV0]at h;obtain ⟨vs,rfl,h1⟩:=h;obtain ⟨hp1,hp2⟩:=hp;simp only[RV,RV0];by_cases hag:ag=true
 ·subst hag;refine ⟨b,_,.agg ((vs.drop off).take n).toArray,rfl,hI,?_,fun j u hu=>?_⟩
  ·simp only[a1f,if_true,RV0];exact ⟨_,rfl,(h1.drop off).take n⟩
  ·simp only[Value.cells,List.getElem?_toArray,List.getElem?_take]at hu;split at hu
   ·rw[List.getElem?_drop]at hu;have:=hm (off+j) u (by simpa [Value.cells] using hu);rw[Nat.add_assoc];exact this
   ·cases hu
 ·have hag':ag=false:=by simpa using hag
  subst hag';obtain ⟨rfl,h6⟩:=hp2.resolve_left (by simp);have hget:cs[off]? = some cs[off]:=List.getElem?_eq_getElem (by omega);have hgd:cs.getD off .dead=cs[off]:=by simp[List.getD,hget]
  obtain ⟨u,g1,g2⟩:=h1.get _ _ hget;rw[hgd]at h6;have hone:=RV.one h6 (RV.of0 g2);refine ⟨b,_,u,rfl,hI,by simp only[a1f,Bool.false_eq_true,if_false,hgd];exact g2,fun j x hx=>?_⟩;rw[hone.2]at hx;cases j with
  | zero=>simp at hx;subst hx;exact hm off u (by simpa [Value.cells] using g1)
  | succ j=>simp at hx
theorem b3U (hR:RH M) (he:EnvR M env a) {t e:TypeId} {len n:Nat} {ag:Bool} {x i:Operand} (ho:o.op = .indexAddr t x i) (ht:P.underlying t=some (.array len e)) (hl:a9b P e=some (ag,n))
 (h:(K.aidx len ag n x i).wp P (evF (get env)) M.H M.nx C):QStep P o a M C:=by
 have hx:=EnvR.ev he x;have hii:=EnvR.ev he i;have hsz:=(a4c hl M.w).2.1;have key:∀ {b off:Nat} {kk:IntKind} {k:Int},a.eval x = .pointer (some ⟨b,off,none⟩)→a.eval i = .int kk k→0≤k→k<len →
  (execOp a.eval o).run P M.w = .ok (.value (.pointer (some ⟨b,off+k.toNat*n,none⟩))) M.w:=fun e1 e2 e3 e4=>by
  simp[execOp,ho,Instr.indexAt,e1,e2,asIntOf,run_underlying ht,hsz,Instr.sureAddr,e3,e4,Addr.add_lit]
 simp only[K.wp]at h;split at h
 ·rename_i cs kk k h1 h2;rw[h1]at hx;rw[h2]at hii;simp only[RV]at hii;rw[RV,RV0]at hx;obtain ⟨b,off,v,p1,p2,p3,p4⟩:=hx;obtain ⟨h0,hk,hp,hC⟩:=h;exact QStep.mk hR _ _ (key p1 hii h0 (by omega)) (b8F p2 p3 p4 hp) hC
 ·rename_i id s off kk k h1 h2;rw[h1]at hx;rw[h2]at hii;simp only[RV]at hii;split at h
  ·rename_i ob hob;obtain ⟨hs,h0,hk,hC⟩:=h;obtain ⟨g,hg,e1⟩:=a9Y hx hob hs;refine QStep.mk hR _ _ (key e1 hii h0 (by omega)) ?_ hC;have hzz:=b8D hx hob hs;simp only[RV]at hx ⊢;exact ⟨hx.1,rfl,fun ob' hob' _=>⟨by rw[hob]at hob';cases hob';exact hzz,g,hg,by rw[Nat.add_assoc]⟩⟩
  ·exact h.elim
 ·exact h.elim
theorem b2t {t:TypeId} {f off:Nat} {ag:Bool} {n:Nat} (h:a9X P t f=some (off,ag,n)):∃ fs fd,P.underlying t=some (.struct fs)∧fs[f]? = some fd∧fd.offset=off∧a9b P fd.type=some (ag,n)∧n≠0:=by
 unfold a9X at h;split at h
 ·rename_i fs hu;split at h
  ·rename_i fd hf;split at h
   ·rename_i ag' n' hl;split at h
    ·cases h
    ·rename_i hn;simp only[Option.some.injEq,Prod.mk.injEq]at h;obtain ⟨h1,h2,h3⟩:=h;subst h2;subst h3;exact ⟨fs,fd,hu,hf,h1,hl,hn⟩
   ·cases h
  ·cases h
 ·cases h
theorem b5N (hR:RH M) (he:EnvR M env a) {t:TypeId} {f off n:Nat} {ag:Bool} {x:Operand} (ho:o.op = .fieldAddr t x f) (hf:a9X P t f=some (off,ag,n))
 (h:(K.fad off ag n x).wp P (evF (get env)) M.H M.nx C):QStep P o a M C:=by
 have hx:=EnvR.ev he x;obtain ⟨fs,fd,hu,hfd,hoff,hl,hn⟩:=b2t hf;have hsz:=(a4c hl M.w).2.1;have key:∀ {b o0:Nat},a.eval x = .pointer (some ⟨b,o0,none⟩)→(execOp a.eval o).run P M.w = .ok (.value (.pointer (some ⟨b,o0+off,none⟩))) M.w:=fun e1=>by
  simp[execOp,ho,Instr.fieldAt,e1,Instr.sureAddr,run_underlying hu,hfd,fieldPlace,hsz,hn,Addr.add_lit,hoff]
 simp only[K.wp]at h;split at h
 ·rename_i cs h1;rw[h1]at hx;rw[RV,RV0]at hx;obtain ⟨b,o0,v,p1,p2,p3,p4⟩:=hx;obtain ⟨hp,hC⟩:=h;exact QStep.mk hR _ _ (key p1) (b8F p2 p3 p4 hp) hC
 ·rename_i id s o0 h1;rw[h1]at hx;split at h
  ·rename_i ob hob;obtain ⟨hs,hC⟩:=h;obtain ⟨g,hg,e1⟩:=a9Y hx hob hs;refine QStep.mk hR _ _ (key e1) ?_ hC;have hzz:=b8D hx hob hs;simp only[RV]at hx ⊢;exact ⟨hx.1,rfl,fun ob' hob' _=>⟨by rw[hob]at hob';cases hob';exact hzz,g,hg,by rw[Nat.add_assoc]⟩⟩
  ·exact h.elim
 ·exact h.elim
theorem b5O (hR:RH M) (he:EnvR M env a) {t:TypeId} {f off n:Nat} {ag:Bool} {x:Operand} (ho:o.op = .field t x f) (hf:a9X P t f=some (off,ag,n))
 (h:(K.fld off ag n x).wp P (evF (get env)) M.H M.nx C):QStep P o a M C:=by
 have hx:=EnvR.ev he x;obtain ⟨fs,fd,hu,hfd,hoff,hl,hn⟩:=b2t hf;obtain ⟨hag,hsz,h1n⟩:=a4c hl M.w;simp only[K.wp]at h;split at h
 ·rename_i cs h1;rw[h1]at hx;rw[RV]at hx;obtain ⟨vs,e1,h2⟩:=hx;obtain ⟨hp,hC⟩:=h;obtain ⟨q1,q2⟩:=b8E h2 hp;cases ag with
  | true =>
   refine QStep.mk hR _ _ ?_ (q1 rfl) hC;simp[execOp,ho,Instr.field,e1,run_underlying hu,hfd,asAgg,part,hag,hsz,hoff]
  | false =>
   obtain ⟨_,v,r1,r2,_⟩:=q2 rfl;refine QStep.mk hR v _ ?_ r2 hC;simp[execOp,ho,Instr.field,e1,run_underlying hu,hfd,asAgg,part,hag,hoff,r1]
 ·exact h.elim
theorem b5P (hR:RH M) (he:EnvR M env a) {t e:TypeId} {x:Operand} {c:Call} (ho:o.op = .call c) (hc:c.callee = .builtin .len) (ha:c.args.toList=[x]) (hat:c.argTypes.toList=[t])
 (hu:P.underlying t=some (.slice e)) (h:(K.len x).wp P (evF (get env)) M.H M.nx C):QStep P o a M C:=by
 have hx:=EnvR.ev he x;have ha':c.args = #[x]:=by rw[← Array.toArray_toList (xs:=c.args),ha]
 have hat':c.argTypes = #[t]:=by rw[← Array.toArray_toList (xs:=c.argTypes),hat]
 have key:∀ {b:Option Addr} {n cap:Nat},a.eval x = .slice b n cap→(execOp a.eval o).run P M.w = .ok (.value (.int .i64 n)) M.w:=fun e1=>by
  simp[execOp,ho,resolve,hc,ha',hat',invoke,builtin,Builtin.len_,run_underlying hu,e1,goInt]
 simp only[K.wp]at h;split at h
 ·rename_i sz xs h1;rw[h1]at hx;simp only[RV,RV0]at hx;obtain ⟨ad,n,c,vs,p1,p2,_⟩:=hx;subst p2;exact QStep.mk hR _ _ (key p1) (by simp only[RV]) h
 ·rename_i id s off len h1;rw[h1]at hx;split at h
  ·rename_i ob hob;simp only[RV]at hx;have hx:=(hx.2.2 ob hob h.1).2;cases hm:M.m.getD id none with
   | none=>rw[hm]at hx;obtain ⟨q1,_,rfl⟩:=hx;exact QStep.mk hR _ _ (key q1) (by simp only[RV]) h.2
   | some g=>rw[hm]at hx;obtain ⟨oo,cap,q1,_⟩:=hx;exact QStep.mk hR _ _ (key q1) (by simp only[RV]) h.2
  ·exact h.elim
 ·rename_i h1;rw[h1]at hx;simp only[RV]at hx;exact QStep.mk hR _ _ (key hx) (by simp only[RV];rfl) h
 ·exact h.elim
theorem b3V (hR:RH M) (he:EnvR M env a) {t:TypeId} {x:Operand} {c:Call} (ho:o.op = .call c) (hc:c.callee = .builtin .len) (ha:c.args.toList=[x]) (hat:c.argTypes.toList=[t])
 (hu:P.underlying t=some .string) (h:(K.lens x).wp P (evF (get env)) M.H M.nx C):QStep P o a M C:=by
 have hx:=EnvR.ev he x;have ha':c.args = #[x]:=by rw[← Array.toArray_toList (xs:=c.args),ha]
 have hat':c.argTypes = #[t]:=by rw[← Array.toArray_toList (xs:=c.argTypes),hat]
 simp only[K.wp]at h;split at h
 ·rename_i s h1;rw[h1]at hx;simp only[RV]at hx;exact QStep.mk hR (.int .i64 s.size) _ (by simp[execOp,ho,resolve,hc,ha',hat',invoke,builtin,Builtin.len_,run_underlying hu,hx,goInt]) (by simp only[RV]) h
 ·exact h.elim
theorem a3O {op:BinOp} {t:TypeId} {x y:Value} {p q:Operand} (w:World) (hx:(∃ k n,x = .int k n)∨(∃ s,x = .string s)∨∃ b,x = .bool b):(eqGuard op t p q x y).run P w = .ok () w:=by
 unfold eqGuard;rcases hx with ⟨k,n,rfl⟩ | ⟨s,rfl⟩ | ⟨b,rfl⟩<;>cases op<;>simp
theorem b9T {op:BinOp} {t:TypeId} {k k':IntKind} {x y:Int} (h:a6d op (.int k x) (.int k' y)) (w:World):(binOp op t (.int k x) (.int k' y)).run P w = .ok (b3R op (.int k x) (.int k' y)) w:=by
 unfold a6d at h;have hne:∀ {A B:Sem Value},y≠0→(if y=0 then A else B)=B:=fun h=>if_neg h;have hge:∀ {A B:Sem Value},0≤y→(if y<0 then A else B)=B:=fun h=>if_neg (by omega);cases op
 case quo=>obtain ⟨rfl,h⟩:=h;simp[binOp,Op.intDiv,hne h,b3R]
 case rem=>obtain ⟨rfl,h⟩:=h;simp[binOp,Op.intDiv,hne h,b3R]
 case shl=>simp[binOp,Op.shift,hge h,b3R]
 case shr=>simp[binOp,Op.shift,hge h,b3R]
 all_goals (have h':k=k':=h;subst h';simp[binOp,Op.intArith,Op.intBits,Op.intCmp,b3R])
theorem b9U {op:BinOp} {t:TypeId} {x y:ByteArray} (h:a6d op (.string x) (.string y)) (w:World):(binOp op t (.string x) (.string y)).run P w = .ok (b3R op (.string x) (.string y)) w:=by
 unfold a6d at h;cases op
 case add =>
  have h':x.size+y.size≤maxLen:=h;have:¬ ((9223372036854775807:Int)<((x.size:Int)+(y.size:Int))):=by simp only[maxLen]at h';omega
  simp[binOp,Op.stringOp,b3R,this]
 case sub=>exact h.elim
 case mul=>exact h.elim
 case quo=>exact h.elim
 case rem=>exact h.elim
 case and=>exact h.elim
 case or=>exact h.elim
 case xor=>exact h.elim
 case andNot=>exact h.elim
 case shl=>exact h.elim
 case shr=>exact h.elim
 all_goals simp[binOp,Op.stringOp,b3R]
theorem a9c (hR:RH M) (he:EnvR M env a) {op:BinOp} {t t':TypeId} {x y:Operand} (ho:o.op = .binOp op t x y t') (h:(K.bin op x y).wp P (evF (get env)) M.H M.nx C):QStep P o a M C:=by
 have hx:=EnvR.ev he x;have hy:=EnvR.ev he y;simp only[K.wp]at h;split at h
 ·rename_i u v h1 h2;rw[h1]at hx;rw[h2]at hy;simp only[RV]at hx hy;obtain ⟨hok,hC⟩:=h;refine QStep.mk hR (b3R op u v) _ ?_ (by simp only[RV]) hC;unfold a6d at hok;split at hok
  ·simp[execOp,ho,hx,hy,a3O M.w (P:=P) (.inl ⟨_,_,rfl⟩),b9T (t:=t) (by unfold a6d;exact hok) M.w]
  ·simp[execOp,ho,hx,hy,a3O M.w (P:=P) (.inr (.inl ⟨_,rfl⟩)),b9U (t:=t) (by unfold a6d;exact hok) M.w]
  ·exact hok.elim
 ·exact h.elim
theorem a9d (hR:RH M) (he:EnvR M env a) {neg:Bool} {t t':TypeId} {x y:Operand} (ho:o.op = .binOp (if neg then .neq else .eql) t x y t') (hu:P.underlying t=some .bool) (h:(K.beq neg x y).wp P (evF (get env)) M.H M.nx C):QStep P o a M C:=by
 have hx:=EnvR.ev he x;have hy:=EnvR.ev he y;simp only[K.wp]at h;split at h
 ·rename_i u v h1 h2;rw[h1]at hx;rw[h2]at hy;simp only[RV]at hx hy;refine QStep.mk hR _ _ ?_ (by simp only[RV];rfl) h;cases neg with
  | true=>simp[execOp,ho,hx,hy,a3O M.w (P:=P) (.inr (.inr ⟨_,rfl⟩)),binOp,run_equal_bool (P:=P) M.w t u v hu]
  | false=>simp[execOp,ho,hx,hy,a3O M.w (P:=P) (.inr (.inr ⟨_,rfl⟩)),binOp,run_equal_bool (P:=P) M.w t u v hu]
 ·exact h.elim
theorem b8G (hR:RH M) (he:EnvR M env a) {op:UnOp} {t:TypeId} {x:Operand} (ho:o.op = .unOp op t x) (h:(K.un op x).wp P (evF (get env)) M.H M.nx C):QStep P o a M C:=by
 have hx:=EnvR.ev he x;simp only[K.wp]at h;split at h
 ·rename_i u h1;rw[h1]at hx;simp only[RV]at hx;obtain ⟨hok,hC⟩:=h;refine QStep.mk hR (unR op u) _ ?_ (by simp only[RV]) hC;unfold c0M at hok;split at hok
  ·subst hok;simp[execOp,ho,hx,Op.unary,unR]
  ·rcases hok with rfl | rfl<;>simp[execOp,ho,hx,Op.unary,unR,Op.intArith,Op.intBits]
  ·exact hok.elim
 ·exact h.elim
theorem b3W (hR:RH M) (he:EnvR M env a) {k:IntKind} {t d:TypeId} {x:Operand} (ho:o.op = .convert t d x) (hu:P.underlying d=some (.int k)) (hs:∃ q,P.underlying t=some q) (h:(K.conv k x).wp P (evF (get env)) M.H M.nx C):QStep P o a M C:=by
 have hx:=EnvR.ev he x;obtain ⟨q,hs⟩:=hs;simp only[K.wp]at h;split at h
 ·rename_i k' n h1;rw[h1]at hx;simp only[RV]at hx;refine QStep.mk hR (.int k (k.wrap n)) _ ?_ (by simp only[RV]) h;simp[execOp,ho,hx,convert,run_underlying hu,run_underlying hs,Conv.intToInt]
 ·exact h.elim
theorem b5Q (hR:RH M) (he:EnvR M env a) {x:Operand} (ho:o.op = .nilCheck x) (h:(K.nck x).wp P (evF (get env)) M.H M.nx C):QStep P o a M C:=by
 have hx:=EnvR.ev he x;simp only[K.wp]at h;split at h
 ·rename_i y h1;rw[h1]at hx;have hx':=hx;rw[RV,RV0]at hx;obtain ⟨b,o0,v,p1,_⟩:=hx;exact QStep.mk hR _ _ (by simp[execOp,ho,p1]) (p1▸hx') h
 ·rename_i id s o0 h1;rw[h1]at hx;split at h
  ·rename_i ob hob;obtain ⟨hs,hC⟩:=h;obtain ⟨g,hg,e1⟩:=a9Y hx hob hs;exact QStep.mk hR _ _ (by simp[execOp,ho,e1]) (e1▸hx) hC
  ·exact h.elim
 ·rename_i f cs h1;rw[h1]at hx;have hx':=hx;rw[RV]at hx;obtain ⟨vs,p1,_⟩:=hx;exact QStep.mk hR _ _ (by simp[execOp,ho,p1]) (p1▸hx') h
 ·rename_i f cs h1;rw[h1]at hx;have hx':=hx;rw[RV]at hx;obtain ⟨vs,p1,_⟩:=hx;exact QStep.mk hR _ _ (by simp[execOp,ho,p1]) (p1▸hx') h
 ·exact h.elim
theorem b5R (hR:RH M) (he:EnvR M env a) {x:Operand} {i:Nat} (ho:o.op = .extract x i) (h:(K.ext x i).wp P (evF (get env)) M.H M.nx C):QStep P o a M C:=by
 have hx:=EnvR.ev he x;simp only[K.wp]at h;split at h
 ·rename_i cs h1;rw[h1]at hx;rw[RV]at hx;obtain ⟨vs,p1,p2⟩:=hx;obtain ⟨hi,hC⟩:=h;have hget:cs[i]? = some cs[i]:=List.getElem?_eq_getElem hi;obtain ⟨v,q1,q2⟩:=p2.get _ _ hget;refine QStep.mk hR v _ (by simp[execOp,ho,p1,Instr.extract,q1]) ?_ hC;simpa [List.getD,hget] using q2
 ·exact h.elim
theorem b5S (hR:RH M) (he:EnvR M env a) {f:Nat} {first captured:Array Operand} (ho:o.op = .makeFunc (.func f) first captured) (hf:first.size=0) (h:(K.mkf f captured.toList).wp P (evF (get env)) M.H M.nx C):QStep P o a M C:=by
 have hc:=EnvR.evs he captured.toList;have hf':first = #[]:=Array.eq_empty_of_size_eq_zero hf
 refine QStep.mk hR (.func (.func f) #[] (captured.map a.eval)) _ (by simp[execOp,ho,Instr.makeFunc,hf']) ?_ h;simp only[RV];exact ⟨_,by simp[← Array.toList_map],hc⟩
theorem b5T (hR:RH M) (he:EnvR M env a) {f:Nat} {first captured:Array Operand} (ho:o.op = .makeFunc (.func f) first captured) (hf:captured.size=0) (h:(K.mkb f first.toList).wp P (evF (get env)) M.H M.nx C):QStep P o a M C:=by
 have hc:=EnvR.evs he first.toList;have hf':captured = #[]:=Array.eq_empty_of_size_eq_zero hf;refine QStep.mk hR (.func (.func f) (first.map a.eval) #[]) _ (by simp[execOp,ho,Instr.makeFunc,hf']) ?_ h;simp only[RV];exact ⟨_,by simp[← Array.toList_map],hc⟩
end
end Go.V
