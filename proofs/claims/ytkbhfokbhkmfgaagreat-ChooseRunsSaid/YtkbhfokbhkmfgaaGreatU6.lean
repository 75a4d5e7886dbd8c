/- The engine, part 6: slices cut, made, appended to; structs and slices built; calls. No condition. -/
import Derived.Test.YtkbhfokbhkmfgaaGreatU5
import Derived.Laws.MakeOwn
set_option linter.unusedVariables false
set_option linter.unusedSimpArgs false
namespace Go.V
open Go.RowKit
section
variable {P:Program} {o:Oper} {a:Act} {M:MM} {env:List (Nat × AV)} {C:AV→List VObj→Nat→Prop}
theorem a5x (he:EnvR M env a) {d:Int}:∀ {x:Option Operand} {k:Int},a0V (evF (get env)) d x=some k→(x=none∧k=d)∨∃ y kk,x=some y∧a.eval y = .int kk k
 | none,k,h=>by simp[a0V]at h;exact .inl ⟨rfl,h.symm⟩
 | some y,k,h=>by
  have hy:=EnvR.ev he y;simp only[a0V]at h;split at h
  ·rename_i kk k' h1;rw[h1]at hy;simp only[RV]at hy;cases h;exact .inr ⟨y,kk,rfl,hy⟩
  ·cases h
theorem b3X (w:World) (isS:Bool) (len cap:Nat) (lo hi:Option Value) (l h:Int)
 (hlo:(lo=none∧l=0)∨∃ kk,lo=some (.int kk l)) (hhi:(hi=none∧h=len)∨∃ kk,hi=some (.int kk h)) (h0:0≤l) (h1:l≤h) (h2:h≤cap) :
 (Instr.sliceBounds isS len cap lo hi none).run P w = .ok (l.toNat,h.toNat,cap) w:=by
 rcases hlo with ⟨rfl,rfl⟩ | ⟨kk,rfl⟩<;>rcases hhi with ⟨rfl,rfl⟩ | ⟨kk',rfl⟩
 ·simp[Instr.sliceBounds]
 ·simp[Instr.sliceBounds,run_sliceBound w kk' h cap _ h1 h2]
 ·simp[Instr.sliceBounds,run_sliceBound w kk l len _ h0 h1]
 ·have e1:=run_sliceBound (P:=P) (w:=w) kk' h cap (if isS then .sliceAcap else .sliceAlen) (by omega) h2;have e2:=run_sliceBound (P:=P) (w:=w) kk l h.toNat .sliceB h0 (by omega);simp[Instr.sliceBounds,e1,e2]
theorem b8H (hR:RH M) (he:EnvR M env a) {t e:TypeId} {inf:TypeInfo} {x:Operand} {lo hi:Option Operand} (ho:o.op = .slice t x lo hi none) (ht:P.underlying t=some (.slice e)) (hi':P.info? e=some inf)
 (h:(K.sl inf.size x lo hi).wp P (evF (get env)) M.H M.nx C):QStep P o a M C:=by
 have hx:=EnvR.ev he x;have key:∀ {b:Option Addr} {len cap:Nat} {l h:Int},a.eval x = .slice b len cap→a0V (evF (get env)) 0 lo=some l→a0V (evF (get env)) len hi=some h→0≤l→l≤h→h≤cap →
  (execOp a.eval o).run P M.w = .ok (.value (.slice (if cap=l.toNat then b else b.map (·.add (l.toNat*inf.size))) (h.toNat-l.toNat) (cap-l.toNat))) M.w:=fun {b len cap l h} e1 e2 e3 e4 e5 e6=>by
  have hb:=b3X (P:=P) M.w true len cap (lo.map a.eval) (hi.map a.eval) l h
   (by rcases a5x he e2 with ⟨rfl,rfl⟩ | ⟨y,kk,rfl,h3⟩
       ·exact .inl ⟨rfl,rfl⟩
       ·exact .inr ⟨kk,by simp[h3]⟩)
   (by rcases a5x he e3 with ⟨rfl,rfl⟩ | ⟨y,kk,rfl,h3⟩
       ·exact .inl ⟨rfl,rfl⟩
       ·exact .inr ⟨kk,by simp[h3]⟩) e4 e5 e6
  simp[execOp,ho,Instr.sliceAt,Instr.slice,run_underlying ht,e1,hb,sizeOf,typeInfo,hi']
 simp only[K.wp]at h;split at h
 ·rename_i sz xs h1;rw[h1]at hx;split at h
  ·rename_i l hh h2 h3;obtain ⟨rfl,b1,b2,b3,hC⟩:=h;simp only[RV,RV0]at hx;obtain ⟨ad,n,c,vs,p1,p2,p3,p4,p5,p6,p7⟩:=hx;refine QStep.mk hR _ _ (key p1 h2 (p2▸h3) b1 b2 (by omega)) ?_ hC;simp only[RV,RV0];refine ⟨_,_,_,(vs.take hh.toNat).drop l.toNat,rfl,?_,by omega,by omega,(p5.take _).drop _,fun v hv=>p6 v (List.mem_of_mem_take (List.mem_of_mem_drop hv)),?_⟩
   ·simp only[List.length_drop,List.length_take];omega
   ·by_cases hz:hh.toNat-l.toNat=0
    ·exact .inl hz
    ·refine .inr ?_;rcases p7 with p7 | ⟨b,off,q1,q2,q3⟩
     ·omega
     ·refine ⟨b,off+l.toNat*inf.size,?_,q2,fun i v hv=>?_⟩
      ·rw[if_neg (by omega),q1,Option.map_some,Addr.add_lit]
      ·rw[List.getElem?_drop,List.getElem?_take]at hv;split at hv
       ·have:=q3 _ v hv;rw[Nat.add_mul,← Nat.add_assoc]at this;exact this
       ·cases hv
  ·exact h.elim
 ·rename_i id s off len h1;rw[h1]at hx;split at h
  ·rename_i ob hob;split at h
   ·rename_i l hh h2 h3;obtain ⟨hs,hz,b1,b2,b3,hC⟩:=h;have hx0:=hx;simp only[RV]at hx;obtain ⟨hlt,hone,hx⟩:=hx;obtain ⟨hzz,hx⟩:=hx ob hob hs;cases hm:M.m.getD id none with
    | none =>
     rw[hm]at hx;obtain ⟨q1,rfl,rfl⟩:=hx;have e1:l=0:=by omega
     have e2:hh=0:=by omega
     subst e1;subst e2;refine QStep.mk hR _ _ (key q1 h2 h3 (by omega) (by omega) (by omega)) ?_ hC;simpa [q1] using hx0
    | some g =>
     rw[hm]at hx;obtain ⟨oo,cap,q1,q2,q3,q4,q5,q6⟩:=hx;refine QStep.mk hR _ _ (key q1 h2 h3 b1 b2 (by omega)) ?_ hC;simp only[RV];refine ⟨hlt,rfl,fun ob' hob' hs'=>?_⟩;have:ob'=ob:=by rw[hob]at hob';exact (Option.some.inj hob').symm
     subst this;refine ⟨hzz,?_⟩;rw[hm];have hle:l.toNat≤len:=by omega
     have hle2:hh.toNat≤len:=by omega
     have hmul:l.toNat*inf.size+(hh.toNat-l.toNat)*inf.size=hh.toNat*inf.size:=by rw[← Nat.add_mul];congr 1;omega
     have hmul2:hh.toNat*inf.size≤len*inf.size:=Nat.mul_le_mul_right _ hle2;have hmul3:l.toNat*inf.size+(cap-l.toNat)*inf.size=cap*inf.size:=by rw[← Nat.add_mul];congr 1;omega
     rw[hz]at q4 q6;by_cases hcl:cap=l.toNat
     ·refine ⟨oo,cap-l.toNat,by rw[if_pos hcl],by omega,by omega,by rw[hz];omega,.inl (by omega),fun cur ty fr hc=>by have:=q6 cur ty fr hc;rw[hz];omega⟩
     ·refine ⟨oo+l.toNat*inf.size,cap-l.toNat,by rw[if_neg hcl,Option.map_some,Addr.add_lit],by omega,by omega,by rw[hz];omega,.inr ?_,fun cur ty fr hc=>by have:=q6 cur ty fr hc;rw[hz];omega⟩;rcases q5 with q5 | q5<;>omega
   ·exact h.elim
  ·exact h.elim
 ·rename_i h1;rw[h1]at hx;split at h
  ·rename_i l hh h2 h3;obtain ⟨rfl,rfl,hC⟩:=h;simp only[RV]at hx;refine QStep.mk hR _ _ (key hx h2 h3 (by omega) (by omega) (by omega)) ?_ hC;simp[RV]
  ·exact h.elim
 ·exact h.elim
theorem b5U (hR:RH M) (he:EnvR M env a) {t:TypeId} {x:Operand} {lo hi:Option Operand} (ho:o.op = .slice t x lo hi none) (ht:P.underlying t=some .string)
 (h:(K.sls x lo hi).wp P (evF (get env)) M.H M.nx C):QStep P o a M C:=by
 have hx:=EnvR.ev he x;simp only[K.wp]at h;split at h
 ·rename_i s h1;rw[h1]at hx;simp only[RV]at hx;split at h
  ·rename_i l hh h2 h3;obtain ⟨b1,b2,b3,hC⟩:=h;have hb:=b3X (P:=P) M.w false s.size s.size (lo.map a.eval) (hi.map a.eval) l hh
    (by rcases a5x he h2 with ⟨rfl,rfl⟩ | ⟨y,kk,rfl,h3⟩
        ·exact .inl ⟨rfl,rfl⟩
        ·exact .inr ⟨kk,by simp[h3]⟩)
    (by rcases a5x he h3 with ⟨rfl,rfl⟩ | ⟨y,kk,rfl,h4⟩
        ·exact .inl ⟨rfl,rfl⟩
        ·exact .inr ⟨kk,by simp[h4]⟩) b1 b2 b3
   exact QStep.mk hR (.string (s.extract l.toNat hh.toNat)) _ (by simp[execOp,ho,Instr.sliceAt,Instr.slice,run_underlying ht,hx,hb]) (by simp only[RV]) hC
  ·exact h.elim
 ·exact h.elim
theorem a5f {t:TypeId} {zs:List Value} (h:a5e P t=some zs):∃ i z,P.info? t=some i∧i.zero=some z∧z.cells.toList=zs∧z.cells.size=i.size∧∀ v ∈ z.cells,v.oneCell'=true:=by
 unfold a5e at h;split at h
 ·rename_i i hi;split at h
  ·rename_i z hz;split at h
   ·rename_i hc;simp only[Option.some.injEq]at h;exact ⟨i,z,hi,hz,h,hc.1,fun v hv=>(Array.all_eq_true'.1 hc.2) v hv⟩
   ·cases h
  ·cases h
 ·cases h
theorem b3Y {α:Type} (zs:List α) (n j:Nat) (hj:j<n*zs.length):((List.replicate n zs).flatten)[j]? = zs[j % zs.length]?:=by
 induction n generalizing j with
 | zero=>simp at hj
 | succ n ih =>
  rw[List.replicate_succ,List.flatten_cons,List.getElem?_append];split
  ·rename_i h;rw[Nat.mod_eq_of_lt h]
  ·rename_i h;have h':zs.length≤j:=by omega
   rw[ih (j-zs.length) (by rw[Nat.succ_mul]at hj;omega),← Nat.mod_eq_sub_mod h']
theorem a9e (z:Array Value) (n j:Nat) (hz:0<z.size) (hj:j<n):(madeCells z n)[j]? = z[j % z.size]?:=by
 have:=Nat.mod_lt j hz;simp[madeCells,hj,this]
theorem RH.fresh (hR:RH M) (ty sz s':Nat) (hz:sz≠0) (xs:List AV) (cur:Array Value) (hle:xs.length≤cur.size) (hc:∀ (j:Nat) (x:AV) (v:Value),xs[j]? = some x→cur[j]? = some v→RV M x v) (hs:s'=M.nx) :
 ∃ M':MM,M'.I0=M.I0∧M'.w0=M.w0∧M'.w=M.w.alloc (.cells cur ty)∧M'.H=M.H++[⟨s',ty,sz,xs⟩]∧M'.nx=M.nx+1∧RH M'∧Keep M M'∧M'.m.getD M.H.length none=some M.w.heap.size∧M'.o M.H.length=0:=by
 obtain ⟨k1,k2⟩:=hR.new (M.w.alloc (.cells cur ty)) ⟨s',ty,sz,xs⟩ (some M.w.heap.size) hs (World.grownBy_alloc M.w _ none) ⟨Nat.le_refl _,cur,Cont.of hz (heap_alloc_new M.w _) (FrOK.none _),hle,hc⟩;exact ⟨⟨M.I0,M.w0,M.w.alloc (.cells cur ty),M.H++[⟨s',ty,sz,xs⟩],M.m++[some M.w.heap.size],M.nx+1,_⟩,rfl,rfl,rfl,rfl,rfl,k1,k2,by show (M.m++[some M.w.heap.size]).getD M.H.length none=_;rw[a0L hR.len,if_pos rfl],if_pos rfl⟩
theorem RV.fresh {M M':MM} {ty sz g b oo:Nat} {xs:List AV} (hz:sz≠0) (hH:M'.H=M.H++[⟨M.nx,ty,sz,xs⟩]) (hnx:M'.nx=M.nx+1) (hm:M'.m.getD M.H.length none=some g) (ho:M'.o M.H.length=b) {n cap:Nat} (h1:n≤cap) (h2:cap≤maxLen) (h3:n*sz≤xs.length) (hoo:cap=0∨oo=b)
 (h4:∀ cur ty fr,M'.w.heap[g]? = some (.cells cur ty fr)→b+cap*sz=cur.size):RV M' (.ref M.H.length M.nx 0 n) (.slice (some ⟨g,oo,none⟩) n cap):=by
 simp only[RV];refine ⟨by omega,rfl,fun ob hob _=>?_⟩;have:ob=⟨M.nx,ty,sz,xs⟩:=by
  rw[hH,List.getElem?_append,if_neg (by omega)]at hob;simp at hob;exact hob.symm
 subst this;refine ⟨hz,?_⟩;rw[hm];exact ⟨oo,cap,rfl,h1,h2,by simpa using h3,by rw[ho];exact hoo,fun cur ty fr hc=>by rw[ho];simpa using h4 cur ty fr hc⟩
theorem c3a (hR:RH M) (he:EnvR M env a) {t e:TypeId} {inf:TypeInfo} {z:List Value} {n c:Operand} (ho:o.op = .makeSlice t n c) (ht:P.underlying t=some (.slice e)) (hi:P.info? e=some inf) (hz:a5e P e=some z) (hn0:inf.size≠0)
 (h:(K.mk e inf.size inf.bytes z n c).wp P (evF (get env)) M.H M.nx C):Step P o a M C:=by
 have hn:=EnvR.ev he n;have hc:=EnvR.ev he c;obtain ⟨i',zv,z1,z2,z3,z4,z5⟩:=a5f hz;have:i'=inf:=by rw[hi]at z1;exact (Option.some.inj z1).symm
 subst this;simp only[K.wp]at h;split at h
 ·rename_i kl l kc k h1 h2;rw[h1]at hn;rw[h2]at hc;simp only[RV]at hn hc;obtain ⟨b1,b2,b3,b4,hC⟩:=h;have hrun:=run_make (P:=P) M.w t e i' zv ht hi z2 kl kc l k b1 b2 (by rw[Int.mul_comm];omega) (by omega);have hlen:((List.replicate l.toNat (z.map AV.val)).flatten).length=l.toNat*i'.size:=by simp[← z3,z4]
  have hmul:l.toNat*i'.size≤k.toNat*i'.size:=Nat.mul_le_mul_right _ (by omega);obtain ⟨M',m1,m2,m3,m4,m5,m6,m7,m8,m9⟩:=hR.fresh e i'.size M.nx hn0 ((List.replicate l.toNat (z.map AV.val)).flatten) (madeCells zv.cells (k.toNat*i'.size)) (by rw[hlen,size_madeCells];omega)
   (fun j x v hx hv=>by
     have hj:j<l.toNat*i'.size:=by have:=(List.getElem?_eq_some_iff.1 hx).1;omega
     have hzl:(z.map AV.val).length=i'.size:=by simp[← z3,z4]
     rw[b3Y (z.map AV.val) l.toNat j (by rw[hzl];exact hj),hzl]at hx;rw[a9e _ _ _ (by omega) (by omega),z4]at hv;rw[List.getElem?_map,← z3]at hx;simp[hv]at hx;subst hx;simp only[RV]) rfl
  refine Step.value m1 m2 m6 m7.rv (.slice (some ⟨M.w.heap.size,0,none⟩) l.toNat k.toNat) (.ref M.H.length M.nx 0 l.toNat) ?_ ?_ ?_
  ·simp[execOp,ho,hn,hc,hrun,m3]
  ·refine RV.fresh hn0 m4 m5 m8 m9 (by omega) (by simp only[maxLen];omega) (by rw[hlen];exact Nat.le_refl _) (.inr rfl) fun cur ty fr hcur=>?_;rw[Nat.zero_add];rw[m3,heap_alloc_new]at hcur;injection hcur with hcur;injection hcur with hcur;rw[← hcur,size_madeCells]
  ·rw[m4,m5];exact hC
 ·exact h.elim
theorem a6e {w:World} {t ty e:TypeId} {i:TypeInfo} (ht:P.underlying t=some (.slice e)) (hi:P.info? e=some i) (base:Option Addr) (n cap c:Nat) (hn:n≤cap) (ad:Option Addr) :
 (Builtin.append_ #[t,t] ty #[.slice base n cap,.slice ad 0 c]).run P w = .ok (.slice base n cap) w:=by
 cases ad<;>cases base<;>simp[Builtin.append_,run_underlying ht,sizeOf,typeInfo,hi,Builtin.lenOf,Builtin.firstCells,loadCells,loadCellsFrom,storeCells,hn]
theorem b1S {w:World} {t ty e:TypeId} {i:TypeInfo} (ht:P.underlying t=some (.slice e)) (hi:P.info? e=some i) (g oo n cap:Nat) (cur:Array Value) (fr:Nat × Nat) (hg:w.heap[g]? = some (.cells cur e fr)) (hfr:FrOK fr cur.size)
 (b:Addr) (m c:Nat) (news:List Value) (hl:news.length=m*i.size) (hnews:∀ j u,news[j]? = some u→w.cell? (b.add j)=some u) (h1:∀ u ∈ news,u.oneCell'=true) (hroom:n+m≤cap) (hfit:oo+n*i.size+news.length≤cur.size) :
 (Builtin.append_ #[t,t] ty #[.slice (some ⟨g,oo,none⟩) n cap,.slice (some b) m c]).run P w =
  .ok (.slice (some ⟨g,oo,none⟩) (n+m) cap) (w.setRow g (cur.toList.take (oo+n*i.size)++news++cur.toList.drop (oo+n*i.size+news.length)).toArray):=by
 have hf:=run_firstCells_some (P:=P) w i.size m b m c news hl hnews;have hst:=a3a P g (oo+n*i.size) e fr news 0 cur w hg hfr (by simpa using hfit) h1;simp only[Nat.add_zero]at hst;simp[Builtin.append_,run_underlying ht,sizeOf,typeInfo,hi,Builtin.lenOf,hroom,hf,Addr.add_lit,hst]
theorem b7J {w:World} {t ty e:TypeId} {i:TypeInfo} {z:Value} (ht:P.underlying t=some (.slice e)) (hi:P.info? e=some i) (hz:i.zero=some z) (hzs:z.cells.size=i.size) (v:Value) (n m:Nat) (xs news:List Value) (ad:Option Addr) (c:Nat)
 (hv:(v = .slice none 0 0∧n=0∧xs=[])∨∃ g oo B cap cur fr,v = .slice (some ⟨g,oo,none⟩) n cap∧w.heap[g]? = some (.cells cur e fr)∧FrOK fr cur.size∧n≤cap∧cap≤maxLen∧B+cap*i.size=cur.size∧(cap=0∨oo=B)∧(cur.toList.drop B).take (n*i.size)=xs)
 (hl:news.length=m*i.size) (hnews:∀ b,ad=some b→∀ j u,news[j]? = some u→w.cell? (b.add j)=some u) (hnone:ad=none→m=0) (h1:∀ u ∈ news,u.oneCell'=true)
 (h63:n+m≤maxLen) (hbytes:(n+m)*i.bytes≤140737488355328) :
 ∃ v' w',(Builtin.append_ #[t,t] ty #[v,.slice ad m c]).run P w = .ok v' w'∧w.grownBy w' v.ownBlock ∧
  ((v' = .slice none 0 0∧v = .slice none 0 0∧m=0)∨∃ g' oo' B' cap' cur' fr',v' = .slice (some ⟨g',oo',none⟩) (n+m) cap'∧(v.ownBlock=some g'∨w.heap.size≤g')∧w'.heap[g']? = some (.cells cur' e fr')∧FrOK fr' cur'.size ∧
    n+m≤cap'∧cap'≤maxLen∧B'+cap'*i.size=cur'.size∧(cap'=0∨oo'=B')∧(cur'.toList.drop B').take ((n+m)*i.size)=xs++news):=by
 have hsmall:n+m≤9223372036854775807:=by simp only[maxLen]at h63;omega
 by_cases hm:m=0
 ·subst hm;have hn:news=[]:=List.eq_nil_of_length_eq_zero (by simpa using hl);subst hn;rcases hv with ⟨rfl,rfl,rfl⟩ | ⟨g,oo,B,cap,cur,fr,rfl,h2,hfr,h3,h4,h5,h6,h7⟩
  ·exact ⟨_,_,a6e ht hi none 0 0 c (Nat.le_refl _) ad,⟨rfl,rfl,rfl,Nat.le_refl _,fun _ _ _=>rfl⟩,.inl ⟨rfl,rfl,rfl⟩⟩
  ·exact ⟨_,_,a6e ht hi _ n cap c h3 ad,⟨rfl,rfl,rfl,Nat.le_refl _,fun _ _ _=>rfl⟩,.inr ⟨g,oo,B,cap,cur,fr,rfl,.inl rfl,h2,hfr,h3,h4,h5,h6,by simpa using h7⟩⟩
 ·cases ad with
  | none=>exact absurd (hnone rfl) hm
  | some b =>
   have hnews:=hnews b rfl;rcases hv with ⟨rfl,rfl,rfl⟩ | ⟨g,oo,B,cap,cur,fr,rfl,h2,hfr,h3,h4,h5,h6,h7⟩
   ·have hr:=run_append_nil (P:=P) w t ty e i z ht hi hz b m c news hl hnews (by omega) (by omega) (by simp only[Nat.zero_add]at hbytes;omega);refine ⟨_,_,hr,⟨rfl,rfl,rfl,by simp,fun k hk _=>heap_alloc_old w.drew _ hk⟩,.inr ⟨w.heap.size,0,0,_,_,(0,0),by simp,.inr (Nat.le_refl _),heap_alloc_new w.drew _,FrOK.none _,?_,grownCap_le_maxLen w m 0 e (by omega),?_,.inr rfl,?_⟩⟩
    ·have:=grownCap_ge w m 0 e;omega
    ·have:=grownCap_ge w m 0 e;simp only[Array.size_append,List.size_toArray,size_zeroCells,hzs,hl,← Nat.add_mul,Nat.zero_add];congr 1;omega
    ·simp only[Array.toList_append,List.nil_append,Nat.zero_add,← hl,List.drop_zero];exact List.take_left
   ·have hxl:xs.length=n*i.size:=by
     have:n*i.size≤cap*i.size:=Nat.mul_le_mul_right _ h3;rw[← h7,List.length_take,List.length_drop,Array.length_toList];omega
    by_cases hroom:n+m≤cap
    ·have hoo:oo=B:=by rcases h6 with h6 | h6;(· omega);(· exact h6)
     subst hoo;have hmul:(n+m)*i.size≤cap*i.size:=Nat.mul_le_mul_right _ hroom;rw[Nat.add_mul]at hmul;have hfit:oo+n*i.size+news.length≤cur.size:=by rw[hl];omega
     have hr:=b1S (P:=P) (ty:=ty) ht hi g oo n cap cur fr h2 hfr b m c news hl hnews h1 hroom hfit;refine ⟨_,_,hr,⟨rfl,rfl,rfl,by simp,fun k _ hk=>setRow_other w g k _ (fun e=>hk (by simp[Value.ownBlock,e]))⟩,.inr ⟨g,oo,oo,cap,_,fr,rfl,.inl rfl,setRow_heap w g cur _ e _ h2,?_,hroom,h4,?_,.inr rfl,?_⟩⟩
     ·have:(cur.toList.take (oo+n*i.size)++news++cur.toList.drop (oo+n*i.size+news.length)).toArray.size=cur.size:=by
       simp only[List.size_toArray,List.length_append,List.length_take,List.length_drop,Array.length_toList];omega
      rw[this];exact hfr
     ·simp only[List.size_toArray,List.length_append,List.length_take,List.length_drop,Array.length_toList];omega
     ·have e1:(cur.toList.take (oo+n*i.size)).drop oo=xs:=by rw[List.drop_take,Nat.add_sub_cancel_left];exact h7
      have hlen:(cur.toList.take (oo+n*i.size)).length=oo+n*i.size:=by rw[List.length_take,Array.length_toList];omega
      simp only[];rw[List.append_assoc,List.drop_append_of_le_length (by omega),e1,Nat.add_mul,← hl,← hxl,← List.append_assoc,← List.length_append];exact List.take_left
    ·have holds:∀ j u,xs[j]? = some u→w.cell? ((⟨g,oo,none⟩:Addr).add j)=some u:=fun j u hj=>by
      have hjl:j<n*i.size:=by have:=(List.getElem?_eq_some_iff.1 hj).1;omega
      have hoo:oo=B:=by
       rcases h6 with h6 | h6
       ·have:n=0:=by omega
        subst this;simp at hjl
       ·exact h6
      subst hoo;rw[Addr.add_lit,cell_of_row w g _ cur e fr h2];rw[← h7,List.getElem?_take,if_pos hjl,List.getElem?_drop]at hj;simpa using hj
     have hr:=run_append_grow (P:=P) w t ty e i z ht hi hz ⟨g,oo,none⟩ n cap xs hxl holds b m c news hl hnews (by omega) (by omega) (growslice_fits (by omega) hbytes);refine ⟨_,_,hr,⟨rfl,rfl,rfl,by simp,fun k hk _=>heap_alloc_old w.drew _ hk⟩,.inr ⟨w.heap.size,0,0,_,_,(0,0),rfl,.inr (Nat.le_refl _),heap_alloc_new w.drew _,FrOK.none _,?_,grownCap_le_maxLen w (n+m) cap e h63,?_,.inr rfl,?_⟩⟩
     ·exact grownCap_ge w (n+m) cap e
     ·have:=grownCap_ge w (n+m) cap e;simp only[Array.size_append,List.size_toArray,size_zeroCells,hzs,hl,hxl,← Nat.add_mul,Nat.zero_add];congr 1;omega
     ·simp only[Array.toList_append,List.append_assoc,List.drop_zero];rw[← List.append_assoc,Nat.add_mul,← hl,← hxl,← List.length_append];exact List.take_left
theorem b8I {w:World} {b sz:Nat}:∀ (vs:List Value) (off:Nat),(∀ v ∈ vs,v.cells.size=sz)→(∀ i v,vs[i]? = some v→InMem w b (off+i*sz) v) →
 (vs.flatMap fun v=>v.cells.toList).length=vs.length*sz∧∀ j u,(vs.flatMap fun v=>v.cells.toList)[j]? = some u→w.cell? ⟨b,off+j,none⟩=some u
 | [],off,_,_=>⟨by simp,fun j u h=>by simp at h⟩
 | v::vs,off,hs,hm=>by
  have ih:=b8I vs (off+sz) (fun u hu=>hs u (by simp[hu])) (fun i u hu=>by
   have:=hm (i+1) u (by simpa using hu);rw[Nat.succ_mul]at this;rwa [show off+(i*sz+sz)=off+sz+i*sz by omega]at this)
  have hv:=hs v (by simp);refine ⟨?_,fun j u hu=>?_⟩
  ·simp only[List.flatMap_cons,List.length_append,ih.1,Array.length_toList,hv,List.length_cons,Nat.succ_mul];omega
  ·simp only[List.flatMap_cons]at hu;rw[List.getElem?_append]at hu;split at hu
   ·have:=hm 0 v (by simp) j u (by simpa using hu);simpa using this
   ·rename_i hj;simp only[Array.length_toList,hv]at hj hu;have:=ih.2 (j-sz) u hu;rwa [show off+sz+(j-sz)=off+j by omega]at this
theorem c0R:∀ {ys:List AV} {vs:List Value},(∀ y ∈ ys,y.laid=true)→RL M ys vs→RL M (a2N ys) (vs.flatMap fun v=>v.cells.toList)∧∀ u ∈ (vs.flatMap fun v=>v.cells.toList),u.oneCell'=true
 | [],vs,_,h=>by simp only[RL]at h;subst h;simp[a2N,RL]
 | y::ys,vs,hl,h=>by
  simp only[RL]at h;obtain ⟨v,vs',rfl,h2,h3⟩:=h;obtain ⟨c1,c2⟩:=RV.cells (hl y (by simp)) h2;obtain ⟨d1,d2⟩:=c0R (fun q hq=>hl q (by simp[hq])) h3;simp only[a2N,List.flatMap_cons];refine ⟨c1.append d1,fun u hu=>?_⟩;rcases List.mem_append.1 hu with hu | hu
  ·exact c2 u hu
  ·exact d2 u hu
theorem b5V (hR:RH M) {sz:Nat} {y:AV} {v:Value} (hok:a2O M.H sz y) (hy:RV M y v) :
 ∃ ad c news,v = .slice ad (a0E y) c∧news.length=a0E y*sz∧(∀ b,ad=some b→∀ j u,news[j]? = some u→M.w.cell? (b.add j)=some u)∧(ad=none→a0E y=0) ∧
  (∀ u ∈ news,u.oneCell'=true)∧RL M (a0x M.H sz y) news:=by
 unfold a2O at hok;split at hok
 ·rename_i sz' ys;obtain ⟨rfl,hla⟩:=hok;simp only[RV,RV0]at hy;obtain ⟨ad,n,c,vs,rfl,rfl,p3,p4,p5,p6,p7⟩:=hy;have hrl:=c0R hla p5.toRL;have hlen:=p5.length;rcases p7 with p7 | ⟨b,off,q1,q2,q3⟩
  ·have hnil:ys=[]:=List.eq_nil_of_length_eq_zero p7;subst hnil;refine ⟨ad,c,[],rfl,by simp[a0E],fun b hb j u hu=>by simp at hu,fun _=>rfl,by simp,?_⟩;simp[a0x,a2N,RL]
  ·subst q1;obtain ⟨f1,f2⟩:=b8I (w:=M.w) (b:=b) vs off p6 q3;exact ⟨_,c,_,rfl,by simp only[a0E,f1,hlen],fun b' hb' j u hu=>by cases hb';rw[Addr.add_lit];exact f2 j u hu,fun h=>(by cases h),hrl.2,hrl.1⟩
 ·rename_i id s off len;split at hok
  ·rename_i ob hob;obtain ⟨hs,hz,hall⟩:=hok;simp only[RV]at hy;obtain ⟨hzz,hy⟩:=hy.2.2 ob hob hs;cases hm:M.m.getD id none with
   | none =>
    rw[hm]at hy;obtain ⟨rfl,rfl,rfl⟩:=hy;refine ⟨none,0,[],rfl,by simp[a0E],fun b hb=>(by cases hb),fun _=>rfl,by simp,?_⟩;simp[a0x,hob,RL]
   | some g =>
    rw[hm]at hy;obtain ⟨oo,cap,rfl,q2,q3,q4,q5,q6⟩:=hy;rw[hz]at q4;obtain ⟨vs,g1,g2,g3⟩:=hR.cells hob hzz hm off (len*sz) q4;refine ⟨_,cap,vs,rfl,by simp only[a0E,g1],fun b hb j u hu=>?_,fun h=>(by cases h),?_,by simpa only [a0x,hob] using g2⟩
    ·cases hb;have hj:j<len*sz:=by have:=(List.getElem?_eq_some_iff.1 hu).1;omega
     have hoo:oo=M.o id+off:=by
      rcases q5 with q5 | q5
      ·have:len=0:=by omega
       subst this;simp at hj
      ·exact q5
     subst hoo;rw[Addr.add_lit];exact g3 j u hu
    ·refine RL.all1 ?_ g2;rw[List.all_eq_true]at hall ⊢;exact fun q hq=>hall q (List.mem_of_mem_drop (List.mem_of_mem_take hq))
  ·exact hok.elim
 ·simp only[RV]at hy;subst hy;refine ⟨none,0,[],rfl,by simp[a0E],fun b hb=>(by cases hb),fun _=>rfl,by simp,?_⟩;simp[a0x,RL]
 ·exact hok.elim
theorem c0S (hR:RH M) (he:EnvR M env a) {t e:TypeId} {inf:TypeInfo} {z:List Value} {x y:Operand} {c:Call} (ho:o.op = .call c) (hc:c.callee = .builtin .append) (ha:c.args.toList=[x,y]) (hat:c.argTypes.toList=[t,t])
 (ht:P.underlying t=some (.slice e)) (hi:P.info? e=some inf) (hz:a5e P e=some z) (hn0:inf.size≠0) (h:(K.app e inf.size inf.bytes x y).wp P (evF (get env)) M.H M.nx C):Step P o a M C:=by
 have hx:=EnvR.ev he x;have hy:=EnvR.ev he y;have ha':c.args = #[x,y]:=by rw[← Array.toArray_toList (xs:=c.args),ha]
 have hat':c.argTypes = #[t,t]:=by rw[← Array.toArray_toList (xs:=c.argTypes),hat]
 obtain ⟨i',zv,z1,z2,z3,z4,z5⟩:=a5f hz;have:i'=inf:=by rw[hi]at z1;exact (Option.some.inj z1).symm
 subst this;simp only[K.wp]at h;obtain ⟨hok,h⟩:=h;obtain ⟨ad,cy,news,y1,y2,y3,y4,y5,y6⟩:=b5V hR hok hy;generalize evF (get env) y=Y at *
 have exec:∀ {v':Value} {w':World},(Builtin.append_ #[t,t] o.type #[a.eval x,.slice ad (a0E Y) cy]).run P M.w = .ok v' w'→(execOp a.eval o).run P M.w = .ok (.value v') w':=fun e1=>by
  simp[execOp,ho,resolve,hc,ha',hat',invoke,builtin,y1,e1]
 split at h
 ·rename_i h1;rw[h1]at hx;simp only[RV]at hx;obtain ⟨b1,b2,hC⟩:=h;obtain ⟨v',w',r1,r2,r3⟩:=b7J (P:=P) (ty:=o.type) ht hi z2 z4 (.slice none 0 0) 0 (a0E Y) [] news ad cy (.inl ⟨rfl,rfl,rfl⟩) y2 y3 y4 y5 (by simpa using b1) (by simpa using b2);rw[← hx]at r1;simp only[Nat.zero_add,List.nil_append]at r3;rcases r3 with ⟨rfl,_,hm0⟩ | ⟨g',oo',B',cap',cur',fr',rfl,s2,s3,s3f,s4,s5,s6,s7,s8⟩
  ·have hn:news=[]:=List.eq_nil_of_length_eq_zero (by rw[y2,hm0];simp);have hcs:a0x M.H i'.size Y=[]:=List.eq_nil_of_length_eq_zero (by rw[← y6.length,hn];rfl);obtain ⟨k1,k2⟩:=hR.new w' ⟨M.nx,e,i'.size,a0x M.H i'.size Y⟩ none rfl r2 hcs;refine Step.value (M':=⟨M.I0,M.w0,w',_,_,_,_⟩) rfl rfl k1 k2.rv _ _ (exec r1) ?_ hC;simp only[RV];exact ⟨Nat.lt_succ_self _,rfl,fun ob hob _=>⟨by rcases a2l hob with ⟨_,rfl⟩ | hob;(· exact hn0);(· have:=(List.getElem?_eq_some_iff.1 hob).1;omega),by rw[a0L hR.len,if_pos rfl];simp[hm0]⟩⟩
  ·have hs2:M.w.heap.size≤g':=by rcases s2 with s2 | s2;(· simp[Value.ownBlock]at s2);(· exact s2)
   obtain ⟨k1,k2⟩:=hR.put1 w' ⟨M.nx,e,i'.size,a0x M.H i'.size Y⟩ g' B' rfl r2 ⟨hs2,cur',Cont.of hn0 s3 s3f,by
    rw[← y6.length,y2,← s6];have:=Nat.mul_le_mul_right i'.size s4;omega,fun j q u hq hu=>by
    obtain ⟨u',p1,p2⟩:=y6.get _ _ hq;rw[← s8,List.getElem?_take]at p1;split at p1
    ·rw[List.getElem?_drop,Array.getElem?_toList,hu]at p1;cases p1;exact p2
    ·cases p1⟩
   refine Step.value (M':=⟨M.I0,M.w0,w',_,_,_,_⟩) rfl rfl k1 k2.rv _ _ (exec r1) ?_ hC;refine RV.fresh (M:=M) (M':=⟨M.I0,M.w0,w',_,_,_,_⟩) hn0 rfl rfl (g:=g') (by show (M.m++[some g']).getD M.H.length none=_;rw[a0L hR.len,if_pos rfl]) (if_pos rfl) s4 s5 (by rw[← y6.length,y2];exact Nat.le_refl _) s7 fun cur ty fr hcur=>?_;have hcur':w'.heap[g']? = some (.cells cur ty fr):=hcur;rw[s3]at hcur';injection hcur' with hcur';injection hcur' with hcur';rw[← hcur',s6]
 ·rename_i id s off len h1;rw[h1]at hx;split at h
  ·rename_i ob hob;obtain ⟨hs,hty,hsz,b1,b2,hC⟩:=h;simp only[RV]at hx;obtain ⟨hzz,hx⟩:=hx.2.2 ob hob hs;have hown:=(hR.own id ob hob).2;have hidm:id<M.m.length:=by rw[hR.len];exact (List.getElem?_eq_some_iff.1 hob).1
   have hvv:(a.eval x = .slice none 0 0∧len=0∧((ob.cs.drop off).take (len*i'.size))=[]∧M.m.getD id none=none) ∨
    ∃ g oo cap cur fr,a.eval x = .slice (some ⟨g,oo,none⟩) len cap∧M.w.heap[g]? = some (.cells cur e fr)∧FrOK fr cur.size∧len≤cap∧cap≤maxLen∧M.o id+off+cap*i'.size=cur.size∧(cap=0∨oo=M.o id+off)∧M.m.getD id none=some g ∧
     RL M ((ob.cs.drop off).take (len*i'.size)) ((cur.toList.drop (M.o id+off)).take (len*i'.size)):=by
    cases hm:M.m.getD id none with
    | none=>rw[hm]at hx;exact .inl ⟨hx.1,hx.2.2,by rw[hx.2.2];simp,rfl⟩
    | some g =>
     rw[hm]at hx hown;obtain ⟨oo,cap,q1,q2,q3,q4,q5,q6⟩:=hx;obtain ⟨_,cur,w1,w2,w3⟩:=hown;obtain ⟨fr,w1,w1f⟩:=w1.cells hzz;rw[hsz]at q4 q6;have hcur:=q6 cur ob.ty fr w1;refine .inr ⟨g,oo,cap,cur,fr,q1,by rw[← hty];exact w1,w1f,q2,q3,by omega,q5,rfl,RL.of_get ?_ fun j q u hq hu=>?_⟩
     ·simp only[List.length_take,List.length_drop,Array.length_toList];omega
     ·rw[List.getElem?_take]at hq hu;split at hq
      ·rename_i hj;rw[if_pos hj]at hu;rw[List.getElem?_drop]at hq hu;exact w3 _ q u hq (by rw[← Nat.add_assoc];simpa using hu)
      ·cases hq
   rcases hvv with ⟨v1,rfl,v3,v4⟩ | ⟨g,oo,cap,cur,fr,v1,v2,v2f,v3,v4,v5,v5b,v6,v7⟩
   ·obtain ⟨v',w',r1,r2,r3⟩:=b7J (P:=P) (ty:=o.type) ht hi z2 z4 (.slice none 0 0) 0 (a0E Y) [] news ad cy (.inl ⟨rfl,rfl,rfl⟩) y2 y3 y4 y5 b1 b2;rw[← v1]at r1;simp only[Nat.zero_add,List.nil_append]at r3;have hcs0:(ob.cs.drop off).take (0*i'.size)++a0x M.H i'.size Y=a0x M.H i'.size Y:=by rw[v3];rfl
    rcases r3 with ⟨rfl,_,hm0⟩ | ⟨g',oo',B',cap',cur',fr',rfl,s2,s3,s3f,s4,s5,s6,s7,s8⟩
    ·have hn:news=[]:=List.eq_nil_of_length_eq_zero (by rw[y2,hm0];simp);have hcs:a0x M.H i'.size Y=[]:=List.eq_nil_of_length_eq_zero (by rw[← y6.length,hn];rfl);obtain ⟨k1,k2⟩:=hR.put w' id ob ⟨M.nx,e,i'.size,(ob.cs.drop off).take (0*i'.size)++a0x M.H i'.size Y⟩ none (M.nx+1) 0 hob (by rw[v4];exact r2) (by rw[hcs0];exact hcs) (.inl ⟨rfl,rfl⟩);refine Step.value (M':=⟨M.I0,M.w0,w',_,_,_,_⟩) rfl rfl k1 k2.rv _ _ (exec r1) ?_ hC;simp only[RV];exact ⟨Nat.lt_succ_self _,rfl,fun ob' hob' _=>⟨by rw[List.getElem?_set_self (by rw[← hR.len];exact hidm)]at hob';cases hob';exact hn0,by rw[getD_set hidm,if_pos rfl];simp[hm0]⟩⟩
    ·have hs2:M.w.heap.size≤g':=by rcases s2 with s2 | s2;(· simp[Value.ownBlock]at s2);(· exact s2)
     obtain ⟨k1,k2⟩:=hR.put w' id ob ⟨M.nx,e,i'.size,(ob.cs.drop off).take (0*i'.size)++a0x M.H i'.size Y⟩ (some g') (M.nx+1) B' hob (by rw[v4];exact r2) ⟨.inr hs2,cur',Cont.of hn0 s3 s3f,by
      rw[hcs0,← y6.length,y2,← s6];have:=Nat.mul_le_mul_right i'.size s4;omega,fun j q u hq hu=>by
      rw[hcs0]at hq;obtain ⟨u',p1,p2⟩:=y6.get _ _ hq;rw[← s8,List.getElem?_take]at p1;split at p1
      ·rw[List.getElem?_drop,Array.getElem?_toList,hu]at p1;cases p1;exact p2
      ·cases p1⟩ (.inl ⟨rfl,rfl⟩)
     refine Step.value (M':=⟨M.I0,M.w0,w',_,_,_,_⟩) rfl rfl k1 k2.rv _ _ (exec r1) ?_ hC;simp only[RV];refine ⟨Nat.lt_succ_self _,rfl,fun ob' hob' _=>?_⟩;rw[getD_set hidm,if_pos rfl];rw[List.getElem?_set_self (by rw[← hR.len];exact hidm)]at hob';cases hob';refine ⟨hn0,oo',cap',by simp,by omega,s5,?_,by simpa using s7,fun cur ty fr hcur=>?_⟩
     ·rw[hcs0,← y6.length,y2];simp
     ·rw[s3]at hcur;injection hcur with hcur;injection hcur with hcur;rw[← hcur,← s6];simp
   ·obtain ⟨v',w',r1,r2,r3⟩:=b7J (P:=P) (ty:=o.type) ht hi z2 z4 (.slice (some ⟨g,oo,none⟩) len cap) len (a0E Y) ((cur.toList.drop (M.o id+off)).take (len*i'.size)) news ad cy (.inr ⟨g,oo,M.o id+off,cap,cur,fr,rfl,v2,v2f,v3,v4,v5,v5b,rfl⟩) y2 y3 y4 y5 b1 b2;rw[← v1]at r1;rcases r3 with ⟨_,hbad,_⟩ | ⟨g',oo',B',cap',cur',fr',rfl,s2,s3,s3f,s4,s5,s6,s7,s8⟩
    ·cases hbad
    ·have hall:=v7.append y6;have hmul:(len+a0E Y)*i'.size≤cap'*i'.size:=Nat.mul_le_mul_right _ s4;have hlen:=hall.length;have hlen2:((ob.cs.drop off).take (len*i'.size)++a0x M.H i'.size Y).length=(len+a0E Y)*i'.size:=by
      rw[← hlen,← s8,List.length_take,List.length_drop,Array.length_toList];omega
     obtain ⟨k1,k2⟩:=hR.put w' id ob ⟨M.nx,e,i'.size,(ob.cs.drop off).take (len*i'.size)++a0x M.H i'.size Y⟩ (some g') (M.nx+1) B' hob (by rw[v6];exact r2) ⟨by rw[v6];exact s2,cur',Cont.of hn0 s3 s3f,by
      rw[hlen2];omega,fun j q u hq hu=>by
      obtain ⟨u',p1,p2⟩:=hall.get _ _ hq;rw[← s8,List.getElem?_take]at p1;split at p1
      ·rw[List.getElem?_drop,Array.getElem?_toList,hu]at p1;cases p1;exact p2
      ·cases p1⟩ (.inl ⟨rfl,rfl⟩)
     refine Step.value (M':=⟨M.I0,M.w0,w',_,_,_,_⟩) rfl rfl k1 k2.rv _ _ (exec r1) ?_ hC;simp only[RV];refine ⟨Nat.lt_succ_self _,rfl,fun ob' hob' _=>?_⟩;rw[getD_set hidm,if_pos rfl];rw[List.getElem?_set_self (by rw[← hR.len];exact hidm)]at hob';cases hob';refine ⟨hn0,oo',cap',rfl,s4,s5,?_,by simpa using s7,fun cur ty fr hcur=>?_⟩
     ·rw[hlen2,Nat.zero_add];exact Nat.le_refl _
     ·rw[s3]at hcur;injection hcur with hcur;injection hcur with hcur;rw[← hcur,← s6];simp
  ·exact h.elim
 ·exact h.elim
end
end Go.V
