/- The engine, part 12: arguments, of any types that hold numbers, truths, strings, structs, arrays and slices, opened into data; and a law's row out of its function's contract. No condition. -/
import Derived.Test.YtkbhfokbhkmfgaaGreatUE
import Derived.ProofKit
import Derived.OpenShut
import Derived.Carry
set_option linter.unusedVariables false
set_option linter.unusedSimpArgs false
namespace Go.V
set_option linter.unusedSimpArgs false
set_option linter.unusedVariables false
open Go.RowKit Go.ChangeShapes Go.WideShapes Go.ChangeAt
inductive Sh where
 | bool
 | int (k:IntKind)
 | str
 | sl (sz bts:Nat) (e:Sh)
 | agg (cs:List Sh)
mutual
def Sh.fit:Sh→AV→Prop
 | .bool,x=>∃ b,x = .val (.bool b)
 | .int k,x=>∃ n,x = .val (.int k n)∧(Lit.int k n).wf=true
 | .str,x=>∃ s,x = .val (.string s)∧s.size≤reachBytes
 | .sl sz bts e,x=>∃ xs,x = .imm sz xs∧xs.length≤maxLen∧xs.length*bts≤reachBytes∧∀ y ∈ xs,e.fit y
 | .agg cs,x=>∃ ys,x = .agg ys∧Sh.fitL cs ys
def Sh.fitL:List Sh→List AV→Prop
 | [],ys=>ys=[]
 | s::ss,ys=>∃ y ys',ys=y::ys'∧s.fit y∧Sh.fitL ss ys'
end
def Sh.cells:Sh→List Sh
 | .agg cs=>cs
 | s=>[s]
def b2D (P:Program) (g:TypeId→Option Sh):Nat→List Field→Option (List Sh × Nat)
 | off,[]=>some ([],off)
 | off,f::fs=>match g f.type,b2D P g (off+P.cellsOf f.type) fs with
  | some s,some (r,n)=>if f.offset=off∧s.cells.length=P.cellsOf f.type then some (s.cells++r,n) else none
  | _,_=>none
def c1m (P:Program):Nat→TypeId→Option Sh
 | 0,_=>none
 | n+1,t=>match P.underlying t with
  | some .bool=>some .bool
  | some (.int k)=>some (.int k)
  | some .string=>some .str
  | some (.slice e)=>match c1m P n e with
   | some s=>if 0<P.cellsOf e then some (.sl (P.cellsOf e) (P.bytesOf e) s) else none
   | none=>none
  | some (.struct fs)=>match b2D P (c1m P n) 0 fs.toList with
   | some (r,m)=>if m=P.cellsOf t then some (.agg r) else none
   | none=>none
  | some (.array m e)=>match c1m P n e with
   | some s=>if m*P.cellsOf e=P.cellsOf t∧s.cells.length=P.cellsOf e then some (.agg (List.replicate m s.cells).flatten) else none
   | none=>none
  | _=>none
section
variable {H:Type} {enc:TypeId × Value→H} {P:Program} {w:World} {base:Nat} {spare:Nat→Bool} {held:Bool}
theorem a8F:∀ {ss tt:List Sh} {xs ys:List AV},Sh.fitL ss xs→Sh.fitL tt ys→Sh.fitL (ss++tt) (xs++ys)
 | [],_,_,_,h,k=>by simp only[Sh.fitL]at h;subst h;simpa using k
 | s::ss,_,_,_,h,k=>by
  simp only[Sh.fitL]at h;obtain ⟨y,ys',rfl,h1,h2⟩:=h;simp only[List.cons_append,Sh.fitL];exact ⟨y,_,rfl,h1,a8F h2 k⟩
theorem RL0.app {I:Nat→Prop}:∀ {xs ys:List AV} {vs us:List Value},RL0 w I xs vs→RL0 w I ys us→RL0 w I (xs++ys) (vs++us):=RL0.append
theorem b3B {s:Sh} {cs:List Value} {xs:List AV} {I:Nat→Prop} (h1:RL0 w I xs cs) (h2:Sh.fitL s.cells xs):∃ x v,v.cells.toList=cs∧RV0 w I x v∧s.fit x:=by
 cases s with
 | agg ss =>
  refine ⟨.agg xs,.agg cs.toArray,by simp[Value.cells],?_,?_⟩
  ·simp only[RV0];exact ⟨cs,rfl,h1⟩
  ·simp only[Sh.fit];exact ⟨xs,rfl,h2⟩
 | bool =>
  simp only[Sh.cells,Sh.fitL]at h2;obtain ⟨y,ys,rfl,h2,rfl⟩:=h2;simp only[RL0]at h1;obtain ⟨v,vs,rfl,h1,rfl⟩:=h1;refine ⟨y,v,?_,h1,h2⟩;simp only[Sh.fit]at h2;obtain ⟨b,rfl⟩:=h2;simp only[RV0]at h1;subst h1;rfl
 | int k =>
  simp only[Sh.cells,Sh.fitL]at h2;obtain ⟨y,ys,rfl,h2,rfl⟩:=h2;simp only[RL0]at h1;obtain ⟨v,vs,rfl,h1,rfl⟩:=h1;refine ⟨y,v,?_,h1,h2⟩;simp only[Sh.fit]at h2;obtain ⟨b,rfl,_⟩:=h2;simp only[RV0]at h1;subst h1;rfl
 | str =>
  simp only[Sh.cells,Sh.fitL]at h2;obtain ⟨y,ys,rfl,h2,rfl⟩:=h2;simp only[RL0]at h1;obtain ⟨v,vs,rfl,h1,rfl⟩:=h1;refine ⟨y,v,?_,h1,h2⟩;simp only[Sh.fit]at h2;obtain ⟨b,rfl,_⟩:=h2;simp only[RV0]at h1;subst h1;rfl
 | sl sz bts e =>
  simp only[Sh.cells,Sh.fitL]at h2;obtain ⟨y,ys,rfl,h2,rfl⟩:=h2;simp only[RL0]at h1;obtain ⟨v,vs,rfl,h1,rfl⟩:=h1;refine ⟨y,v,?_,h1,h2⟩;simp only[Sh.fit]at h2;obtain ⟨b,rfl,_⟩:=h2;simp only[RV0]at h1;obtain ⟨a,n,c,vs,rfl,_⟩:=h1;rfl
theorem b8Q {α β:Type} {Q:Nat→α→β→Prop}:∀ (n:Nat),(∀ i,i<n→∃ x y,Q i x y)→∃ (xs:List α) (ys:List β),xs.length=n∧ys.length=n∧∀ i x y,xs[i]? = some x→ys[i]? = some y→Q i x y
 | 0,_=>⟨[],[],rfl,rfl,fun i x y h=>by simp at h⟩
 | n+1,h=>by
  obtain ⟨xs,ys,h1,h2,h3⟩:=b8Q n (fun i hi=>h i (by omega));obtain ⟨x,y,hq⟩:=h n (by omega);refine ⟨xs++[x],ys++[y],by simp[h1],by simp[h2],fun i x' y' hx hy=>?_⟩;rcases Nat.lt_trichotomy i n with hi | rfl | hi
  ·rw[List.getElem?_append_left (by omega)]at hx hy;exact h3 i x' y' hx hy
  ·rw[List.getElem?_append_right (by omega)]at hx hy;simp[h1,h2]at hx hy;subst hx;subst hy;exact hq
  ·rw[List.getElem?_eq_none (by simp;omega)]at hx;cases hx
theorem b8R {b off n:Nat}:(Addr.mk b off none).add n=⟨b,off+n,none⟩:=by
 unfold Addr.add;split
 ·rename_i h;subst h;rfl
 ·rfl
def All (w:World):Nat→Prop:=fun b=>b<w.heap.size
theorem c5j {a:Addr} {v:Value} (h:w.cell? a=some v):a.spot=none∧a.block<w.heap.size:=by
 unfold World.cell? at h;split at h
 ·rename_i c ty fr hb;split at h
  ·cases h
  ·rename_i hs;refine ⟨by cases hh:a.spot<;>simp_all,(Array.getElem?_eq_some_iff.1 hb).1⟩
 ·cases h
def c0b (P:Program) (t:TypeId) (d:DataW H):Prop:=∀ n ∈ d.weights P t,n≤reachBytes
theorem a8G {e:TypeId} {n:Nat}:∀ {ds:List (DataW H)} {d:DataW H},d ∈ ds→n ∈ d.weights P e→n ∈ DataW.weightsAll P e ds
 | [],_,h,_=>by cases h
 | x::ds,d,h,hn=>by
  simp only[DataW.weightsAll];rcases List.mem_cons.1 h with rfl | h
  ·exact List.mem_append_left _ hn
  ·exact List.mem_append_right _ (a8G h hn)
theorem b1x {n:Nat}:∀ {ts:List TypeId} {ds:List (DataW H)} {i:Nat} {t:TypeId} {d:DataW H},ts[i]? = some t→ds[i]? = some d→n ∈ d.weights P t→n ∈ DataW.weightsEach P ts ds
 | [],_,_,_,_,h,_,_=>by simp at h
 | _::_,[],_,_,_,_,h,_=>by simp at h
 | t'::ts,d'::ds,0,t,d,ht,hd,hn=>by
  simp at ht hd;subst ht;subst hd;simp only[DataW.weightsEach];exact List.mem_append_left _ hn
 | t'::ts,d'::ds,i+1,t,d,ht,hd,hn=>by
  simp only[DataW.weightsEach];exact List.mem_append_right _ (b1x (by simpa using ht) (by simpa using hd) hn)
theorem b2E {g:TypeId→Option Sh} {n:Nat} {cs:List Value} (hg:∀ (t:TypeId) (cs:List Value) (y:DataW H × List MemPlace) (s:Sh),DataW.trod enc P w base spare held n t cs=some y→c0b P t y.1→g t=some s→∃ xs,RL0 w (All w) xs cs∧Sh.fitL s.cells xs) :
 ∀ (fs:List Field) (off m:Nat) (r:List Sh),b2D P g off fs=some (r,m)→(∀ f ∈ fs,∃ y,DataW.trod enc P w base spare held n f.type ((cs.drop f.offset).take (P.cellsOf f.type))=some y∧c0b P f.type y.1)→m≤cs.length →
  off≤m∧∃ xs,RL0 w (All w) xs ((cs.drop off).take (m-off))∧Sh.fitL r xs
 | [],off,m,r,h,_,_=>by
  simp only[b2D,Option.some.injEq,Prod.mk.injEq]at h;obtain ⟨rfl,rfl⟩:=h;exact ⟨Nat.le_refl _,[],by simp[RL0],by simp[Sh.fitL]⟩
 | f::fs,off,m,r,h,hf,hm=>by
  simp only[b2D]at h;split at h
  ·rename_i s r' n' h1 h2;split at h
   ·rename_i h3;cases h;obtain ⟨y,hy,hyl⟩:=hf f (by simp);obtain ⟨xs,hx1,hx2⟩:=hg _ _ _ _ hy hyl h1;obtain ⟨hle,ys,hy1,hy2⟩:=b2E hg fs _ _ _ h2 (fun f hf'=>hf f (by simp[hf'])) hm;refine ⟨by omega,xs++ys,?_,a8F hx2 hy2⟩;have e:(cs.drop off).take (m-off)=(cs.drop f.offset).take (P.cellsOf f.type)++(cs.drop (off+P.cellsOf f.type)).take (m-(off+P.cellsOf f.type)):=by
     rw[h3.1,show m-off=P.cellsOf f.type+(m-(off+P.cellsOf f.type)) by omega,List.take_add,List.drop_drop]
    rw[e];exact RL0.append hx1 hy1
   ·cases h
  ·cases h
theorem b4n {n:Nat} {e:TypeId} {s:Sh} {cs:List Value} {c:Nat} (hg:∀ (cs:List Value) (y:DataW H × List MemPlace),DataW.trod enc P w base spare held n e cs=some y→c0b P e y.1→∃ xs,RL0 w (All w) xs cs∧Sh.fitL s.cells xs) :
 ∀ (m:Nat),(∀ i,i<m→∃ y,DataW.trod enc P w base spare held n e ((cs.drop (i*c)).take c)=some y∧c0b P e y.1)→∃ xs,RL0 w (All w) xs (cs.take (m*c))∧Sh.fitL (List.replicate m s.cells).flatten xs
 | 0,_=>⟨[],by simp[RL0],by simp[Sh.fitL]⟩
 | m+1,h=>by
  obtain ⟨xs,h1,h2⟩:=b4n hg m (fun i hi=>h i (by omega));obtain ⟨y,hy,hyl⟩:=h m (by omega);obtain ⟨ys,h3,h4⟩:=hg _ _ hy hyl;refine ⟨xs++ys,?_,?_⟩
  ·rw[Nat.succ_mul,List.take_add];exact RL0.append h1 h3
  ·rw[List.replicate_succ',List.flatten_append];simpa using a8F h2 h4
theorem a9i:∀ (fuel:Nat) (n:Nat) (t:TypeId) (cs:List Value) (y:DataW H × List MemPlace) (s:Sh),DataW.trod enc P w base spare held fuel t cs=some y→c0b P t y.1→c1m P n t=some s→∃ xs,RL0 w (All w) xs cs∧Sh.fitL s.cells xs
 | 0,_,_,_,_,_,h,_,_=>by simp[DataW.trod]at h
 | fuel+1,0,_,_,_,_,_,_,hs=>by simp[c1m]at hs
 | fuel+1,n+1,t,cs,y,s,h,hlt,hs=>by
  simp only[c1m]at hs;split at hs
  ·rename_i ht;cases hs;obtain ⟨b,rfl,_⟩:=DataW.trod_bool ht h;exact ⟨[.val (.bool b)],by simp[RL0,RV0],by simp[Sh.cells,Sh.fitL,Sh.fit]⟩
  ·rename_i k ht;cases hs;obtain ⟨m,rfl,_,hw⟩:=DataW.trod_int ht h;exact ⟨[.val (.int k m)],by simp[RL0,RV0],by simp[Sh.cells,Sh.fitL,Sh.fit,hw]⟩
  ·rename_i ht;cases hs;obtain ⟨b,rfl,rfl,hb⟩:=DataW.trod_string ht h;have hb:b.size≤reachBytes:=by
    have:=hlt b.data.toList.length (by simp[DataW.weights]);simpa using this
   exact ⟨[.val (.string b)],by simp[RL0,RV0],by simp[Sh.cells,Sh.fitL,Sh.fit,hb]⟩
  ·rename_i e ht;split at hs
   ·rename_i se hse;split at hs
    ·rename_i hpos;cases hs;rcases DataW.trod_slice ht h with ⟨rfl,_⟩ | ⟨a,len,cap,elems,rest,m,hm,rfl,rfl,_,hl,hcap,hlen,hel,_⟩
     ·refine ⟨[.imm (P.cellsOf e) []],?_,?_⟩
      ·simp only[RL0,RV0];exact ⟨_,[],rfl,⟨none,0,0,[],rfl,rfl,Nat.le_refl _,by simp[maxLen],rfl,by simp,.inl rfl⟩,rfl⟩
      ·simp only[Sh.cells,Sh.fitL,Sh.fit];exact ⟨_,[],rfl,⟨[],rfl,by simp,by simp,by simp⟩,rfl⟩
     ·obtain rfl:fuel=m:=by omega
      have each:∀ i,i<len→∃ (x:AV) (v:Value),RV0 w (All w) x v∧se.fit x∧v.cells.size=P.cellsOf e∧(∀ j u,v.cells[j]? = some u→w.cell? ((a.add (i*P.cellsOf e)).add j)=some u):=fun i hi=>by
       have hE:=hel i hi;rw[List.getElem?_eq_getElem (by omega),Option.bind_eq_some_iff]at hE;obtain ⟨ci,hc1,hc2⟩:=hE;obtain ⟨xs,hx1,hx2⟩:=a9i fuel n e ci _ se hc2 (fun q hq=>hlt q (by
        simp only[DataW.weights,ht];exact List.mem_cons_of_mem _ (List.mem_append_left _ (a8G (List.mem_map.2 ⟨_,List.getElem_mem _,rfl⟩) hq)))) hse
       obtain ⟨x,v,hv1,hv2,hv3⟩:=b3B hx1 hx2;obtain ⟨_,hc3,hc4⟩:=World.cells?_some hc1;have hsz:v.cells.size=P.cellsOf e:=by rw[← hc3,← hv1];simp
       refine ⟨x,v,hv2,hv3,hsz,fun j u hj=>?_⟩;have hj':j<P.cellsOf e:=by have:=(Array.getElem?_eq_some_iff.1 hj).1;omega
       rw[hc4 j hj',← hv1,Array.getElem?_toList];exact hj
      obtain ⟨xs,vs,g1,g2,g3⟩:=b8Q (Q:=fun i (x:AV) (v:Value)=>RV0 w (All w) x v∧se.fit x∧v.cells.size=P.cellsOf e∧(∀ j u,v.cells[j]? = some u→w.cell? ((a.add (i*P.cellsOf e)).add j)=some u)) len each;have g4:∀ x ∈ xs,∃ i v,vs[i]? = some v∧xs[i]? = some x:=fun x hx=>by
       obtain ⟨i,hi⟩:=List.getElem?_of_mem hx;have:=(List.getElem?_eq_some_iff.1 hi).1;exact ⟨i, vs[i]'(by omega), List.getElem?_eq_getElem _, hi⟩
      have g5:∀ v ∈ vs,∃ (i:Nat) (x:AV),xs[i]? = some x∧vs[i]? = some v:=fun v hv=>by
       obtain ⟨i,hi⟩:=List.getElem?_of_mem hv;have:=(List.getElem?_eq_some_iff.1 hi).1;exact ⟨i, xs[i]'(by omega), List.getElem?_eq_getElem _, hi⟩
      refine ⟨[.imm (P.cellsOf e) xs],?_,?_⟩
      ·simp only[RL0,RV0];refine ⟨_,[],rfl,⟨some a,len,cap,vs,rfl,g1.symm,hl,hcap,RL0.of_get (by omega) (fun i x v hx hv=>(g3 i x v hx hv).1),fun v hv=>?_,?_⟩,rfl⟩
       ·obtain ⟨i,x,h1,h2⟩:=g5 v hv;exact (g3 i x v h1 h2).2.2.1
       ·by_cases h0:len=0
        ·exact .inl h0
        ·right;have hspot:a.spot=none∧a.block<w.heap.size:=by
          have h00 := g3 0 (xs[0]'(by omega)) (vs[0]'(by omega)) (List.getElem?_eq_getElem _) (List.getElem?_eq_getElem _);have hc0 := h00.2.2.2 0 ((vs[0]'(by omega)).cells[0]'(by omega)) (Array.getElem?_eq_getElem _);rw[Nat.zero_mul]at hc0;have:(a.add 0).add 0=a:=by simp[Addr.add]
          rw[this]at hc0;exact c5j hc0
         obtain ⟨ab,ao,asp⟩:=a;simp only at hspot;obtain ⟨rfl,hb⟩:=hspot;refine ⟨ab,ao,rfl,hb,fun i v hv j u hj=>?_⟩;obtain ⟨hi,_⟩:=List.getElem?_eq_some_iff.1 hv;have := (g3 i (xs[i]'(by omega)) v (List.getElem?_eq_getElem _) hv).2.2.2 j u hj;rw[b8R,b8R]at this;exact this
      ·simp only[Sh.cells,Sh.fitL,Sh.fit];have hbt:xs.length*P.bytesOf e≤reachBytes:=by
        refine Nat.le_trans (Nat.mul_le_mul_right _ ?_) (hlt ((elems.length+rest.length)*P.bytesOf e) (by simp only[DataW.weights,ht,List.length_map];exact List.mem_cons_self));omega
       refine ⟨_,[],rfl,⟨xs,rfl,by omega,hbt,fun x hx=>?_⟩,rfl⟩;obtain ⟨i,v,h1,h2⟩:=g4 x hx;exact (g3 i x v h2 h1).2.1
    ·cases hs
   ·cases hs
  ·rename_i fs ht;split at hs
   ·rename_i r m hfs;split at hs
    ·rename_i hm;cases hs;obtain ⟨xs,n',hn',rfl,hlen,hxl,hx⟩:=DataW.trod_struct ht h;obtain rfl:fuel=n':=by omega
     have:=b2E (H:=H) (enc:=enc) (base:=base) (spare:=spare) (held:=held) (g:=c1m P n) (n:=fuel) (cs:=cs) (fun t cs y s h1 h2 h3=>a9i fuel n t cs y s h1 h2 h3) fs.toList 0 m r hfs
      (fun f hf=>by
        obtain ⟨i,hi⟩:=List.getElem?_of_mem hf;have:=(List.getElem?_eq_some_iff.1 hi).1;rw[Array.getElem?_toList]at hi;rw[hx i f hi,List.getElem?_eq_getElem (by simp at this;omega)];refine ⟨_,rfl,fun q hq=>hlt q ?_⟩;simp only[DataW.weights,ht];exact b1x (i:=i) (by rw[List.getElem?_map,Array.getElem?_toList,hi];rfl) (by rw[List.getElem?_map,List.getElem?_eq_getElem (by simp at this;omega)];rfl) hq) (by omega)
     obtain ⟨_,ys,h1,h2⟩:=this;refine ⟨ys,?_,h2⟩;rw[List.drop_zero,Nat.sub_zero,List.take_of_length_le (by omega)]at h1;exact h1
    ·cases hs
   ·cases hs
  ·rename_i m e ht;split at hs
   ·rename_i se hse;split at hs
    ·rename_i hm;cases hs;obtain ⟨xs,n',hn',rfl,hlen,hxl,hx⟩:=DataW.trod_array ht h;obtain rfl:fuel=n':=by omega
     obtain ⟨ys,h1,h2⟩:=b4n (H:=H) (enc:=enc) (base:=base) (spare:=spare) (held:=held) (n:=fuel) (e:=e) (s:=se) (cs:=cs) (c:=P.cellsOf e) (fun cs y h1 h2=>a9i fuel n e cs y se h1 h2 hse) m
      (fun i hi=>by
        rw[hx i hi,List.getElem?_eq_getElem (by omega)];refine ⟨_,rfl,fun q hq=>hlt q ?_⟩;simp only[DataW.weights,ht];exact a8G (List.mem_map.2 ⟨_,List.getElem_mem _,rfl⟩) hq)
     refine ⟨ys,?_,h2⟩;rw[List.take_of_length_le (by omega)]at h1;exact h1
    ·cases hs
   ·cases hs
  ·cases hs
theorem c3i {r:Reach} {b0 n:Nat} {t:TypeId} {v:Value} {d:DataW H} {ps:List MemPlace} {s:Sh} (hval:Value.okWide P w r b0 t v) (hd:DataW.Trod enc P w base spare held t v d ps) (hlt:c0b P t d) (hs:c1m P n t=some s):∃ x,RV0 w (All w) x v∧s.fit x:=by
 obtain ⟨fuel,hf⟩:=hd;obtain ⟨xs,h1,h2⟩:=a9i fuel n t _ _ s hf hlt hs;have one:v.cells.toList=[v]→s.cells=[s]→∃ x,RV0 w (All w) x v∧s.fit x:=fun e1 e2=>by
  rw[e1]at h1;rw[e2]at h2;simp only[Sh.fitL]at h2;obtain ⟨y,ys,rfl,h2,rfl⟩:=h2;simp only[RL0]at h1;obtain ⟨v',vs,e3,h1,rfl⟩:=h1;simp only[List.cons.injEq,and_true]at e3;subst e3;exact ⟨y,h1,h2⟩
 have many:∀ ss,s = .agg ss→(∃ cs,v = .agg cs)→∃ x,RV0 w (All w) x v∧s.fit x:=fun ss e1 ⟨cs,e2⟩=>by
  subst e1;subst e2;refine ⟨.agg xs,?_,?_⟩
  ·simp only[RV0];exact ⟨cs.toList,by simp,h1⟩
  ·simp only[Sh.fit];exact ⟨xs,rfl,h2⟩
 cases n with
 | zero=>simp[c1m]at hs
 | succ n =>
  simp only[c1m]at hs;split at hs
  ·rename_i ht;cases hs;obtain ⟨b,rfl⟩:=okWide_bool ht hval;exact one rfl rfl
  ·rename_i k ht;cases hs;obtain ⟨b,rfl⟩:=okWide_int ht hval;exact one rfl rfl
  ·rename_i ht;cases hs;obtain ⟨b,rfl⟩:=okWide_string ht hval;exact one rfl rfl
  ·rename_i e ht;split at hs
   ·split at hs
    ·cases hs;obtain ⟨a,l,c,rfl⟩:=okWide_slice ht hval;exact one rfl rfl
    ·cases hs
   ·cases hs
  ·rename_i fs ht;split at hs
   ·split at hs
    ·cases hs;unfold Value.okWide at hval;rw[ht]at hval;obtain ⟨cs,rfl,_⟩:=hval;exact many _ rfl ⟨cs,rfl⟩
    ·cases hs
   ·cases hs
  ·rename_i m e ht;split at hs
   ·split at hs
    ·cases hs;unfold Value.okWide at hval;rw[ht]at hval;obtain ⟨cs,rfl,_⟩:=hval;exact many _ rfl ⟨cs,rfl⟩
    ·cases hs
   ·cases hs
  ·cases hs
def c1n (P:Program) (n:Nat):List TypeId→Option (List Sh)
 | []=>some []
 | t::ts=>match c1m P n t,c1n P n ts with
  | some s,some r=>some (s::r)
  | _,_=>none
theorem b6t {n:Nat}:∀ (ts:List TypeId) (vs:List Value) (ds:List (DataW H)) (ps:List MemPlace) (shs:List Sh),c1n P n ts=some shs→DataW.TrodAll enc P w base spare held ts vs ds ps →
 (∀ (j:Nat) t v,ts[j]? = some t→vs[j]? = some v→∃ r b,Value.okWide P w r b t v)→(∀ n ∈ DataW.weightsEach P ts ds,n≤reachBytes)→∃ xs,RL0 w (All w) xs vs∧Sh.fitL shs xs
 | [],vs,ds,ps,shs,hs,h,_,_=>by
  simp only[c1n,Option.some.injEq]at hs;subst hs;obtain ⟨rfl,_,_⟩:=trodAll_nil h;exact ⟨[],by simp[RL0],by simp[Sh.fitL]⟩
 | t::ts,vs,ds,ps,shs,hs,h,hv,hw=>by
  simp only[c1n]at hs;split at hs
  ·rename_i s r h1 h2;cases hs;obtain ⟨v,vs',d,ds',p,q,rfl,rfl,rfl,h3,h4⟩:=trodAll_cons h;obtain ⟨rr,b,hok⟩:=hv 0 t v rfl rfl;obtain ⟨x,hx1,hx2⟩:=c3i hok h3 (fun q hq=>hw q (by simp only[DataW.weightsEach];exact List.mem_append_left _ hq)) h1;obtain ⟨xs,h5,h6⟩:=b6t ts vs' ds' q r h2 h4 (fun j t v ht hv'=>hv (j+1) t v (by simpa using ht) (by simpa using hv')) (fun q hq=>hw q (by simp only[DataW.weightsEach];exact List.mem_append_right _ hq));refine ⟨x::xs,?_,?_⟩
   ·simp only[RL0];exact ⟨v,vs',rfl,hx1,h5⟩
   ·simp only[Sh.fitL];exact ⟨x,xs,rfl,hx2,h6⟩
  ·cases hs
theorem a9j {W W':World} (hl:laidOutB P=true) (hb:Below W.heap.size W W'):∀ (ts:List TypeId) (vs:List Value) (ds:List (DataW H)) (ps:List MemPlace),(∀ t ∈ ts,P.readableRec t=true∧t<P.types.size)→(∀ x ∈ ps,x.block<W.heap.size) →
 DataW.TrodAll enc P W 0 (fun _=>true) true ts vs ds ps→DataW.TrodAll enc P W' 0 (fun b=>decide (b<W.heap.size)) true ts vs ds ps
 | [],vs,ds,ps,_,_,h=>by obtain ⟨rfl,rfl,rfl⟩:=trodAll_nil h;exact trodAll_mk0
 | t::ts,vs,ds,ps,ht,hp,h=>by
  obtain ⟨v,vs',d,ds',p,q,rfl,rfl,rfl,h3,h4⟩:=trodAll_cons h;exact ⟨p,q,Below.trod hl (ht t (by simp)).1 (ht t (by simp)).2 h3 hb (fun x hx=>hp x (by simp[hx])),a9j hl hb ts vs' ds' q (fun t' h'=>ht t' (by simp[h'])) (fun x hx=>hp x (by simp[hx])) h4,rfl⟩
theorem a8j:∀ {ts:List TypeId} {vs:List Value} {ds:List (DataW H)} {ps:List MemPlace},DataW.TrodAll enc P w base spare held ts vs ds ps→ds.length=ts.length
 | [],_,_,_,h=>by obtain ⟨_,rfl,_⟩:=trodAll_nil h;rfl
 | t::ts,_,_,_,h=>by obtain ⟨v,vs',d,ds',p,q,rfl,rfl,rfl,_,h4⟩:=trodAll_cons h;simp[a8j h4]
theorem c1o {s:ChangeSpec} (h:s.vars=[]):s.plain.varTypes P=[]:=by
 unfold DataSpec.varTypes ChangeSpec.plain;rw[h];rfl
theorem c1p {f:Nat} {fn:Func} {s:ChangeSpec} {shs:List Sh} {n:Nat} {tb:TypeId} (hl:laidOutB P=true) (hv:s.vars=[]) (hr:fn.resultTypes = #[tb]) (htb:P.underlying tb=some .bool)
 (hts:∀ t ∈ fn.params.toList,P.readableRec t=true∧t<P.types.size) (hsh:c1n P n fn.params.toList=some shs)
 (hspec:∀ ds:List (DataW H),ds.length=fn.params.toList.length→s.fn H ds = { results:=[.lit (.bool true)],args:=ds })
 (law:∀ xs,Sh.fitL shs xs→Contract P f xs (fun r=>r=B true))
 {W:World} {base:Nat} {args:Array Value} {ds gs:List (DataW H)} {before:List MemPlace}
 (hval:∀ (j:Nat) t v,fn.params[j]? = some t→args[j]? = some v→Value.okWide P W .any base t v)
 (hW:DataW.Whole enc P fn.params.toList s.vars false W args.toList ds gs before)
 (hwt:(DataW.weightsEach P (fn.params.toList++s.plain.varTypes P) (ds++gs)).all (·≤reachBytes)=true) :
 Calls P f args W fun e W'=>∃ v,e = .returned v∧s.post enc P fn false true false false W args v W':=by
 have hW':=hW;obtain ⟨p,q,hA,hV,rfl,hfz,hnd⟩:=hW;rw[hv]at hV;obtain ⟨rfl,rfl⟩:=trodVars_none hV;obtain ⟨xs,h1,h2⟩:=b6t _ _ _ _ _ hsh hA (fun j t v ht hv'=>⟨_,_,hval j t v (by rw[← Array.getElem?_toList];exact ht) (by rw[← Array.getElem?_toList];exact hv')⟩)
  (fun q hq=>by
    rw[List.append_nil,c1o hv,List.append_nil,List.all_eq_true]at hwt;exact of_decide_eq_true (hwt q hq))
 have hc:=(law xs h2).2 (All W) W args.toList (fun _ hb=>hb) h1;rw[Array.toArray_toList]at hc;refine hc.mono fun e W' hp=>?_;obtain ⟨v,r,rfl,h3,h4,rfl⟩:=hp;simp only[RV0]at h3;subst h3;have hsp:=hspec ds (a8j hA);refine ⟨_,rfl,ds,[],p++[],[],p,[],hW',?_,?_,?_,?_,fun h=>by cases h⟩
 ·rw[List.append_nil,hsp,hr];exact trodAll_mk1 ⟨1,by simp[DataW.trod,Value.cells,htb]⟩
 ·rw[List.append_nil,hsp];exact a9j hl h4 _ _ _ _ hts (fun x hx=>hW'.lt x (by simp[hx])) hA
 ·rw[List.append_nil,hsp,hv];rfl
 ·exact h4.frame _
end
end Go.V
