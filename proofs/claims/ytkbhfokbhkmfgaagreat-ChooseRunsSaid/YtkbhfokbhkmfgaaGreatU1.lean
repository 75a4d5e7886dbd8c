/- The engine, part 1: values as data ('AV'), what a value of the machine reads as, and that this stays while memory grows. No condition. -/
import Derived.WalkKit
set_option linter.unusedVariables false
set_option linter.unusedSimpArgs false
namespace Go.V
open Go.RowKit
inductive AV where
 | val (v:Value)
 | imm (sz:Nat) (xs:List AV)
 | agg (cs:List AV)
 | ip (x:AV)
 | ref (id s off len:Nat)
 | ptr (id s off:Nat)
 | fn (f:Nat) (cs:List AV)
 | bm (f:Nat) (cs:List AV)
 | tup (cs:List AV)
 | yld (id s:Nat)
 | mref (id s:Nat)
 | lp (r:Loop)
 | dead
deriving Inhabited
structure VObj where
 s:Nat
 ty:Nat
 sz:Nat
 cs:List AV
deriving Inhabited
def InMem (w:World) (b o:Nat) (v:Value):Prop:=∀ j u,v.cells[j]? = some u→w.cell? ⟨b,o+j,none⟩=some u
mutual
def RV0 (w:World) (I:Nat→Prop):AV→Value→Prop
 | .val v,x=>x=v
 | .imm sz xs,x=>∃ a n c vs,x = .slice a n c∧n=xs.length∧n≤c∧c≤maxLen∧RL0 w I xs vs∧(∀ v ∈ vs,v.cells.size=sz) ∧
  (n=0∨∃ b off,a=some ⟨b,off,none⟩∧I b∧∀ i v,vs[i]? = some v→InMem w b (off+i*sz) v)
 | .agg cs,x=>∃ vs:List Value,x = .agg vs.toArray∧RL0 w I cs vs
 | .ip y,x=>∃ b off v,x = .pointer (some ⟨b,off,none⟩)∧I b∧RV0 w I y v∧InMem w b off v
 | .fn f cs,x=>∃ vs:List Value,x = .func (.func f) #[] vs.toArray∧RL0 w I cs vs
 | .bm f cs,x=>∃ vs:List Value,x = .func (.func f) vs.toArray #[]∧RL0 w I cs vs
 | .tup cs,x=>∃ vs:List Value,x = .tuple vs.toArray∧RL0 w I cs vs
 | .ref ..,_=>False
 | .ptr ..,_=>False
 | .yld ..,_=>False
 | .mref ..,_=>False
 | .lp _,_=>True
 | .dead,_=>True
def RL0 (w:World) (I:Nat→Prop):List AV→List Value→Prop
 | [],vs=>vs=[]
 | c::cs,vs=>∃ v vs',vs=v::vs'∧RV0 w I c v∧RL0 w I cs vs'
end
def Same (w w':World) (I:Nat→Prop):Prop:=∀ b,I b→∀ cur ty fr,w.heap[b]? = some (.cells cur ty fr)→w'.heap[b]? = some (.cells cur ty fr)
theorem Same.of_eq {w w':World} {I:Nat→Prop} (h:∀ b,I b→w'.heap[b]? = w.heap[b]?):Same w w' I:=fun b hb cur ty fr hc=>by rw[h b hb];exact hc
theorem c2Z {w:World} {b o:Nat} {u:Value} (h:w.cell? ⟨b,o,none⟩=some u):∃ cur ty fr,w.heap[b]? = some (.cells cur ty fr):=by
 unfold World.cell? at h;split at h
 ·rename_i c ty fr hb;exact ⟨c,ty,fr,hb⟩
 ·cases h
theorem InMem.same {w w':World} {b o:Nat} {v:Value} (h:InMem w b o v) (hb:∀ cur ty fr,w.heap[b]? = some (.cells cur ty fr)→w'.heap[b]? = some (.cells cur ty fr)):InMem w' b o v:=fun j u hu=>by
 have h1:=h j u hu;obtain ⟨cur,ty,fr,hc⟩:=c2Z h1;rw[World.cell?_of_block (w:=w) (w':=w') (a:=⟨b,o+j,none⟩) (by rw[hc];exact hb cur ty fr hc)];exact h1
mutual
theorem RV0.mono {w w':World} {I I':Nat→Prop} (hI:∀ b,I b→I' b) (hs:Same w w' I):∀ (x:AV) (v:Value),RV0 w I x v→RV0 w' I' x v
 | .val _,_,h=>by simpa only [RV0] using h
 | .imm sz xs,v,h=>by
  simp only[RV0]at h ⊢;obtain ⟨a,n,c,vs,h1,h2,h3,h4,h5,h6,h7⟩:=h;refine ⟨a,n,c,vs,h1,h2,h3,h4,RL0.mono hI hs xs vs h5,h6,?_⟩;rcases h7 with h7 | ⟨b,off,e1,e2,e3⟩
  ·exact .inl h7
  ·exact .inr ⟨b,off,e1,hI b e2,fun i v hv=>(e3 i v hv).same (hs b e2)⟩
 | .agg cs,v,h=>by
  simp only[RV0]at h ⊢;obtain ⟨vs,h1,h2⟩:=h;exact ⟨vs,h1,RL0.mono hI hs cs vs h2⟩
 | .ip y,v,h=>by
  simp only[RV0]at h ⊢;obtain ⟨b,off,u,h1,h2,h3,h4⟩:=h;exact ⟨b,off,u,h1,hI b h2,RV0.mono hI hs y u h3,h4.same (hs b h2)⟩
 | .fn f cs,v,h=>by
  simp only[RV0]at h ⊢;obtain ⟨vs,h1,h2⟩:=h;exact ⟨vs,h1,RL0.mono hI hs cs vs h2⟩
 | .bm f cs,v,h=>by
  simp only[RV0]at h ⊢;obtain ⟨vs,h1,h2⟩:=h;exact ⟨vs,h1,RL0.mono hI hs cs vs h2⟩
 | .tup cs,v,h=>by
  simp only[RV0]at h ⊢;obtain ⟨vs,h1,h2⟩:=h;exact ⟨vs,h1,RL0.mono hI hs cs vs h2⟩
 | .ref ..,_,h=>by simp only[RV0]at h
 | .ptr ..,_,h=>by simp only[RV0]at h
 | .yld ..,_,h=>by simp only[RV0]at h
 | .mref ..,_,h=>by simp only[RV0]at h
 | .lp _,_,_=>by simp only[RV0]
 | .dead,_,_=>by simp only[RV0]
theorem RL0.mono {w w':World} {I I':Nat→Prop} (hI:∀ b,I b→I' b) (hs:Same w w' I):∀ (xs:List AV) (vs:List Value),RL0 w I xs vs→RL0 w' I' xs vs
 | [],_,h=>by simpa only [RL0] using h
 | c::cs,vs,h=>by
  simp only[RL0]at h ⊢;obtain ⟨v,vs',h1,h2,h3⟩:=h;exact ⟨v,vs',h1,RV0.mono hI hs c v h2,RL0.mono hI hs cs vs' h3⟩
end
theorem RL0.length {w:World} {I:Nat→Prop}:∀ {xs:List AV} {vs:List Value},RL0 w I xs vs→vs.length=xs.length
 | [],vs,h=>by simp only[RL0]at h;rw[h];rfl
 | c::cs,vs,h=>by
  simp only[RL0]at h;obtain ⟨v,vs',rfl,_,h3⟩:=h;simp[RL0.length h3]
theorem RL0.get {w:World} {I:Nat→Prop}:∀ {xs:List AV} {vs:List Value},RL0 w I xs vs→∀ (i:Nat) (x:AV),xs[i]? = some x→∃ v,vs[i]? = some v∧RV0 w I x v
 | [],_,_,i,x,hx=>by simp at hx
 | c::cs,vs,h,i,x,hx=>by
  simp only[RL0]at h;obtain ⟨v,vs',rfl,h2,h3⟩:=h;cases i with
  | zero=>simp at hx;subst hx;exact ⟨v,by simp,h2⟩
  | succ i=>simp at hx;obtain ⟨u,h4,h5⟩:=RL0.get h3 i x hx;exact ⟨u,by simpa using h4,h5⟩
theorem RL0.of_get {w:World} {I:Nat→Prop}:∀ {xs:List AV} {vs:List Value},vs.length=xs.length→(∀ (i:Nat) (x:AV) (v:Value),xs[i]? = some x→vs[i]? = some v→RV0 w I x v)→RL0 w I xs vs
 | [],vs,hl,_=>by simp only[RL0];exact List.eq_nil_of_length_eq_zero (by simpa using hl)
 | c::cs,vs,hl,h=>by
  simp only[RL0];cases vs with
  | nil=>simp at hl
  | cons v vs=>exact ⟨v,vs,rfl,h 0 c v (by simp) (by simp),RL0.of_get (by simpa using hl) (fun i x u hx hu=>h (i+1) x u (by simpa using hx) (by simpa using hu))⟩
theorem RL0.append {w:World} {I:Nat→Prop}:∀ {xs ys:List AV} {vs us:List Value},RL0 w I xs vs→RL0 w I ys us→RL0 w I (xs++ys) (vs++us)
 | [],_,_,_,h,k=>by simp only[RL0]at h;subst h;simpa using k
 | c::cs,_,_,_,h,k=>by
  simp only[RL0]at h;obtain ⟨v,vs',rfl,h2,h3⟩:=h;simp only[List.cons_append,RL0];exact ⟨v,_,rfl,h2,RL0.append h3 k⟩
theorem RL0.drop {w:World} {I:Nat→Prop} (n:Nat):∀ {xs:List AV} {vs:List Value},RL0 w I xs vs→RL0 w I (xs.drop n) (vs.drop n):=by
 intro xs vs h;refine RL0.of_get (by simp[h.length]) fun i x v hx hv=>?_;rw[List.getElem?_drop]at hx hv;obtain ⟨u,h1,h2⟩:=h.get _ _ hx;rw[h1]at hv;cases hv;exact h2
theorem RL0.take {w:World} {I:Nat→Prop} (n:Nat):∀ {xs:List AV} {vs:List Value},RL0 w I xs vs→RL0 w I (xs.take n) (vs.take n):=by
 intro xs vs h;refine RL0.of_get (by simp[h.length]) fun i x v hx hv=>?_;rw[List.getElem?_take]at hx hv;split at hx
 ·rename_i hi;rw[if_pos hi]at hv;obtain ⟨u,h1,h2⟩:=h.get _ _ hx;rw[h1]at hv;cases hv;exact h2
 ·cases hx
structure MM where
 I0:Nat→Prop
 w0:World
 w:World
 H:List VObj
 m:List (Option Nat)
 nx:Nat
 o:Nat→Nat
def MM.I (M:MM) (b:Nat):Prop:=(M.I0 b∨(M.w0.heap.size≤b∧b<M.w.heap.size))∧∀ id,M.m.getD id none≠some b
mutual
def RV (M:MM):AV→Value→Prop
 | .val v,x=>x=v
 | .imm sz xs,x=>RV0 M.w M.I (.imm sz xs) x
 | .ip y,x=>RV0 M.w M.I (.ip y) x
 | .agg cs,x=>∃ vs:List Value,x = .agg vs.toArray∧RL M cs vs
 | .fn f cs,x=>∃ vs:List Value,x = .func (.func f) #[] vs.toArray∧RL M cs vs
 | .bm f cs,x=>∃ vs:List Value,x = .func (.func f) vs.toArray #[]∧RL M cs vs
 | .tup cs,x=>∃ vs:List Value,x = .tuple vs.toArray∧RL M cs vs
 | .ref id s off len,x=>s<M.nx∧x.oneCell'=true∧∀ ob,M.H[id]? = some ob→ob.s=s→ob.sz≠0 ∧
  match M.m.getD id none with
  | none=>x = .slice none 0 0∧off=0∧len=0
  | some g=>∃ o cap,x = .slice (some ⟨g,o,none⟩) len cap∧len≤cap∧cap≤maxLen∧off+len*ob.sz≤ob.cs.length∧(cap=0∨o=M.o id+off) ∧
   ∀ cur ty fr,M.w.heap[g]? = some (.cells cur ty fr)→M.o id+off+cap*ob.sz=cur.size
 | .ptr id s off,x=>s<M.nx∧x.oneCell'=true∧∀ ob,M.H[id]? = some ob→ob.s=s→ob.sz≠0∧∃ g,M.m.getD id none=some g∧x = .pointer (some ⟨g,M.o id+off,none⟩)
 | .yld id s,x=>s<M.nx∧x.oneCell'=true∧∀ ob,M.H[id]? = some ob→ob.s=s→∃ g,M.m.getD id none=some g∧x = .func (.yield g) #[] #[]
 | .mref id s,x=>s<M.nx∧x.oneCell'=true∧∀ ob,M.H[id]? = some ob→ob.s=s→∃ g,M.m.getD id none=some g∧x = .map (some g)
 | .lp _,_=>True
 | .dead,_=>True
def RL (M:MM):List AV→List Value→Prop
 | [],vs=>vs=[]
 | c::cs,vs=>∃ v vs',vs=v::vs'∧RV M c v∧RL M cs vs'
end
structure Oth (w w':World):Prop where
 size:w.heap.size≤w'.heap.size
 dfr:∀ r:Nat,w.heap[r]? = some (Obj.deferred (some []))→w'.heap[r]? = some (Obj.deferred (some []))
theorem Oth.refl (w:World):Oth w w:=⟨Nat.le_refl _,fun _ h=>h⟩
theorem Oth.trans {a b c:World} (h:Oth a b) (k:Oth b c):Oth a c:=⟨Nat.le_trans h.size k.size,fun r hr=>k.dfr r (h.dfr r hr)⟩
structure KeepH (M M':MM):Prop where
 imm:∀ b,M.I b→M'.I b
 same:Same M.w M'.w M.I
 nx:M.nx≤M'.nx
 obj:∀ id ob',M'.H[id]? = some ob'→ob'.s<M.nx→∃ ob,M.H[id]? = some ob∧ob.s=ob'.s∧ob.sz=ob'.sz∧ob.cs.length≤ob'.cs.length∧M'.o id=M.o id ∧
  M'.m.getD id none=M.m.getD id none∧∀ g,M.m.getD id none=some g→∀ cur' ty' fr',M'.w.heap[g]? = some (.cells cur' ty' fr')→∃ cur ty fr,M.w.heap[g]? = some (.cells cur ty fr)∧cur.size=cur'.size
structure Keep (M M':MM):Prop where
 imm:∀ b,M.I b→M'.I b
 same:Same M.w M'.w M.I
 oth:Oth M.w M'.w
 nx:M.nx≤M'.nx
 obj:∀ id ob',M'.H[id]? = some ob'→ob'.s<M.nx→∃ ob,M.H[id]? = some ob∧ob.s=ob'.s∧ob.sz=ob'.sz∧ob.cs.length≤ob'.cs.length∧M'.o id=M.o id ∧
  M'.m.getD id none=M.m.getD id none∧∀ g,M.m.getD id none=some g→∀ cur' ty' fr',M'.w.heap[g]? = some (.cells cur' ty' fr')→∃ cur ty fr,M.w.heap[g]? = some (.cells cur ty fr)∧cur.size=cur'.size
theorem Keep.h {M M':MM} (k:Keep M M'):KeepH M M':=⟨k.imm,k.same,k.nx,k.obj⟩
theorem Keep.refl (M:MM):Keep M M :=
 ⟨fun _ h=>h,fun _ _ _ _ _ h=>h,Oth.refl _,Nat.le_refl _,fun _ ob h _=>⟨ob,h,rfl,rfl,Nat.le_refl _,rfl,rfl,fun _ _ cur ty fr h=>⟨cur,ty,fr,h,rfl⟩⟩⟩
mutual
theorem RV.keepH {M M':MM} (k:KeepH M M'):∀ (x:AV) (v:Value),RV M x v→RV M' x v
 | .val _,_,h=>by simpa only [RV] using h
 | .imm sz xs,v,h=>by simp only[RV]at h ⊢;exact RV0.mono k.imm k.same _ _ h
 | .ip y,v,h=>by simp only[RV]at h ⊢;exact RV0.mono k.imm k.same _ _ h
 | .agg cs,v,h=>by
  simp only[RV]at h ⊢;obtain ⟨vs,h1,h2⟩:=h;exact ⟨vs,h1,RL.keepH k cs vs h2⟩
 | .fn f cs,v,h=>by
  simp only[RV]at h ⊢;obtain ⟨vs,h1,h2⟩:=h;exact ⟨vs,h1,RL.keepH k cs vs h2⟩
 | .bm f cs,v,h=>by
  simp only[RV]at h ⊢;obtain ⟨vs,h1,h2⟩:=h;exact ⟨vs,h1,RL.keepH k cs vs h2⟩
 | .tup cs,v,h=>by
  simp only[RV]at h ⊢;obtain ⟨vs,h1,h2⟩:=h;exact ⟨vs,h1,RL.keepH k cs vs h2⟩
 | .ref id s off len,v,h=>by
  simp only[RV]at h ⊢;obtain ⟨h1,h0,h2⟩:=h;refine ⟨Nat.lt_of_lt_of_le h1 k.nx,h0,fun ob' ho hs=>?_⟩;obtain ⟨ob,e1,e2,e3,e4,eo,e5,e6⟩:=k.obj id ob' ho (hs▸h1);obtain ⟨hz,h3⟩:=h2 ob e1 (e2.trans hs);refine ⟨by rw[← e3];exact hz,?_⟩;rw[e5];cases hm:M.m.getD id none with
  | none=>rw[hm]at h3;exact h3
  | some g =>
   rw[hm]at h3;obtain ⟨o,cap,p1,p2,p3,p4,p5,p6⟩:=h3;refine ⟨o,cap,p1,p2,p3,by rw[← e3];omega,by rw[eo];exact p5,fun cur' ty' fr' hc=>?_⟩;obtain ⟨cur,ty,fr,q1,q2⟩:=e6 g hm cur' ty' fr' hc;rw[← e3,← q2,eo];exact p6 cur ty fr q1
 | .ptr id s off,v,h=>by
  simp only[RV]at h ⊢;obtain ⟨h1,h0,h2⟩:=h;refine ⟨Nat.lt_of_lt_of_le h1 k.nx,h0,fun ob' ho hs=>?_⟩;obtain ⟨ob,e1,e2,e3,_,eo,e5,_⟩:=k.obj id ob' ho (hs▸h1);rw[e5,eo,← e3];exact h2 ob e1 (e2.trans hs)
 | .yld id s,v,h=>by
  simp only[RV]at h ⊢;obtain ⟨h1,h0,h2⟩:=h;refine ⟨Nat.lt_of_lt_of_le h1 k.nx,h0,fun ob' ho hs=>?_⟩;obtain ⟨ob,e1,e2,e3,_,eo,e5,_⟩:=k.obj id ob' ho (hs▸h1);rw[e5];exact h2 ob e1 (e2.trans hs)
 | .mref id s,v,h=>by
  simp only[RV]at h ⊢;obtain ⟨h1,h0,h2⟩:=h;refine ⟨Nat.lt_of_lt_of_le h1 k.nx,h0,fun ob' ho hs=>?_⟩;obtain ⟨ob,e1,e2,e3,_,eo,e5,_⟩:=k.obj id ob' ho (hs▸h1);rw[e5];exact h2 ob e1 (e2.trans hs)
 | .lp _,_,_=>by simp only[RV]
 | .dead,_,_=>by simp only[RV]
theorem RL.keepH {M M':MM} (k:KeepH M M'):∀ (xs:List AV) (vs:List Value),RL M xs vs→RL M' xs vs
 | [],_,h=>by simpa only [RL] using h
 | c::cs,vs,h=>by
  simp only[RL]at h ⊢;obtain ⟨v,vs',h1,h2,h3⟩:=h;exact ⟨v,vs',h1,RV.keepH k c v h2,RL.keepH k cs vs' h3⟩
end
theorem RV.keep {M M':MM} (k:Keep M M') (x:AV) (v:Value) (h:RV M x v):RV M' x v:=RV.keepH k.h x v h
theorem RL.keep {M M':MM} (k:Keep M M') (xs:List AV) (vs:List Value) (h:RL M xs vs):RL M' xs vs:=RL.keepH k.h xs vs h
theorem RL.length {M:MM}:∀ {xs:List AV} {vs:List Value},RL M xs vs→vs.length=xs.length
 | [],vs,h=>by simp only[RL]at h;rw[h];rfl
 | c::cs,vs,h=>by
  simp only[RL]at h;obtain ⟨v,vs',rfl,_,h3⟩:=h;simp[RL.length h3]
theorem RL.get {M:MM}:∀ {xs:List AV} {vs:List Value},RL M xs vs→∀ (i:Nat) (x:AV),xs[i]? = some x→∃ v,vs[i]? = some v∧RV M x v
 | [],_,_,i,x,hx=>by simp at hx
 | c::cs,vs,h,i,x,hx=>by
  simp only[RL]at h;obtain ⟨v,vs',rfl,h2,h3⟩:=h;cases i with
  | zero=>simp at hx;subst hx;exact ⟨v,by simp,h2⟩
  | succ i=>simp at hx;obtain ⟨u,h4,h5⟩:=RL.get h3 i x hx;exact ⟨u,by simpa using h4,h5⟩
theorem RL.of_get {M:MM}:∀ {xs:List AV} {vs:List Value},vs.length=xs.length→(∀ (i:Nat) (x:AV) (v:Value),xs[i]? = some x→vs[i]? = some v→RV M x v)→RL M xs vs
 | [],vs,hl,_=>by simp only[RL];exact List.eq_nil_of_length_eq_zero (by simpa using hl)
 | c::cs,vs,hl,h=>by
  simp only[RL];cases vs with
  | nil=>simp at hl
  | cons v vs=>exact ⟨v,vs,rfl,h 0 c v (by simp) (by simp),RL.of_get (by simpa using hl) (fun i x u hx hu=>h (i+1) x u (by simpa using hx) (by simpa using hu))⟩
theorem RL.append {M:MM}:∀ {xs ys:List AV} {vs us:List Value},RL M xs vs→RL M ys us→RL M (xs++ys) (vs++us)
 | [],_,_,_,h,k=>by simp only[RL]at h;subst h;simpa using k
 | c::cs,_,_,_,h,k=>by
  simp only[RL]at h;obtain ⟨v,vs',rfl,h2,h3⟩:=h;simp only[List.cons_append,RL];exact ⟨v,_,rfl,h2,RL.append h3 k⟩
theorem RL.drop {M:MM} (n:Nat) {xs:List AV} {vs:List Value} (h:RL M xs vs):RL M (xs.drop n) (vs.drop n):=by
 refine RL.of_get (by simp[h.length]) fun i x v hx hv=>?_;rw[List.getElem?_drop]at hx hv;obtain ⟨u,h1,h2⟩:=h.get _ _ hx;rw[h1]at hv;cases hv;exact h2
theorem RL.take {M:MM} (n:Nat) {xs:List AV} {vs:List Value} (h:RL M xs vs):RL M (xs.take n) (vs.take n):=by
 refine RL.of_get (by simp[h.length]) fun i x v hx hv=>?_;rw[List.getElem?_take]at hx hv;split at hx
 ·rename_i hi;rw[if_pos hi]at hv;obtain ⟨u,h1,h2⟩:=h.get _ _ hx;rw[h1]at hv;cases hv;exact h2
 ·cases hx
def AV.pur:AV→Bool
 | .val _=>true
 | .imm ..=>true
 | .ip _=>true
 | _=>false
def AV.pure:AV→Bool
 | .agg cs=>cs.all AV.pur
 | .fn _ cs=>cs.all AV.pur
 | .bm _ cs=>cs.all AV.pur
 | .tup cs=>cs.all fun c=>match c with | .agg ds=>ds.all AV.pur | c=>c.pur
 | c=>c.pur
theorem RV.pur {M:MM}:∀ {x:AV},x.pur=true→∀ {v:Value},RV M x v→RV0 M.w M.I x v
 | .val _,_,_,h=>by simpa only [RV,RV0] using h
 | .imm ..,_,_,h=>by simpa only [RV] using h
 | .ip _,_,_,h=>by simpa only [RV] using h
 | .agg _,h,_,_=>by simp[AV.pur]at h
 | .fn ..,h,_,_=>by simp[AV.pur]at h
 | .bm ..,h,_,_=>by simp[AV.pur]at h
 | .tup _,h,_,_=>by simp[AV.pur]at h
 | .ref ..,h,_,_=>by simp[AV.pur]at h
 | .ptr ..,h,_,_=>by simp[AV.pur]at h
 | .yld ..,h,_,_=>by simp[AV.pur]at h
 | .mref ..,h,_,_=>by simp[AV.pur]at h
 | .lp _,h,_,_=>by simp[AV.pur]at h
 | .dead,h,_,_=>by simp[AV.pur]at h
theorem RL.pur {M:MM}:∀ {xs:List AV},xs.all AV.pur=true→∀ {vs:List Value},RL M xs vs→RL0 M.w M.I xs vs
 | [],_,_,h=>by simpa only [RL,RL0] using h
 | c::cs,hp,vs,h=>by
  simp only[List.all_cons,Bool.and_eq_true]at hp;simp only[RL]at h;obtain ⟨v,vs',rfl,h2,h3⟩:=h;simp only[RL0];exact ⟨v,vs',rfl,RV.pur hp.1 h2,RL.pur hp.2 h3⟩
theorem RV.pure1 {M:MM} {x:AV} (hp:(match x with | .agg ds=>ds.all AV.pur | c=>c.pur)=true) {v:Value} (h:RV M x v):RV0 M.w M.I x v:=by
 split at hp
 ·simp only[RV]at h;obtain ⟨vs,h1,h2⟩:=h;simp only[RV0];exact ⟨vs,h1,RL.pur hp h2⟩
 ·exact RV.pur hp h
theorem RL.pure1 {M:MM}:∀ {xs:List AV},(xs.all fun c=>match c with | .agg ds=>ds.all AV.pur | c=>c.pur)=true→∀ {vs:List Value},RL M xs vs→RL0 M.w M.I xs vs
 | [],_,_,h=>by simpa only [RL,RL0] using h
 | c::cs,hp,vs,h=>by
  simp only[List.all_cons,Bool.and_eq_true]at hp;simp only[RL]at h;obtain ⟨v,vs',rfl,h2,h3⟩:=h;simp only[RL0];exact ⟨v,vs',rfl,RV.pure1 hp.1 h2,RL.pure1 hp.2 h3⟩
theorem RV.pure {M:MM}:∀ {x:AV},x.pure=true→∀ {v:Value},RV M x v→RV0 M.w M.I x v
 | .agg cs,hp,v,h=>by simp only[RV]at h;obtain ⟨vs,h1,h2⟩:=h;simp only[RV0];exact ⟨vs,h1,RL.pur hp h2⟩
 | .fn f cs,hp,v,h=>by simp only[RV]at h;obtain ⟨vs,h1,h2⟩:=h;simp only[RV0];exact ⟨vs,h1,RL.pur hp h2⟩
 | .bm f cs,hp,v,h=>by simp only[RV]at h;obtain ⟨vs,h1,h2⟩:=h;simp only[RV0];exact ⟨vs,h1,RL.pur hp h2⟩
 | .tup cs,hp,v,h=>by simp only[RV]at h;obtain ⟨vs,h1,h2⟩:=h;simp only[RV0];exact ⟨vs,h1,RL.pure1 hp h2⟩
 | .val _,hp,_,h=>RV.pur (by simpa only [AV.pure] using hp) h
 | .imm ..,hp,_,h=>RV.pur (by simpa only [AV.pure] using hp) h
 | .ip _,hp,_,h=>RV.pur (by simpa only [AV.pure] using hp) h
 | .ref ..,hp,_,h=>RV.pur (by simpa only [AV.pure] using hp) h
 | .ptr ..,hp,_,h=>RV.pur (by simpa only [AV.pure] using hp) h
 | .yld ..,hp,_,h=>RV.pur (by simpa only [AV.pure] using hp) h
 | .mref ..,hp,_,h=>RV.pur (by simpa only [AV.pure] using hp) h
 | .lp _,hp,_,h=>RV.pur (by simpa only [AV.pure] using hp) h
 | .dead,hp,_,h=>RV.pur (by simpa only [AV.pure] using hp) h
mutual
theorem RV.of0 {M:MM}:∀ {x:AV} {v:Value},RV0 M.w M.I x v→RV M x v
 | .val _,_,h=>by simpa only [RV,RV0] using h
 | .imm ..,_,h=>by simpa only [RV] using h
 | .ip _,_,h=>by simpa only [RV] using h
 | .agg cs,v,h=>by simp only[RV0]at h;obtain ⟨vs,h1,h2⟩:=h;simp only[RV];exact ⟨vs,h1,RL.of0 h2⟩
 | .fn f cs,v,h=>by simp only[RV0]at h;obtain ⟨vs,h1,h2⟩:=h;simp only[RV];exact ⟨vs,h1,RL.of0 h2⟩
 | .bm f cs,v,h=>by simp only[RV0]at h;obtain ⟨vs,h1,h2⟩:=h;simp only[RV];exact ⟨vs,h1,RL.of0 h2⟩
 | .tup cs,v,h=>by simp only[RV0]at h;obtain ⟨vs,h1,h2⟩:=h;simp only[RV];exact ⟨vs,h1,RL.of0 h2⟩
 | .ref ..,_,h=>by simp only[RV0]at h
 | .ptr ..,_,h=>by simp only[RV0]at h
 | .yld ..,_,h=>by simp only[RV0]at h
 | .mref ..,_,h=>by simp only[RV0]at h
 | .lp _,_,_=>by simp only[RV]
 | .dead,_,_=>by simp only[RV]
theorem RL.of0 {M:MM}:∀ {xs:List AV} {vs:List Value},RL0 M.w M.I xs vs→RL M xs vs
 | [],_,h=>by simpa only [RL,RL0] using h
 | c::cs,vs,h=>by
  simp only[RL0]at h;obtain ⟨v,vs',h1,h2,h3⟩:=h;simp only[RL];exact ⟨v,vs',h1,RV.of0 h2,RL.of0 h3⟩
end
def FrOK (fr:Nat × Nat) (n:Nat):Prop:=fr.2=0∨n≤fr.1
theorem FrOK.none (n:Nat):FrOK (0,0) n:=.inl rfl
def Cont (w:World) (g:Nat) (ob:VObj) (cur:Array Value):Prop :=
 if ob.sz=0 then
  match ob.cs with
  | .lp r::xs=>w.heap[g]? = some (.loop r)∧cur = #[undef]++r.tmps∧xs.length=r.tmps.size
  | cs=>∃ es clock,w.heap[g]? = some (.map es clock)∧cur.toList=es.toList.flatMap (fun e=>[e.key,e.val])∧cs.length=cur.size
 else ∃ fr,w.heap[g]? = some (.cells cur ob.ty fr)∧FrOK fr cur.size
theorem Cont.same {w w':World} {g:Nat} {ob:VObj} {cur:Array Value} (h:Cont w g ob cur) (hg:w'.heap[g]? = w.heap[g]?):Cont w' g ob cur:=by
 unfold Cont at h ⊢;rw[hg];exact h
theorem Cont.cells {w:World} {g:Nat} {ob:VObj} {cur:Array Value} (h:Cont w g ob cur) (hz:ob.sz≠0):∃ fr,w.heap[g]? = some (.cells cur ob.ty fr)∧FrOK fr cur.size:=by
 unfold Cont at h;rw[if_neg hz]at h;exact h
theorem Cont.of {w:World} {g:Nat} {ob:VObj} {cur:Array Value} {fr:Nat × Nat} (hz:ob.sz≠0) (h:w.heap[g]? = some (.cells cur ob.ty fr)) (hf:FrOK fr cur.size):Cont w g ob cur:=by
 unfold Cont;rw[if_neg hz];exact ⟨fr,h,hf⟩
theorem Cont.lt {w:World} {g:Nat} {ob:VObj} {cur:Array Value} (h:Cont w g ob cur):g<w.heap.size:=by
 unfold Cont at h;split at h
 ·split at h
  ·exact (Array.getElem?_eq_some_iff.1 h.1).1
  ·obtain ⟨es,ck,h,_⟩:=h;exact (Array.getElem?_eq_some_iff.1 h).1
 ·obtain ⟨fr,h,_⟩:=h;exact (Array.getElem?_eq_some_iff.1 h).1
theorem Cont.cs {w:World} {g:Nat} {ob ob':VObj} {cur:Array Value} (h:Cont w g ob cur) (hz:ob.sz≠0) (h1:ob'.sz≠0) (h2:ob'.ty=ob.ty):Cont w g ob' cur:=by
 rw[Cont,if_neg h1,h2];exact h.cells hz
theorem Cont.alike {w:World} {g:Nat} {ob ob':VObj} {cur:Array Value} (h:Cont w g ob cur) (h1:ob'.sz=ob.sz) (h2:ob'.ty=ob.ty) (h3:ob'.sz=0→ob'.cs=ob.cs):Cont w g ob' cur:=by
 unfold Cont at h ⊢;split
 ·rename_i hz;rw[if_pos (by rw[← h1];exact hz)]at h;rw[h3 hz];exact h
 ·rename_i hz;rw[if_neg (by rw[← h1];exact hz)]at h;rw[h2];exact h
structure RH (M:MM):Prop where
 below:Below M.w0.heap.size M.w0 M.w
 i0:∀ b,M.I0 b→b<M.w0.heap.size
 len:M.m.length=M.H.length
 inj:∀ i j g,M.m.getD i none=some g→M.m.getD j none=some g→i=j
 own:∀ id ob,M.H[id]? = some ob→ob.s<M.nx ∧
  match M.m.getD id none with
  | none=>ob.cs=[]
  | some g=>M.w0.heap.size≤g∧∃ cur:Array Value,Cont M.w g ob cur∧M.o id+ob.cs.length≤cur.size∧∀ (j:Nat) (x:AV) (v:Value),ob.cs[j]? = some x→cur[M.o id+j]? = some v→RV M x v
theorem RH.lt {M:MM} (h:RH M) {id g:Nat} (hm:M.m.getD id none=some g):M.w0.heap.size≤g∧g<M.w.heap.size∧∃ ob,M.H[id]? = some ob:=by
 have hid:id<M.m.length:=by
  rcases Nat.lt_or_ge id M.m.length with h' | h'
  ·exact h'
  ·simp[List.getElem?_eq_none h']at hm
 have hid':id<M.H.length:=h.len▸hid;have ho:M.H[id]? = some M.H[id]:=List.getElem?_eq_getElem hid';have:=(h.own id _ ho).2;rw[hm]at this;obtain ⟨h1,cur,h2,_⟩:=this;exact ⟨h1,h2.lt,_,ho⟩
theorem RH.ilt {M:MM} (h:RH M) {b:Nat} (hb:M.I b):b<M.w.heap.size:=by
 rcases hb.1 with h1 | h1
 ·exact Nat.lt_of_lt_of_le (h.i0 b h1) h.below.size
 ·exact h1.2
end Go.V
