/- The engine, part 7b: regions whose order is open: which orders serve for all. No condition. -/
import Derived.Test.YtkbhfokbhkmfgaaGreatUA
import Derived.StillTail
set_option linter.unusedVariables false
set_option linter.unusedSimpArgs false
namespace Go.V
open Go.RowKit
def K.opnds:K→List Operand
 | .mv x=>[x]
 | .pick c a b=>[c,a,b]
 | .ld _ _ x=>[x]
 | .sto _ _ x y=>[x,y]
 | .idx _ x i=>[x,i]
 | .aidx _ _ _ x i=>[x,i]
 | .fad _ _ _ x=>[x]
 | .fld _ _ _ x=>[x]
 | .len x=>[x]
 | .lens x=>[x]
 | .bin _ x y=>[x,y]
 | .beq _ x y=>[x,y]
 | .un _ x=>[x]
 | .conv _ x=>[x]
 | .sl _ x lo hi=>x::(lo.toList++hi.toList)
 | .sls x lo hi=>x::(lo.toList++hi.toList)
 | .mk _ _ _ _ n c=>[n,c]
 | .app _ _ _ x y=>[x,y]
 | .bsl _ _ _ _ ps=>ps.map fun p=>p.2.2
 | .bld _ ps=>ps.map fun p=>p.2.2
 | .box _ x=>[x]
 | .alc _ _=>[]
 | .mkf _ cs=>cs
 | .mkb _ cs=>cs
 | .nck x=>[x]
 | .ext x _=>[x]
 | .call f args=>f::args
 | .callA f args=>f::args
 | .callM _ f args=>f::args
 | .pur _ xs=>xs
 | .see _ xs=>xs
 | .eff _ xs=>xs
 | .ycal f args=>f::args
def K.cls:K→Nat
 | .idx ..=>1
 | .aidx ..=>1
 | .fad ..=>1
 | .len ..=>1
 | .sl ..=>1
 | .nck ..=>1
 | .ld ..=>2
 | .sto ..=>3
 | .mk ..=>3
 | .app ..=>3
 | .bsl ..=>3
 | .box ..=>3
 | .alc ..=>3
 | .call ..=>0
 | .see ..=>2
 | .eff ..=>3
 | .ycal ..=>3
 | _=>0
def Stab (A:Nat→Prop):Nat→List VObj→List VObj→Prop
 | 0,_,_=>True
 | 1,H,H'=>∀ (id:Nat) (ob:VObj),A id→H[id]? = some ob→∃ ob',H'[id]? = some ob'∧ob'.s=ob.s∧ob'.sz=ob.sz
 | _,H,H'=>∀ (id:Nat) (ob:VObj),A id→H[id]? = some ob→H'[id]? = some ob
theorem Stab.refl (A:Nat→Prop) (n:Nat) (H:List VObj):Stab A n H H:=by
 match n with
 | 0=>trivial
 | 1=>exact fun id ob _ h=>⟨ob,h,rfl,rfl⟩
 | n+2=>exact fun id ob _ h=>h
def Old (fm:Bool) (b:Nat) (id:Nat):Prop:=fm=false∨id<b
def a8g (A:Nat→Prop):AV→Prop
 | .ptr id _ _=>A id
 | .ref id _ _ _=>A id
 | .mref id _=>A id
 | _=>True
def b7M (A:Nat→Prop):List AV→Prop
 | []=>True
 | x::xs=>a8g A x∧b7M A xs
def EOp.adds:EOp→Bool
 | .s2b _=>true
 | .mkm=>true
 | _=>false
def K.xtra (fm:Bool) (b:Nat) (ρ:Operand→AV):K→Prop
 | .idx _ x _=>a8g (Old fm b) (ρ x)
 | .aidx _ _ _ x _=>a8g (Old fm b) (ρ x)
 | .fad _ _ _ x=>a8g (Old fm b) (ρ x)
 | .len x=>a8g (Old fm b) (ρ x)
 | .sl _ x _ _=>a8g (Old fm b) (ρ x)
 | .nck x=>a8g (Old fm b) (ρ x)
 | .ld _ _ x=>a8g (Old fm b) (ρ x)
 | .app _ _ _ x _=>fm=false∨a8g (fun id=>b≤id) (ρ x)
 | .sto _ _ x _=>fm=false∨a8g (fun id=>b≤id) (ρ x)
 | .see _ xs=>b7M (Old fm b) (evs ρ xs)
 | .eff op _=>op.adds=true∨fm=false
 | .ycal ..=>False
 | _=>True
section
variable {P:Program}
theorem a1y {ρ ρ':Operand→AV}:∀ (xs:List Operand),(∀ x ∈ xs,ρ x=ρ' x)→evs ρ xs=evs ρ' xs
 | [],_=>rfl
 | x::xs,h=>by simp only[evs];rw[h x (by simp),a1y xs (fun y hy=>h y (by simp[hy]))]
theorem a5y {ρ ρ':Operand→AV}:∀ (ps:List (Nat × Nat × Operand)),(∀ x ∈ ps.map (fun p=>p.2.2),ρ x=ρ' x)→a1i ρ ps=a1i ρ' ps
 | [],_=>rfl
 | (off,size,x)::ps,h=>by simp only[a1i];rw[h x (by simp),a5y ps (fun y hy=>h y (by simp at hy ⊢;exact .inr hy))]
theorem a3P {ρ ρ':Operand→AV} (d:Int):∀ (x:Option Operand),(∀ y ∈ x.toList,ρ y=ρ' y)→a0V ρ d x=a0V ρ' d x
 | none,_=>rfl
 | some x,h=>by simp only[a0V];rw[h x (by simp)]
theorem c3c {ρ ρ':Operand→AV} {H:List VObj} {nx:Nat} {C:AV→List VObj→Nat→Prop} (k:K) (h:∀ x ∈ k.opnds,ρ x=ρ' x):k.wp P ρ H nx C=k.wp P ρ' H nx C:=by
 cases k with
 | sl sz x lo hi =>
  have h1:=h x (by simp[K.opnds]);have h2:=fun d=>a3P (ρ:=ρ) (ρ':=ρ') d lo (fun y hy=>h y (by simp[K.opnds]at hy ⊢;exact .inr (.inl hy)));have h3:=fun d=>a3P (ρ:=ρ) (ρ':=ρ') d hi (fun y hy=>h y (by simp[K.opnds]at hy ⊢;exact .inr (.inr hy)));simp only[K.wp,h1,h2,h3]
 | sls x lo hi =>
  have h1:=h x (by simp[K.opnds]);have h2:=fun d=>a3P (ρ:=ρ) (ρ':=ρ') d lo (fun y hy=>h y (by simp[K.opnds]at hy ⊢;exact .inr (.inl hy)));have h3:=fun d=>a3P (ρ:=ρ) (ρ':=ρ') d hi (fun y hy=>h y (by simp[K.opnds]at hy ⊢;exact .inr (.inr hy)));simp only[K.wp,h1,h2,h3]
 | bsl ty sz n z ps=>simp only[K.wp,a5y ps (fun y hy=>h y hy)]
 | bld z ps=>simp only[K.wp,a5y ps (fun y hy=>h y hy)]
 | mkf f cs=>simp only[K.wp,a1y cs (fun y hy=>h y hy)]
 | mkb f cs=>simp only[K.wp,a1y cs (fun y hy=>h y hy)]
 | call f args =>
  have h1:=h f (by simp[K.opnds]);simp only[K.wp,h1,a1y args (fun y hy=>h y (by simp[K.opnds,hy]))]
 | callM st f args =>
  have h1:=h f (by simp[K.opnds]);simp only[K.wp,h1,a1y args (fun y hy=>h y (by simp[K.opnds,hy]))]
 | callA f args =>
  have h1:=h f (by simp[K.opnds]);simp only[K.wp,h1,a1y args (fun y hy=>h y (by simp[K.opnds,hy]))]
 | alc=>rfl
 | pick c a b=>simp only[K.wp,h c (by simp[K.opnds]),h a (by simp[K.opnds]),h b (by simp[K.opnds])]
 | mv x=>simp only[K.wp,h x (by simp[K.opnds])]
 | ld ag n x=>simp only[K.wp,h x (by simp[K.opnds])]
 | sto ag n x y=>simp only[K.wp,h x (by simp[K.opnds]),h y (by simp[K.opnds])]
 | idx sz x i=>simp only[K.wp,h x (by simp[K.opnds]),h i (by simp[K.opnds])]
 | aidx n0 ag sz x i=>simp only[K.wp,h x (by simp[K.opnds]),h i (by simp[K.opnds])]
 | fad off ag n x=>simp only[K.wp,h x (by simp[K.opnds])]
 | fld off ag n x=>simp only[K.wp,h x (by simp[K.opnds])]
 | len x=>simp only[K.wp,h x (by simp[K.opnds])]
 | lens x=>simp only[K.wp,h x (by simp[K.opnds])]
 | bin op x y=>simp only[K.wp,h x (by simp[K.opnds]),h y (by simp[K.opnds])]
 | beq neg x y=>simp only[K.wp,h x (by simp[K.opnds]),h y (by simp[K.opnds])]
 | un op x=>simp only[K.wp,h x (by simp[K.opnds])]
 | conv k x=>simp only[K.wp,h x (by simp[K.opnds])]
 | mk ty sz bytes z n c=>simp only[K.wp,h n (by simp[K.opnds]),h c (by simp[K.opnds])]
 | app ty sz bytes x y=>simp only[K.wp,h x (by simp[K.opnds]),h y (by simp[K.opnds])]
 | box ty x=>simp only[K.wp,h x (by simp[K.opnds])]
 | nck x=>simp only[K.wp,h x (by simp[K.opnds])]
 | ext x i=>simp only[K.wp,h x (by simp[K.opnds])]
 | pur op xs=>simp only[K.wp,a1y xs (fun y hy=>h y hy)]
 | see op xs=>simp only[K.wp,a1y xs (fun y hy=>h y hy)]
 | eff op xs=>simp only[K.wp,a1y xs (fun y hy=>h y hy)]
 | ycal f args =>
  have h1:=h f (by simp[K.opnds]);simp only[K.wp,h1,a1y args (fun y hy=>h y (by simp[K.opnds,hy]))]
theorem c5g:∀ (ks:List LK) (xs ys:List AV) (acc:Bool) (C:Bool→Prop),eqW ks xs ys acc C→∃ b,C b∧∀ C':Bool→Prop,C' b→eqW ks xs ys acc C':=by
 intro ks xs ys acc C
 fun_induction eqW ks xs ys acc C with
 | case1 acc C=>exact fun h=>⟨acc,h,fun C' h'=>by simpa only [eqW] using h'⟩
 | case2 ks k a xs k' b ys acc C ih =>
  intro h;obtain ⟨q,h1,h2⟩:=ih h.2;exact ⟨q,h1,fun C' h'=>by simp only[eqW];exact ⟨h.1,h2 C' h'⟩⟩
 | case3 ks a xs b ys acc C ih =>
  intro h;obtain ⟨q,h1,h2⟩:=ih h;exact ⟨q,h1,fun C' h'=>by simp only[eqW];exact h2 C' h'⟩
 | case4 ks a xs b ys acc C ih =>
  intro h;obtain ⟨q,h1,h2⟩:=ih h;exact ⟨q,h1,fun C' h'=>by simp only[eqW];exact h2 C' h'⟩
 | case5=>exact fun h=>h.elim
theorem POp.go_one {op:POp} {args:List AV} {C:AV→Prop} (h:op.go args C):∃ r,C r∧∀ C':AV→Prop,C' r→op.go args C':=by
 unfold POp.go at h;split at h
 ·exact ⟨_,h.2.2,fun C' h'=>by simp only[POp.go];exact ⟨h.1,h.2.1,h'⟩⟩
 ·exact ⟨_,h.2.2.2,fun C' h'=>by simp only[POp.go];exact ⟨h.1,h.2.1,h.2.2.1,h'⟩⟩
 ·obtain ⟨b,h1,h2⟩:=c5g _ _ _ _ _ h;exact ⟨_,h1,fun C' h'=>by simp only[POp.go];exact h2 _ h'⟩
 ·exact ⟨_,h,fun C' h'=>by simp only[POp.go];exact h'⟩
 ·exact ⟨_,h,fun C' h'=>by simp only[POp.go];exact h'⟩
 ·exact ⟨_,h,fun C' h'=>by simp only[POp.go];exact h'⟩
 ·exact ⟨_,h,fun C' h'=>by simp only[POp.go];exact h'⟩
 ·exact ⟨_,h,fun C' h'=>by simp only[POp.go];exact h'⟩
 ·exact ⟨_,h.2,fun C' h'=>by simp only[POp.go];exact ⟨h.1,h'⟩⟩
 ·exact ⟨_,h,fun C' h'=>by simp only[POp.go];exact h'⟩
 ·exact h.elim
theorem b6d (k:Value):∀ (cs:List AV) (C:Option AV→Prop),a7W k cs C→∃ r,C r∧∀ C':Option AV→Prop,C' r→a7W k cs C'
 | [],C,h=>⟨none,by simpa only [a7W] using h,fun C' h'=>by simpa only [a7W] using h'⟩
 | [c],C,h=>by cases c<;>simp[a7W]at h
 | c::v::l,C,h=>by
  cases c<;>try (simp[a7W]at h;done)
  rename_i k';simp only[a7W]at h ⊢;cases k<;>try (exact h.elim)
  cases k'<;>try (exact h.elim)
  rename_i i a j b;obtain ⟨h0,h1,h2⟩:=h;by_cases e:a=b
  ·exact ⟨_,h1 e,fun C' h'=>⟨h0,fun _=>h',fun e'=>absurd e e'⟩⟩
  ·obtain ⟨q,g1,g2⟩:=b6d (.int i a) l C (h2 e);exact ⟨q,g1,fun C' h'=>⟨h0,fun e'=>absurd e' e,fun _=>g2 C' h'⟩⟩
theorem SOp.go_one {fm:Bool} {b:Nat} {op:SOp} {args:List AV} {H:List VObj} {C:AV→Prop} (hA:b7M (Old fm b) args) (h:op.go H args C):∃ r,C r∧∀ (C':AV→Prop) (H':List VObj),Stab (Old fm b) 2 H H'→C' r→op.go H' args C':=by
 unfold SOp.go at h;split at h
 ·exact ⟨_,h,fun C' H' _ h'=>by simp only[SOp.go];exact h'⟩
 ·obtain ⟨h0,h⟩:=h;split at h
  ·rename_i e;exact ⟨_,h,fun C' H' _ h'=>by simp only[SOp.go,e];exact ⟨h0,h'⟩⟩
  ·exact h.elim
 ·simp only[b7M,a8g,and_true]at hA;split at h
  ·rename_i ob hob;obtain ⟨h0,h1,h⟩:=h;split at h
   ·rename_i e;refine ⟨_,h,fun C' H' hs h'=>?_⟩;have:=hs _ ob hA hob;simp only[SOp.go,this,e];exact ⟨h0,h1,h'⟩
   ·exact h.elim
  ·exact h.elim
 ·simp only[b7M,a8g,and_true]at hA;split at h
  ·rename_i ob hob;obtain ⟨h0,h1,h⟩:=h;obtain ⟨q,g1,g2⟩:=b6d _ _ _ h;refine ⟨_,g1,fun C' H' hs h'=>?_⟩;have:=hs _ ob hA hob;simp only[SOp.go,this];exact ⟨h0,h1,g2 _ h'⟩
  ·exact h.elim
 ·simp only[b7M,a8g,and_true]at hA;split at h
  ·rename_i ob hob;refine ⟨_,h.2.2.2,fun C' H' hs h'=>?_⟩;have:=hs _ ob hA hob;simp only[SOp.go,this];exact ⟨h.1,h.2.1,h.2.2.1,h'⟩
  ·exact h.elim
 ·exact h.elim
theorem b4f {fm:Bool} {b:Nat} {k:K} (hq:k.quiet=true) {ρ:Operand→AV} {H:List VObj} {nx:Nat} {C:AV→List VObj→Nat→Prop} (hA:k.xtra fm b ρ) (h:k.wp P ρ H nx C) :
 ∃ r,C r H nx∧∀ (nx':Nat) (C':AV→List VObj→Nat→Prop) (H':List VObj),Stab (Old fm b) k.cls H H'→C' r H' nx'→k.wp P ρ H' nx' C':=by
 cases k with
 | mv x=>exact ⟨_,h,fun _ _ _ _ h=>h⟩
 | pick c a b =>
  simp only[K.wp]at h ⊢;split at h
  ·rename_i t ht;cases t with
   | true=>exact ⟨_,h.1 rfl,fun nx' C' H' _ hc=>⟨fun _=>hc,fun e=>by cases e⟩⟩
   | false=>exact ⟨_,h.2 rfl,fun nx' C' H' _ hc=>⟨fun e=>(by cases e),fun _=>hc⟩⟩
  ·exact h.elim
 | ld ag n x =>
  simp only[K.wp]at h ⊢;split at h
  ·exact ⟨_,h.2,fun nx' C' H' _ hc=>⟨h.1,hc⟩⟩
  ·rename_i hx;simp only[K.xtra,hx,a8g]at hA;split at h
   ·rename_i ob hob;refine ⟨_,h.2.2,fun nx' C' H' hs hc=>?_⟩;have:=hs _ ob hA hob;simp only[this];exact ⟨h.1,h.2.1,hc⟩
   ·exact h.elim
  ·exact h.elim
 | idx sz x i =>
  simp only[K.wp]at h ⊢;split at h
  ·exact ⟨_,h.2.2.2,fun nx' C' H' _ hc=>⟨h.1,h.2.1,h.2.2.1,hc⟩⟩
  ·simp only[K.xtra, *,a8g]at hA;split at h
   ·rename_i ob hob;refine ⟨_,h.2.2.2.2,fun nx' C' H' hs hc=>?_⟩;obtain ⟨ob',e1,e2,e3⟩:=hs _ ob hA hob;simp only[e1];exact ⟨e2.trans h.1,e3.trans h.2.1,h.2.2.1,h.2.2.2.1,hc⟩
   ·exact h.elim
  ·exact h.elim
 | aidx n0 ag sz x i =>
  simp only[K.wp]at h ⊢;split at h
  ·exact ⟨_,h.2.2.2,fun nx' C' H' _ hc=>⟨h.1,h.2.1,h.2.2.1,hc⟩⟩
  ·simp only[K.xtra, *,a8g]at hA;split at h
   ·rename_i ob hob;refine ⟨_,h.2.2.2,fun nx' C' H' hs hc=>?_⟩;obtain ⟨ob',e1,e2,e3⟩:=hs _ ob hA hob;simp only[e1];exact ⟨e2.trans h.1,h.2.1,h.2.2.1,hc⟩
   ·exact h.elim
  ·exact h.elim
 | fad off ag n x =>
  simp only[K.wp]at h ⊢;split at h
  ·exact ⟨_,h.2,fun nx' C' H' _ hc=>⟨h.1,hc⟩⟩
  ·simp only[K.xtra, *,a8g]at hA;split at h
   ·rename_i ob hob;refine ⟨_,h.2,fun nx' C' H' hs hc=>?_⟩;obtain ⟨ob',e1,e2,e3⟩:=hs _ ob hA hob;simp only[e1];exact ⟨e2.trans h.1,hc⟩
   ·exact h.elim
  ·exact h.elim
 | fld off ag n x =>
  simp only[K.wp]at h ⊢;split at h
  ·exact ⟨_,h.2,fun nx' C' H' _ hc=>⟨h.1,hc⟩⟩
  ·exact h.elim
 | len x =>
  simp only[K.wp]at h ⊢;split at h
  ·exact ⟨_,h,fun nx' C' H' _ hc=>hc⟩
  ·simp only[K.xtra, *,a8g]at hA;split at h
   ·rename_i ob hob;refine ⟨_,h.2,fun nx' C' H' hs hc=>?_⟩;obtain ⟨ob',e1,e2,e3⟩:=hs _ ob hA hob;simp only[e1];exact ⟨e2.trans h.1,hc⟩
   ·exact h.elim
  ·exact ⟨_,h,fun nx' C' H' _ hc=>hc⟩
  ·exact h.elim
 | lens x =>
  simp only[K.wp]at h ⊢;split at h
  ·exact ⟨_,h,fun nx' C' H' _ hc=>hc⟩
  ·exact h.elim
 | bin op x y =>
  simp only[K.wp]at h ⊢;split at h
  ·exact ⟨_,h.2,fun nx' C' H' _ hc=>⟨h.1,hc⟩⟩
  ·exact h.elim
 | beq neg x y =>
  simp only[K.wp]at h ⊢;split at h
  ·exact ⟨_,h,fun nx' C' H' _ hc=>hc⟩
  ·exact h.elim
 | un op x =>
  simp only[K.wp]at h ⊢;split at h
  ·exact ⟨_,h.2,fun nx' C' H' _ hc=>⟨h.1,hc⟩⟩
  ·exact h.elim
 | conv k x =>
  simp only[K.wp]at h ⊢;split at h
  ·exact ⟨_,h,fun nx' C' H' _ hc=>hc⟩
  ·exact h.elim
 | sl sz x lo hi =>
  simp only[K.wp]at h ⊢;split at h
  ·split at h
   ·exact ⟨_,h.2.2.2.2,fun nx' C' H' _ hc=>⟨h.1,h.2.1,h.2.2.1,h.2.2.2.1,hc⟩⟩
   ·exact h.elim
  ·simp only[K.xtra, *,a8g]at hA;split at h
   ·rename_i ob hob;split at h
    ·rename_i l hh h2 h3;refine ⟨_,h.2.2.2.2.2,fun nx' C' H' hs hc=>?_⟩;obtain ⟨ob',e1,e2,e3⟩:=hs _ ob hA hob;simp only[e1];exact ⟨e2.trans h.1,e3.trans h.2.1,h.2.2.1,h.2.2.2.1,h.2.2.2.2.1,hc⟩
    ·exact h.elim
   ·exact h.elim
  ·split at h
   ·exact ⟨_,h.2.2,fun nx' C' H' _ hc=>⟨h.1,h.2.1,hc⟩⟩
   ·exact h.elim
  ·exact h.elim
 | sls x lo hi =>
  simp only[K.wp]at h ⊢;split at h
  ·split at h
   ·exact ⟨_,h.2.2.2,fun nx' C' H' _ hc=>⟨h.1,h.2.1,h.2.2.1,hc⟩⟩
   ·exact h.elim
  ·exact h.elim
 | bld z ps=>simp only[K.wp]at h ⊢;exact ⟨_,h.2,fun nx' C' H' _ hc=>⟨h.1,hc⟩⟩
 | mkf f cs=>exact ⟨_,h,fun _ _ _ _ h=>h⟩
 | mkb f cs=>exact ⟨_,h,fun _ _ _ _ h=>h⟩
 | nck x =>
  simp only[K.wp]at h ⊢;split at h
  ·exact ⟨_,h,fun nx' C' H' _ hc=>hc⟩
  ·simp only[K.xtra, *,a8g]at hA;split at h
   ·rename_i ob hob;refine ⟨_,h.2,fun nx' C' H' hs hc=>?_⟩;obtain ⟨ob',e1,e2,e3⟩:=hs _ ob hA hob;simp only[e1];exact ⟨e2.trans h.1,hc⟩
   ·exact h.elim
  ·exact ⟨_,h,fun nx' C' H' _ hc=>hc⟩
  ·exact ⟨_,h,fun nx' C' H' _ hc=>hc⟩
  ·exact h.elim
 | ext x i =>
  simp only[K.wp]at h ⊢;split at h
  ·exact ⟨_,h.2,fun nx' C' H' _ hc=>⟨h.1,hc⟩⟩
  ·exact h.elim
 | sto ag n x y=>simp[K.quiet]at hq
 | mk ty sz bytes z n c=>simp[K.quiet]at hq
 | app ty sz bytes x y=>simp[K.quiet]at hq
 | bsl ty sz n z ps=>simp[K.quiet]at hq
 | box ty x=>simp[K.quiet]at hq
 | alc ty z=>simp[K.quiet]at hq
 | call f args=>simp[K.quiet]at hq
 | callA f args=>simp[K.quiet]at hq
 | callM st f args=>simp[K.quiet]at hq
 | eff op xs=>simp[K.quiet]at hq
 | ycal f args=>simp[K.quiet]at hq
 | pur op xs =>
  simp only[K.wp]at h ⊢;obtain ⟨r,h1,h2⟩:=POp.go_one h;exact ⟨r,h1,fun nx' C' H' _ hc=>h2 _ hc⟩
 | see op xs =>
  simp only[K.wp]at h ⊢;obtain ⟨r,h1,h2⟩:=SOp.go_one hA h;exact ⟨r,h1,fun nx' C' H' hs hc=>h2 _ H' hs hc⟩
def c1c (fm:Bool) (b:Nat) (id:Nat):Prop:=fm=true∧id<b
def ECall (P:Program) (A:Nat→Prop) (g:Nat) (args:List AV) (H:List VObj) (nx:Nat) (C:AV→List VObj→Nat→Prop):Prop :=
 ∃ r0,C r0 H nx∧∀ (H':List VObj) (nx':Nat),(∀ id ob,A id→H[id]? = some ob→H'[id]? = some ob)→∀ K:AV→List VObj→Nat→Prop,K r0 H' nx'→VCall P g args H' nx' K
theorem VCall.mono {f:Nat} {args:List AV} {H:List VObj} {nx:Nat} {C C':AV→List VObj→Nat→Prop} (h:VCall P f args H nx C) (hC:∀ r H nx,C r H nx→C' r H nx):VCall P f args H nx C' :=
 ⟨h.1,fun M vs hR hH hnx hv=>(h.2 M vs hR hH hnx hv).mono fun _ _ ⟨v,r,M',p1,p2,p3,p4,p5,p6,p7,p8⟩=>⟨v,r,M',p1,p2,p3,p4,p5,p6,p7,hC _ _ _ p8⟩⟩
def K.wpE (P:Program) (A:Nat→Prop) (ρ:Operand→AV) (H:List VObj) (nx:Nat) (C:AV→List VObj→Nat→Prop):K→Prop
 | .call f args=>match ρ f with
  | .fn g cs=>ECall P A g (evs ρ args++cs) H nx C
  | .bm g cs=>ECall P A g (cs++evs ρ args) H nx C
  | _=>False
 | .callA f args=>match ρ f with
  | .fn g cs=>VCall P g (evs ρ args++cs) H nx fun r H' nx'=>(∃ R,H'=H++R)∧C r H' nx'
  | .bm g cs=>VCall P g (cs++evs ρ args) H nx fun r H' nx'=>(∃ R,H'=H++R)∧C r H' nx'
  | _=>False
 | .callM st f args=>match ρ f with
  | .fn g cs=>VCall P g (evs ρ args++cs) H nx fun r H' nx'=>(st=true→Stab (fun _=>True) 1 H H')∧C r H' nx'
  | .bm g cs=>VCall P g (cs++evs ρ args) H nx fun r H' nx'=>(st=true→Stab (fun _=>True) 1 H H')∧C r H' nx'
  | _=>False
 | k=>k.wp P ρ H nx C
def K.wpD (P:Program) (fm:Bool) (b:Nat) (ρ:Operand→AV) (H:List VObj) (nx:Nat) (C:AV→List VObj→Nat→Prop) (k:K):Prop:=k.xtra fm b ρ∧k.wpE P (c1c fm b) ρ H nx C
theorem c4F {A:Nat→Prop} {ρ:Operand→AV} {H:List VObj} {nx:Nat} {C:AV→List VObj→Nat→Prop} {k:K} (h:k.wpE P A ρ H nx C):k.wp P ρ H nx C:=by
 cases k with
 | call f args =>
  simp only[K.wpE]at h;simp only[K.wp];split at h
  ·rename_i g cs hg;obtain ⟨r0,h1,h2⟩:=h;simp only[hg];exact h2 H nx (fun _ _ _ h=>h) C h1
  ·rename_i g cs hg;obtain ⟨r0,h1,h2⟩:=h;simp only[hg];exact h2 H nx (fun _ _ _ h=>h) C h1
  ·exact h.elim
 | callA f args =>
  simp only[K.wpE]at h;simp only[K.wp];split at h
  ·rename_i g cs hg;simp only[hg];exact VCall.mono h fun _ _ _ h=>h.2
  ·rename_i g cs hg;simp only[hg];exact VCall.mono h fun _ _ _ h=>h.2
  ·exact h.elim
 | callM st f args =>
  simp only[K.wpE]at h;simp only[K.wp];split at h
  ·rename_i g cs hg;simp only[hg];exact VCall.mono h fun _ _ _ h=>h.2
  ·rename_i g cs hg;simp only[hg];exact VCall.mono h fun _ _ _ h=>h.2
  ·exact h.elim
 | _=>exact h
theorem b2w {A:Nat→Prop} {ρ:Operand→AV} {H:List VObj} {nx:Nat} {C:AV→List VObj→Nat→Prop} {k:K} (hq:k.quiet=true):k.wpE P A ρ H nx C=k.wp P ρ H nx C:=by
 cases k with
 | call f args=>simp[K.quiet]at hq
 | callA f args=>simp[K.quiet]at hq
 | callM st f args=>simp[K.quiet]at hq
 | _=>rfl
theorem b6e {A:Nat→Prop} {ρ ρ':Operand→AV} {H:List VObj} {nx:Nat} {C:AV→List VObj→Nat→Prop} (k:K) (h:∀ x ∈ k.opnds,ρ x=ρ' x):k.wpE P A ρ H nx C=k.wpE P A ρ' H nx C:=by
 cases k with
 | call f args =>
  have h1:=h f (by simp[K.opnds]);simp only[K.wpE,h1,a1y args (fun y hy=>h y (by simp[K.opnds,hy]))]
 | callM st f args =>
  have h1:=h f (by simp[K.opnds]);simp only[K.wpE,h1,a1y args (fun y hy=>h y (by simp[K.opnds,hy]))]
 | callA f args =>
  have h1:=h f (by simp[K.opnds]);simp only[K.wpE,h1,a1y args (fun y hy=>h y (by simp[K.opnds,hy]))]
 | _=>exact c3c (P:=P) _ h
def K.calm:K→Bool
 | .call ..=>true
 | k=>k.quiet
def K.clsM (fm:Bool):K→Nat
 | .call ..=>if fm then 2 else 0
 | k=>k.cls
theorem b6f {fm:Bool} {b:Nat} {k:K} (hq:k.calm=true) {ρ:Operand→AV} {H:List VObj} {nx:Nat} {C:AV→List VObj→Nat→Prop} (hA:k.xtra fm b ρ) (h:k.wpE P (c1c fm b) ρ H nx C) :
 ∃ r,C r H nx∧∀ (nx':Nat) (C':AV→List VObj→Nat→Prop) (H':List VObj),Stab (Old fm b) (k.clsM fm) H H'→C' r H' nx'→k.wpE P (c1c fm b) ρ H' nx' C':=by
 by_cases hk:k.quiet=true
 ·rw[b2w hk]at h;obtain ⟨r,h1,h2⟩:=b4f hk hA h;have e:k.clsM fm=k.cls:=by cases k<;>first | rfl | simp[K.quiet]at hk
  exact ⟨r,h1,fun nx' C' H' hs hc=>by rw[b2w hk];exact h2 nx' C' H' (by rw[← e];exact hs) hc⟩
 ·cases k with
  | call f args =>
   simp only[K.wpE]at h ⊢;split at h
   ·obtain ⟨r0,h1,h2⟩:=h;refine ⟨r0,h1,fun nx' C' H' hs hc=>⟨r0,hc,fun H2 nx2 h3=>h2 H2 nx2 fun id ob hid ho=>h3 id ob hid ?_⟩⟩;obtain ⟨hf,hlt⟩:=hid;subst hf;exact hs id ob (.inr hlt) ho
   ·obtain ⟨r0,h1,h2⟩:=h;refine ⟨r0,h1,fun nx' C' H' hs hc=>⟨r0,hc,fun H2 nx2 h3=>h2 H2 nx2 fun id ob hid ho=>h3 id ob hid ?_⟩⟩;obtain ⟨hf,hlt⟩:=hid;subst hf;exact hs id ob (.inr hlt) ho
   ·exact h.elim
  | _=>exact absurd hq hk
theorem b4g {fm:Bool} {b:Nat} {ρ ρ':Operand→AV} (k:K) (h:∀ x ∈ k.opnds,ρ x=ρ' x):k.xtra fm b ρ=k.xtra fm b ρ':=by
 cases k
 case see op xs=>simp only[K.xtra];rw[a1y xs (fun y hy=>h y hy)]
 all_goals first | rfl | simp only[K.xtra,h _ (List.mem_cons_self)]
theorem b6g {fm:Bool} {b:Nat} {ρ ρ':Operand→AV} {H:List VObj} {nx:Nat} {C:AV→List VObj→Nat→Prop} (k:K) (h:∀ x ∈ k.opnds,ρ x=ρ' x):k.wpD P fm b ρ H nx C=k.wpD P fm b ρ' H nx C:=by
 unfold K.wpD;rw[b4g k h,b6e k h]
def K.lets (fm:Bool) (n:Nat):K→Bool
 | .sto ..=>fm || decide (n≤1)
 | .app ..=>fm || n == 0
 | .callM st _ _=>n == 0 || (st && decide (n≤1))
 | .eff op _=>decide (n≤1) || (op.adds && decide (n≤2))
 | _=>n≤2
theorem stab_set {H:List VObj} {id:Nat} {ob ob':VObj} (h:H[id]? = some ob) (hs:ob'.s=ob.s) (hz:ob'.sz=ob.sz):Stab (fun _=>True) 1 H (H.set id ob'):=fun k o _ ho=>by
 rw[List.getElem?_set];by_cases e:id=k
 ·subst e;rw[h]at ho;cases ho;rw[if_pos rfl,if_pos (List.getElem?_eq_some_iff.1 h).1];exact ⟨_,rfl,hs,hz⟩
 ·rw[if_neg e];exact ⟨o,ho,rfl,rfl⟩
theorem EOp.go_eff {op:EOp} {H:List VObj} {nx:Nat} {C C':AV→List VObj→Nat→Prop} {args:List AV} (h:op.go H nx C args)
 (hC:∀ r H' nx',(op.adds=false∧Stab (fun _=>True) 1 H H')→C r H' nx'→C' r H' nx') (hN:∀ r ob nx',op.adds=true→C r (H++[ob]) nx'→C' r (H++[ob]) nx'):op.go H nx C' args:=by
 generalize hop:op=op' at h ⊢;unfold EOp.go at h ⊢;split at h
 ·split at h
  ·rename_i ho;exact ⟨h.1,h.2.1,h.2.2.1,hC _ _ _ ⟨by subst hop;rfl,stab_set ho rfl rfl⟩ h.2.2.2⟩
  ·exact h
 ·split at h
  ·rename_i ho;exact ⟨h.1,h.2.1,hC _ _ _ ⟨by subst hop;rfl,stab_set ho rfl rfl⟩ h.2.2⟩
  ·exact h
 ·exact ⟨h.1,hN _ _ _ (by subst hop;rfl) h.2⟩
 ·exact hN _ _ _ (by subst hop;rfl) h
 ·split at h
  ·rename_i ho;exact ⟨h.1,h.2.1,h.2.2.1,h.2.2.2.1,hC _ _ _ ⟨by subst hop;rfl,stab_set ho rfl rfl⟩ h.2.2.2.2⟩
  ·exact h
 ·split at h
  ·exact ⟨h.1,h.2.1,hC _ _ _ ⟨by subst hop;rfl,Stab.refl _ _ _⟩ h.2.2.1,fun e=>hC _ _ _ ⟨by subst hop;rfl,Stab.refl _ _ _⟩ (h.2.2.2 e)⟩
  ·exact h
 ·exact ⟨h.1,hC _ _ _ ⟨by subst hop;rfl,Stab.refl _ _ _⟩ h.2⟩
 ·exact hC _ _ _ ⟨by subst hop;rfl,Stab.refl _ _ _⟩ h
 ·exact h.elim
theorem a6g {fm:Bool} {b:Nat} {k:K} {n:Nat} (hl:k.lets fm n=true) {ρ:Operand→AV} {H:List VObj} {nx:Nat} {C C':AV→List VObj→Nat→Prop} (h:k.wpD P fm b ρ H nx C)
 (hC:∀ r H' nx',Stab (Old fm b) n H H'→C r H' nx'→C' r H' nx'):k.wpD P fm b ρ H nx C':=by
 obtain ⟨hx,h⟩:=h;refine ⟨hx,?_⟩;by_cases hq:k.quiet=true
 ·rw[b2w hq]at h ⊢;obtain ⟨r,h1,h2⟩:=b4f hq hx h;exact h2 nx C' H (Stab.refl _ _ _) (hC _ _ _ (Stab.refl _ _ _) h1)
 ·have new:∀ (ob:VObj),Stab (Old fm b) n H (H++[ob]):=fun ob=>by
   match n with
   | 0=>trivial
   | 1=>exact fun id o _ h=>⟨o,by rw[List.getElem?_append_left (List.getElem?_eq_some_iff.1 h).1];exact h,rfl,rfl⟩
   | n+2=>exact fun id o _ h=>by rw[List.getElem?_append_left (List.getElem?_eq_some_iff.1 h).1];exact h
  cases k with
  | sto ag m x y =>
   simp only[K.wpE,K.wp]at h ⊢;split at h
   ·rename_i id s off hxe;split at h
    ·rename_i ob hob;refine ⟨h.1,h.2.1,h.2.2.1,hC _ _ _ ?_ h.2.2.2⟩;simp only[K.lets,Bool.or_eq_true,decide_eq_true_eq]at hl;rcases hl with hfm | hn
     ·subst hfm;simp only[K.xtra,hxe,a8g,Bool.true_eq_false,false_or]at hx;have keep:∀ (q:Nat) (o:VObj),Old true b q→H[q]? = some o→(H.set id { ob with cs:=b7H ob.cs off (ρ y) })[q]? = some o:=fun q o hq ho=>by
       have:q<b:=by rcases hq with hq | hq;(· cases hq);(· exact hq)
       rw[List.getElem?_set,if_neg (by omega)];exact ho
      match n with
      | 0=>trivial
      | 1=>exact fun q o hq ho=>⟨o,keep q o hq ho,rfl,rfl⟩
      | n+2=>exact fun q o hq ho=>keep q o hq ho
     match n,hn with
     | 0,_=>trivial
     | 1,_ =>
      intro id' o _ ho;rw[List.getElem?_set];split
      ·rename_i e;subst e;rw[hob]at ho;cases ho;rw[if_pos (List.getElem?_eq_some_iff.1 hob).1];exact ⟨_,rfl,rfl,rfl⟩
      ·exact ⟨o,ho,rfl,rfl⟩
    ·exact h.elim
   ·exact h.elim
  | mk ty sz bytes z m c =>
   simp only[K.wpE,K.wp]at h ⊢;split at h
   ·exact ⟨h.1,h.2.1,h.2.2.1,h.2.2.2.1,hC _ _ _ (new _) h.2.2.2.2⟩
   ·exact h.elim
  | app ty sz bytes x y =>
   simp only[K.wpE,K.wp]at h ⊢;refine ⟨h.1,?_⟩;have h:=h.2;split at h
   ·exact ⟨h.1,h.2.1,hC _ _ _ (new _) h.2.2⟩
   ·rename_i id s off ln hxe;split at h
    ·rename_i ob hob;refine ⟨h.1,h.2.1,h.2.2.1,h.2.2.2.1,h.2.2.2.2.1,hC _ _ _ ?_ h.2.2.2.2.2⟩;simp only[K.lets,Bool.or_eq_true,beq_iff_eq]at hl;rcases hl with hfm | hn
     ·subst hfm;simp only[K.xtra,hxe,a8g,Bool.true_eq_false,false_or]at hx;have keep:∀ (q:Nat) (o:VObj),Old true b q→H[q]? = some o→(H.set id ⟨nx,ty,sz,(ob.cs.drop off).take (ln*sz)++a0x H sz (ρ y)⟩)[q]? = some o:=fun q o hq ho=>by
       have:q<b:=by rcases hq with hq | hq;(· cases hq);(· exact hq)
       rw[List.getElem?_set,if_neg (by omega)];exact ho
      match n with
      | 0=>trivial
      | 1=>exact fun q o hq ho=>⟨o,keep q o hq ho,rfl,rfl⟩
      | n+2=>exact fun q o hq ho=>keep q o hq ho
     ·subst hn;trivial
    ·exact h.elim
   ·exact h.elim
  | bsl ty sz m z ps=>simp only[K.wpE,K.wp]at h ⊢;exact ⟨h.1,hC _ _ _ (new _) h.2⟩
  | box ty x=>simp only[K.wpE,K.wp]at h ⊢;exact ⟨h.1,hC _ _ _ (new _) h.2⟩
  | alc ty z=>simp only[K.wpE,K.wp]at h ⊢;exact hC _ _ _ (new _) h
  | call f args =>
   simp only[K.wpE]at h ⊢;split at h
   ·obtain ⟨r0,h1,h2⟩:=h;exact ⟨r0,hC _ _ _ (Stab.refl _ _ _) h1,h2⟩
   ·obtain ⟨r0,h1,h2⟩:=h;exact ⟨r0,hC _ _ _ (Stab.refl _ _ _) h1,h2⟩
   ·exact h.elim
  | callA f args =>
   simp only[K.wpE]at h ⊢;split at h
   ·refine VCall.mono h fun r H' nx' hh=>?_;obtain ⟨⟨R,rfl⟩,hh⟩:=hh;refine ⟨⟨R,rfl⟩,hC _ _ _ ?_ hh⟩
    match n with
    | 0=>trivial
    | 1=>exact fun id o _ h=>⟨o,by rw[List.getElem?_append_left (List.getElem?_eq_some_iff.1 h).1];exact h,rfl,rfl⟩
    | n+2=>exact fun id o _ h=>by rw[List.getElem?_append_left (List.getElem?_eq_some_iff.1 h).1];exact h
   ·refine VCall.mono h fun r H' nx' hh=>?_;obtain ⟨⟨R,rfl⟩,hh⟩:=hh;refine ⟨⟨R,rfl⟩,hC _ _ _ ?_ hh⟩
    match n with
    | 0=>trivial
    | 1=>exact fun id o _ h=>⟨o,by rw[List.getElem?_append_left (List.getElem?_eq_some_iff.1 h).1];exact h,rfl,rfl⟩
    | n+2=>exact fun id o _ h=>by rw[List.getElem?_append_left (List.getElem?_eq_some_iff.1 h).1];exact h
   ·exact h.elim
  | callM st f args =>
   simp only[K.wpE]at h ⊢;split at h
   ·refine VCall.mono h fun r H' nx' hh=>?_;refine ⟨hh.1,hC _ _ _ ?_ hh.2⟩;simp only[K.lets,Bool.or_eq_true,Bool.and_eq_true,beq_iff_eq,decide_eq_true_eq]at hl;rcases hl with rfl | ⟨hst,hl⟩
    ·trivial
    ·match n,hl with
     | 0,_=>trivial
     | 1,_=>exact fun id o _ h=>hh.1 hst id o trivial h
   ·refine VCall.mono h fun r H' nx' hh=>?_;refine ⟨hh.1,hC _ _ _ ?_ hh.2⟩;simp only[K.lets,Bool.or_eq_true,Bool.and_eq_true,beq_iff_eq,decide_eq_true_eq]at hl;rcases hl with rfl | ⟨hst,hl⟩
    ·trivial
    ·match n,hl with
     | 0,_=>trivial
     | 1,_=>exact fun id o _ h=>hh.1 hst id o trivial h
   ·exact h.elim
  | eff op xs =>
   simp only[K.wpE,K.wp]at h ⊢;refine EOp.go_eff h (fun r H' nx' hs hc=>hC _ _ _ ?_ hc) (fun r ob nx' _ hc=>hC _ _ _ (new _) hc);simp only[K.xtra]at hx;simp only[K.lets,Bool.or_eq_true,Bool.and_eq_true,decide_eq_true_eq]at hl;rcases hl with hl | ⟨hl,_⟩
   ·match n,hl with
    | 0,_=>trivial
    | 1,_=>exact fun id o _ ho=>hs.2 id o trivial ho
   ·rw[hs.1]at hl;cases hl
  | ycal f args=>exact hx.elim
  | _=>exact absurd rfl hq
def b0E (e:Nat→AV):Option Nat→AV→Nat→AV
 | none,_=>e
 | some d,v=>fun t=>if d=t then v else e t
theorem b6h (e:Nat→AV) {d d':Option Nat} (h:∀ t,d=some t→d'≠some t) (v v':AV):b0E (b0E e d v) d' v'=b0E (b0E e d' v') d v:=by
 cases d with
 | none=>rfl
 | some t =>
  cases d' with
  | none=>rfl
  | some t' =>
   funext q;simp only[b0E];have:t≠t':=fun e=>h t rfl (by rw[e]);split
   ·split
    ·omega
    ·rfl
   ·rfl
def b7N (o:VOp) (e:Nat→AV):Option Bool :=
 match o.g with
 | none=>some true
 | some (t,w)=>match e t with
  | .val (.bool b)=>some (b == w)
  | .val _=>some false
  | _=>none
def VOp1 (P:Program) (fm:Bool) (b:Nat) (o:VOp) (C:(Nat→AV)→List VObj→Nat→Prop) (e:Nat→AV) (H:List VObj) (nx:Nat):Prop :=
 match b7N o e with
 | some true=>o.k.wpD P fm b (evF e) H nx fun r H' nx'=>C (b0E e o.d r) H' nx'
 | some false=>C (b0E e o.d (.val undef)) H nx
 | none=>False
def VOp.looks (o:VOp):List Nat :=
 (o.k.opnds.filterMap fun x=>match x with | .tmp t=>some t | _=>none)++(match o.g with | some (t,_)=>[t] | none=>[])
def c7h (fm:Bool) (i j:VOp):Bool :=
 i.k.calm && j.k.lets fm (i.k.clsM fm) &&
 (match i.d with | some t=>!(j.looks.contains t) && j.d != some t | none=>true) &&
 (match j.d with | some t=>!(i.looks.contains t) | none=>true)
theorem c1d {e:Nat→AV} {d:Option Nat} {v:AV} {x:Operand} (h:∀ t,d=some t→x≠.tmp t):evF (b0E e d v) x=evF e x:=by
 cases d with
 | none=>rfl
 | some d =>
  cases x with
  | tmp t =>
   have:d≠t:=fun e=>h d rfl (by rw[e]);simp[evF,b0E,this]
  | _=>rfl
theorem b4h {o:VOp} {t:Nat} (h:t ∉ o.looks):∀ x ∈ o.k.opnds,x≠.tmp t:=fun x hx e=>by
 subst e;refine h (List.mem_append.2 (.inl ?_));rw[List.mem_filterMap];exact ⟨.tmp t,hx,rfl⟩
theorem b2i {o:VOp} {e:Nat→AV} {d:Option Nat} {v:AV} (h:∀ t,d=some t→t ∉ o.looks):b7N o (b0E e d v)=b7N o e:=by
 unfold b7N;cases hg:o.g with
 | none=>rfl
 | some p =>
  obtain ⟨t,w⟩:=p;cases d with
  | none=>rfl
  | some d =>
   have:d≠t:=fun e=>h d rfl (List.mem_append.2 (.inr (by rw[hg];simp[e])));simp[b0E,this]
theorem b6i {fm:Bool} {i j:VOp} (h:c7h fm i j=true):i.k.calm=true∧j.k.lets fm (i.k.clsM fm)=true∧(∀ t,i.d=some t→t ∉ j.looks)∧(∀ t,i.d=some t→j.d≠some t)∧∀ t,j.d=some t→t ∉ i.looks:=by
 unfold c7h at h;simp only[Bool.and_eq_true]at h;obtain ⟨⟨⟨h1,h2⟩,h3⟩,h4⟩:=h;refine ⟨h1,h2,fun t e=>?_,fun t e=>?_,fun t e=>?_⟩
 ·rw[e]at h3;simp at h3;exact h3.1
 ·rw[e]at h3;simp at h3;exact h3.2
 ·rw[e]at h4;simpa using h4
theorem VOp1.swap {fm:Bool} {b:Nat} {i j:VOp} (hc:c7h fm i j=true) {C:(Nat→AV)→List VObj→Nat→Prop} {e:Nat→AV} {H:List VObj} {nx:Nat} (h:VOp1 P fm b i (VOp1 P fm b j C) e H nx):VOp1 P fm b j (VOp1 P fm b i C) e H nx:=by
 obtain ⟨h1,h2,h3,h4,h5⟩:=b6i hc;have hji:∀ (v:AV) (x:Operand),x ∈ j.k.opnds→evF (b0E e i.d v) x=evF e x:=fun v x hx=>c1d fun t e=>b4h (h3 t e) x hx;have hij:∀ (v:AV) (x:Operand),x ∈ i.k.opnds→evF (b0E e j.d v) x=evF e x:=fun v x hx=>c1d fun t e=>b4h (h5 t e) x hx;unfold VOp1 at h;cases hi:b7N i e with
 | none=>rw[hi]at h;exact h.elim
 | some bi =>
  cases bi with
  | true =>
   rw[hi]at h;obtain ⟨hxi,h⟩:=h;obtain ⟨r,g1,g2⟩:=b6f h1 hxi h;have iDone:∀ (v:AV) (H':List VObj) (nx':Nat),Stab (Old fm b) (i.k.clsM fm) H H'→C (b0E (b0E e i.d r) j.d v) H' nx'→VOp1 P fm b i C (b0E e j.d v) H' nx':=fun v H' nx' hs hCC=>by
    unfold VOp1;rw[b2i h5,hi];refine ⟨by rw[b4g _ (hij v)];exact hxi,?_⟩;rw[b6e _ (hij v)];refine g2 nx' _ H' hs ?_;rw[b6h e h4]at hCC;exact hCC
   rw[b2i h3]at g1;unfold VOp1;cases hj:b7N j e with
   | none=>rw[hj]at g1;exact g1.elim
   | some bj =>
    rw[hj]at g1;cases bj with
    | true =>
     simp only at g1 ⊢;rw[b6g _ (hji r)]at g1;exact a6g h2 g1 fun rj H' nx' hs hCC=>iDone rj H' nx' hs hCC
    | false=>exact iDone _ H nx (Stab.refl _ _ _) g1
  | false =>
   rw[hi]at h;simp only at h;have iDone:∀ (v:AV) (H':List VObj) (nx':Nat),C (b0E (b0E e i.d (.val undef)) j.d v) H' nx'→VOp1 P fm b i C (b0E e j.d v) H' nx':=fun v H' nx' hCC=>by
    unfold VOp1;rw[b2i h5,hi];simp only;rw[b6h e h4]at hCC;exact hCC
   rw[b2i h3]at h;unfold VOp1;cases hj:b7N j e with
   | none=>rw[hj]at h;exact h.elim
   | some bj =>
    rw[hj]at h;cases bj with
    | true =>
     simp only at h ⊢;rw[b6g _ (hji _)]at h;exact a6g h2 h fun rj H' nx' _ hCC=>iDone rj H' nx' hCC
    | false=>exact iDone _ H nx h
theorem VOp1.mono {fm:Bool} {b:Nat} {o:VOp} {C C':(Nat→AV)→List VObj→Nat→Prop} {e:Nat→AV} {H:List VObj} {nx:Nat} (h:VOp1 P fm b o C e H nx) (hC:∀ e H nx,C e H nx→C' e H nx):VOp1 P fm b o C' e H nx:=by
 unfold VOp1 at h ⊢;cases ha:b7N o e with
 | none=>rw[ha]at h;exact h.elim
 | some b =>
  rw[ha]at h;cases b with
  | true =>
   have hl:o.k.lets fm 0=true:=by cases o.k<;>first | rfl | simp[K.lets]
   exact a6g hl h fun r H' nx' _ hc=>hC _ _ _ hc
  | false=>exact hC _ _ _ h
def VAny (P:Program) (fm:Bool) (b:Nat) (ops:Array Oper) (vl:List VOp) (Q:(Nat→AV)→List VObj→Nat→Prop):Nat→Array Bool→(Nat→AV)→List VObj→Nat→Prop
 | 0,listed,e,H,nx=>Region.ready .any ops listed=[]∧Q e H nx
 | fuel+1,listed,e,H,nx=>(Region.ready .any ops listed=[]→Q e H nx) ∧
  ∀ i ∈ Region.ready .any ops listed,∃ o,vl[i]? = some o∧VOp1 P fm b o (VAny P fm b ops vl Q fuel (listed.setIfInBounds i true)) e H nx
def b8K (ops:Array Oper) (listed:Array Bool):Nat→Nat→Nat→Bool
 | 0,j,i=>Region.waitsFor .any ops j i
 | n+1,j,i=>Region.waitsFor .any ops j i || (List.range j).any fun k=>!(listed.getD k true) && Region.waitsFor .any ops j k && b8K ops listed n k i
def c7i (fm:Bool) (ops:Array Oper) (vl:List VOp) (listed:Array Bool) (i:Nat):Bool :=
 match vl[i]? with
 | some oi=>(List.range ops.size).all fun j=>j == i || listed.getD j true || Region.waitsFor .any ops j i || (match vl[j]? with | some oj=>c7h fm oi oj | none=>false) || b8K ops listed 12 j i
 | none=>false
theorem a4a {ops:Array Oper} {listed:Array Bool} {i:Nat} (h:i ∈ Region.ready .any ops listed):listed.getD i true=false∧i<ops.size∧∀ j,listed.getD j true=false→Region.waitsFor .any ops i j=false:=by
 obtain ⟨h1,o,h2,h3⟩:=mem_ready.1 h;refine ⟨h1,(Array.getElem?_eq_some_iff.1 h2).1,fun j hj=>?_⟩;cases hw:Region.waitsFor .any ops i j with
 | false=>rfl
 | true =>
  obtain ⟨o',ho',e,he,hb,hon⟩:=Region.waitsFor_spec hw;have:o'=o:=Option.some.inj (ho'.symm.trans h2);subst this;have:=h3 e he hb;rw[hon]at this;rw[getD_both hj]at this;cases this
theorem VAny.first (D:Nat→Prop) {fm:Bool} {b:Nat} {ops:Array Oper} {vl:List VOp} (hlen:vl.length=ops.size) {Q:(Nat→AV)→List VObj→Nat→Prop} {i:Nat} {oi:VOp} (hi:vl[i]? = some oi) (hD:∀ j,D j→Region.waitsFor .any ops j i=true∨∃ k,D k∧Region.waitsFor .any ops j k=true) :
 ∀ (fuel:Nat) (listed:Array Bool) (e:Nat→AV) (H:List VObj) (nx:Nat),
  (∀ j oj,vl[j]? = some oj→j≠i→listed.getD j true=false→¬ D j→c7h fm oi oj=true)→(∀ j,D j→listed.getD j true=false) →
  i ∈ Region.ready .any ops listed→VOp1 P fm b oi (VAny P fm b ops vl Q fuel (listed.setIfInBounds i true)) e H nx→VAny P fm b ops vl Q (fuel+1) listed e H nx:=by
 intro fuel
 induction fuel with
 | zero =>
  intro listed e H nx hfree hDl hr h;have noD:∀ j,j ∈ Region.ready .any ops listed→¬ D j:=fun j hj hd=>by
   obtain ⟨_,_,h7⟩:=a4a hj;rcases hD j hd with q | ⟨k,q1,q2⟩
   ·rw[h7 i (a4a hr).1]at q;cases q
   ·rw[h7 k (hDl k q1)]at q2;cases q2
  refine ⟨fun h0=>(by rw[h0]at hr;cases hr),fun j hj=>?_⟩;by_cases hji:j=i
  ·subst hji;exact ⟨oi,hi,h⟩
  ·exfalso;have hrj:j ∈ Region.ready .any ops (listed.setIfInBounds i true):=ready_mono hj hji;obtain ⟨h5,h6,h7⟩:=a4a hj;have hj':vl[j]? = some vl[j]:=List.getElem?_eq_getElem (by omega);have hc:=hfree j _ hj' hji h5 (noD j hj);have hq:=(b6i hc).1;unfold VOp1 at h;cases ha:b7N oi e with
   | none=>rw[ha]at h;exact h
   | some b =>
    rw[ha]at h;cases b with
    | true =>
     obtain ⟨hxi,h⟩:=h;obtain ⟨r,g1,_⟩:=b6f hq hxi h;have h':=g1.1;rw[h']at hrj;cases hrj
    | false=>have h':=h.1;rw[h']at hrj;cases hrj
 | succ fuel ih =>
  intro listed e H nx hfree hDl hr h;have noD:∀ j,j ∈ Region.ready .any ops listed→¬ D j:=fun j hj hd=>by
   obtain ⟨_,_,h7⟩:=a4a hj;rcases hD j hd with q | ⟨k,q1,q2⟩
   ·rw[h7 i (a4a hr).1]at q;cases q
   ·rw[h7 k (hDl k q1)]at q2;cases q2
  refine ⟨fun h0=>(by rw[h0]at hr;cases hr),fun j hj=>?_⟩;by_cases hji:j=i
  ·subst hji;exact ⟨oi,hi,h⟩
  ·obtain ⟨h5,h6,h7⟩:=a4a hj;have hj':vl[j]? = some vl[j]:=List.getElem?_eq_getElem (by omega);have hc:=hfree j _ hj' hji h5 (noD j hj);have hrj:j ∈ Region.ready .any ops (listed.setIfInBounds i true):=ready_mono hj hji;refine ⟨_,hj',?_⟩;have h1:VOp1 P fm b oi (VOp1 P fm b vl[j] (VAny P fm b ops vl Q fuel ((listed.setIfInBounds j true).setIfInBounds i true))) e H nx:=h.mono fun e H nx hv=>by
    obtain ⟨o,ho,hv2⟩:=hv.2 j hrj;rw[hj']at ho;cases ho;have hcm:(listed.setIfInBounds i true).setIfInBounds j true=(listed.setIfInBounds j true).setIfInBounds i true:=Array.setIfInBounds_comm _ _ (fun e=>hji e.symm);rw[← hcm];exact hv2
   refine (h1.swap hc).mono fun e H nx hv=>?_;refine ih (listed.setIfInBounds j true) e H nx (fun q oq hq hqi hl hw=>hfree q oq hq hqi ?_ hw) (fun q hq=>?_) (ready_mono hr fun e=>hji e.symm) hv
   rotate_left
   ·have hqj:j≠q:=fun e=>noD j hj (e▸hq);rw[getD_set_ne true hqj];exact hDl q hq
   by_cases hqj:j=q
   ·subst hqj;rcases Nat.lt_or_ge j listed.size with h9 | h9
    ·simp[h9]at hl
    ·simp[Array.getElem?_eq_none h9]at h5
   ·rw[getD_set_ne true hqj]at hl;exact hl
inductive PT where
 | done
 | one (o:VOp) (t:PT)
 | both (s t:PT)
deriving Inhabited
def b7A (fm:Bool) (ops:Array Oper) (vl:List VOp):Nat→Nat→Array Bool→Option PT
 | 0,_,listed=>if (Region.ready .any ops listed).isEmpty then some .done else none
 | fuel+1,forks,listed =>
  if (Region.ready .any ops listed).isEmpty then some .done else
  match (Region.ready .any ops listed).find? (c7i fm ops vl listed) with
  | some i=>match vl[i]?,b7A fm ops vl fuel forks (listed.setIfInBounds i true) with
   | some o,some t=>some (.one o t)
   | _,_=>none
  | none=>match (if 1<(Region.ready .any ops listed).length then forks else forks+1) with
   | 0=>none
   | forks+1=>(Region.ready .any ops listed).foldr (fun i acc=>match vl[i]?,b7A fm ops vl fuel forks (listed.setIfInBounds i true),acc with
    | some o,some t,some none=>some (some (.one o t))
    | some o,some t,some (some t')=>some (some (.both (.one o t) t'))
    | _,_,_=>none) (some none) |>.join
def VTr (P:Program) (fm:Bool) (b:Nat) (Q:(Nat→AV)→List VObj→Nat→Prop):PT→(Nat→AV)→List VObj→Nat→Prop
 | .done,e,H,nx=>Q e H nx
 | .one o t,e,H,nx=>VOp1 P fm b o (VTr P fm b Q t) e H nx
 | .both s t,e,H,nx=>VTr P fm b Q s e H nx∧VTr P fm b Q t e H nx
theorem b0f {fm:Bool} {b:Nat} {ops:Array Oper} {vl:List VOp} {fuel forks:Nat} {listed:Array Bool} {Q:(Nat→AV)→List VObj→Nat→Prop} {e:Nat→AV} {H:List VObj} {nx:Nat}:∀ (rs:List Nat) (t:Option PT),
 rs.foldr (fun i acc=>match vl[i]?,b7A fm ops vl fuel forks (listed.setIfInBounds i true),acc with
  | some o,some t,some none=>some (some (PT.one o t))
  | some o,some t,some (some t')=>some (some (PT.both (.one o t) t'))
  | _,_,_=>none) (some none)=some t →
 (∀ t',t=some t'→VTr P fm b Q t' e H nx)→∀ i ∈ rs,∃ o t',vl[i]? = some o∧b7A fm ops vl fuel forks (listed.setIfInBounds i true)=some t'∧VOp1 P fm b o (VTr P fm b Q t') e H nx
 | [],_,_,_,i,hi=>by cases hi
 | r::rs,t,h,hv,i,hi=>by
  simp only[List.foldr_cons]at h;split at h
  ·rename_i o t1 h1 h2 h3;cases h;have hv1:=hv _ rfl;simp only[VTr]at hv1;rcases List.mem_cons.1 hi with rfl | hi
   ·exact ⟨o,t1,h1,h2,hv1⟩
   ·exact b0f rs none h3 (fun t' e=>by cases e) i hi
  ·rename_i o t1 t2 h1 h2 h3;cases h;have hv1:=hv _ rfl;simp only[VTr]at hv1;rcases List.mem_cons.1 hi with rfl | hi
   ·exact ⟨o,t1,h1,h2,hv1.1⟩
   ·exact b0f rs (some t2) h3 (fun t' e=>by cases e;exact hv1.2) i hi
  ·cases h
theorem a7O {fm:Bool} {b:Nat} {ops:Array Oper} {vl:List VOp} (hlen:vl.length=ops.size) {Q:(Nat→AV)→List VObj→Nat→Prop}:∀ (fuel forks:Nat) (listed:Array Bool) (t:PT),b7A fm ops vl fuel forks listed=some t →
 ∀ (e:Nat→AV) (H:List VObj) (nx:Nat),VTr P fm b Q t e H nx→VAny P fm b ops vl Q fuel listed e H nx
 | 0,_,listed,t,h,e,H,nx,hv=>by
  simp only[b7A]at h;split at h
  ·rename_i hr;cases h;exact ⟨List.isEmpty_iff.1 hr,hv⟩
  ·cases h
 | fuel+1,forks,listed,t,h,e,H,nx,hv=>by
  simp only[b7A]at h;split at h
  ·rename_i hr;cases h;have hr':=List.isEmpty_iff.1 hr;exact ⟨fun _=>hv,fun i hi=>by rw[hr']at hi;cases hi⟩
  ·rename_i hr;have hne:Region.ready .any ops listed≠[]:=fun e=>hr (by rw[e];rfl);split at h
   ·rename_i i hi;split at h
    ·rename_i o t' ho hp;cases h;have hmem:=List.mem_of_find?_eq_some hi;have hfree:=List.find?_some hi;refine VAny.first (fun j=>listed.getD j true=false∧(Region.waitsFor .any ops j i=true∨∃ n,b8K ops listed n j i=true)) hlen ho (fun j hd=>?_) fuel listed e H nx (fun j oj hj hji hl hw=>?_) (fun j hd=>hd.1) hmem ?_
     ·rcases hd.2 with q | ⟨n,q⟩
      ·exact .inl q
      ·cases n with
       | zero=>exact .inl q
       | succ n =>
        simp only[b8K,Bool.or_eq_true,List.any_eq_true,Bool.and_eq_true,Bool.not_eq_true']at q;rcases q with q | ⟨k,_,⟨q1,q2⟩,q3⟩
        ·exact .inl q
        ·exact .inr ⟨k,⟨q1,.inr ⟨n,q3⟩⟩,q2⟩
     ·unfold c7i at hfree;rw[ho]at hfree;simp only at hfree;have hjs:j<ops.size:=by have:=(List.getElem?_eq_some_iff.1 hj).1;omega
      have:=List.all_eq_true.1 hfree j (List.mem_range.2 hjs);simp only[Bool.or_eq_true,beq_iff_eq,hl,hj]at this;rcases this with (((q | q) | q) | q) | q
      ·exact absurd q hji
      ·cases q
      ·exact absurd ⟨hl,.inl q⟩ hw
      ·exact q
      ·exact absurd ⟨hl,.inr ⟨_,q⟩⟩ hw
     ·simp only[VTr]at hv;exact hv.mono fun e H nx h=>a7O hlen fuel _ _ t' hp e H nx h
    ·cases h
   ·split at h
    ·cases h
    rename_i forks _;refine ⟨fun e=>absurd e hne,fun i hi=>?_⟩;cases hf:(Region.ready .any ops listed).foldr (fun i acc=>match vl[i]?,b7A fm ops vl fuel forks (listed.setIfInBounds i true),acc with
     | some o,some t,some none=>some (some (PT.one o t))
     | some o,some t,some (some t')=>some (some (PT.both (.one o t) t'))
     | _,_,_=>none) (some none) with
    | none=>rw[hf]at h;cases h
    | some t0 =>
     rw[hf]at h;simp only[Option.join_some]at h;obtain ⟨o,t',h1,h2,h3⟩:=b0f (P:=P) (b:=b) (Q:=Q) (e:=e) (H:=H) (nx:=nx) _ t0 hf (fun t' e'=>by
      rw[h]at e';cases e';exact hv) i hi
     exact ⟨o,h1,h3.mono fun e H nx h=>a7O hlen fuel _ _ t' h2 e H nx h⟩
end
end Go.V
