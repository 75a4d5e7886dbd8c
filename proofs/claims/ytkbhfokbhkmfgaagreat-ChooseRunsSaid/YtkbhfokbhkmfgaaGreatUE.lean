/- The engine, part 10: data of given types as values, and the rules by which code is gone through. No condition. -/
import Derived.Test.YtkbhfokbhkmfgaaGreatUS
import Derived.Test.YtkbhfokbhkmfgaaGreatUC
set_option linter.unusedVariables false
set_option linter.unusedSimpArgs false
namespace Go.V
set_option linter.unusedSimpArgs false
set_option linter.unusedVariables false
open Go.RowKit
section
variable {P:Program} {Q:VE→St→Prop} {st:St}
theorem a6l:VW P .skip Q st=Q .normal st:=propext Iff.rfl
theorem b0H {l:List VOp}:VW P (.ops l) Q st=a5X P l (Q .normal) st:=propext Iff.rfl
theorem b0I {fm:Bool} {t:PT}:VW P (.par fm t) Q st=a8h P fm st.H.length (Q .normal) t st:=propext Iff.rfl
theorem b0J {x y:VC}:VW P (.seq x y) Q st=VW P x (VE.seq (VW P y Q) Q) st:=propext Iff.rfl
theorem a4x {id:Nat} {x:VC}:VW P (.block id x) Q st=VW P x (VE.blk id Q) st:=propext Iff.rfl
theorem a6m {id:Nat}:VW P (.exit id) Q st=Q (.exit id) st:=propext Iff.rfl
theorem b0K:VW P .ret Q st=Q .ret st:=propext Iff.rfl
theorem c1j {t:Bool} {A B:Prop}:((t=true→A)∧(t=false→B))=(if t=true then A else B):=by
 cases t<;>simp
theorem b8O {b w:Bool} {A B:Prop}:((b=w→A)∧(b=(!w)→B))=(if b=w then A else B):=by
 cases b<;>cases w<;>simp
theorem c4H {p A B:Prop} [Decidable p]:(if p then A else B)=((p→A)∧(¬ p→B)):=by
 by_cases h:p<;>simp[h]
theorem a6n {c:Operand} {x y:VC}:VW P (.cond c x y) Q st=(match evF (get st.env) c with
 | .val (.bool t)=>if t=true then VW P x Q ⟨litE c true st.env,st.H,st.nx⟩ else VW P y Q ⟨litE c false st.env,st.H,st.nx⟩
 | _=>False):=by
 simp only[VW];generalize evF (get st.env) c=v;cases v<;>try rfl
 rename_i v;cases v<;>first | rfl | exact c1j
section
variable {fm:Bool} {b0:Nat} {Q:St→Prop}
theorem a3r:a8h P fm b0 Q .done st=Q st:=propext Iff.rfl
theorem a4y {d:Option Nat} {k:K} {t:PT}:a8h P fm b0 Q (.one ⟨d,none,k⟩ t) st=k.wpD P fm b0 (evF (get st.env)) st.H st.nx fun r H nx=>a8h P fm b0 Q t (St.put ⟨st.env,H,nx⟩ d r):=propext Iff.rfl
theorem a6o {d:Option Nat} {u:Nat} {want:Bool} {k:K} {t:PT}:a8h P fm b0 Q (.one ⟨d,some (u,want),k⟩ t) st=(match get st.env u with
 | .val (.bool b)=>if b=want then k.wpD P fm b0 (evF (get ((u,.val (.bool want))::st.env))) st.H st.nx fun r H nx=>a8h P fm b0 Q t (St.put ⟨(u,.val (.bool want))::st.env,H,nx⟩ d r)
  else a8h P fm b0 Q t (St.put ⟨(u,.val (.bool (!want)))::st.env,st.H,st.nx⟩ d (.val undef))
 | .val _=>a8h P fm b0 Q t (st.put d (.val undef))
 | _=>False):=by
 simp only[a8h];generalize get st.env u=v;cases v<;>try rfl
 rename_i v;cases v<;>first | rfl | exact b8O
theorem a3s {s t:PT}:a8h P fm b0 Q (.both s t) st=(a8h P fm b0 Q s st∧a8h P fm b0 Q t st):=propext Iff.rfl
end
theorem a4z {t:Nat} {b:Bool} {e:List (Nat × AV)}:litE (.tmp t) b e=(t,.val (.bool b))::e:=rfl
theorem a2B {v:Value} {b:Bool} {e:List (Nat × AV)}:litE (.const v) b e=e:=rfl
theorem a2C {n:St→Prop}:VE.seq n Q .normal st=n st:=propext Iff.rfl
theorem a4A {n:St→Prop} {id:Nat}:VE.seq n Q (.exit id) st=Q (.exit id) st:=propext Iff.rfl
theorem a6p {n:St→Prop}:VE.seq n Q .ret st=Q .ret st:=propext Iff.rfl
theorem a2D {id:Nat}:VE.blk id Q .normal st=Q .normal st:=propext Iff.rfl
theorem a4B {id j:Nat}:VE.blk id Q (.exit j) st=(if j=id then Q .normal st else Q (.exit j) st):=propext Iff.rfl
theorem a6q {id:Nat}:VE.blk id Q .ret st=Q .ret st:=propext Iff.rfl
theorem a6r {n:Nat}:get [] n = .dead:=rfl
theorem a0a {k n:Nat} {v:AV} {e:List (Nat × AV)}:get ((k,v)::e) n=if k=n then v else get e n:=rfl
theorem a4C {e:List (Nat × AV)} {H:List VObj} {nx d:Nat} {v:AV}:St.put ⟨e,H,nx⟩ (some d) v=⟨(d,v)::e,H,nx⟩:=rfl
theorem a4D {e:List (Nat × AV)} {H:List VObj} {nx:Nat} {v:AV}:St.put ⟨e,H,nx⟩ none v=⟨e,H,nx⟩:=rfl
theorem a3t {d:Nat} {v:AV}:st.put (some d) v=⟨(d,v)::st.env,st.H,st.nx⟩:=rfl
theorem a3u {v:AV}:st.put none v=st:=rfl
theorem a0r {x:VC} {S:Type} (f:S→St) (I:S→Prop) (μ:S→Nat) (s0:S) (h0:Wk st (f s0)) (hI:I s0)
 (round:∀ s,I s→VW P x (VE.seq (fun st'=>∃ s',I s'∧μ s'<μ s∧Wk st' (f s')) Q) (f s)):VW P (.loop x) Q st:=by
 refine ⟨fun n st=>∃ s,I s∧μ s=n∧st=f s,μ s0,f s0,h0,⟨s0,hI,rfl,rfl⟩,?_⟩;rintro n st ⟨s,hs,rfl,rfl⟩;have:=round s hs;have hmono:∀ (c:VC) (Q1 Q2:VE→St→Prop) (st:St),(∀ e st,Q1 e st→Q2 e st)→VW P c Q1 st→VW P c Q2 st:=a8C;exact hmono x _ _ _ (fun e st h=>by
  cases e with
  | normal=>obtain ⟨s',h1,h2,h3⟩:=h;exact ⟨f s',μ s',h2,h3,s',h1,rfl,rfl⟩
  | exit id=>exact h
  | ret=>exact h) this
end
abbrev I (n:Int):AV:=.val (.int .i64 n)
abbrev B (b:Bool):AV:=.val (.bool b)
inductive Tok {α:Type 1} (C:α):Type 1 where
 | mk
def a4E (P:Program) (f:Nat) (args:List AV) (H:List VObj) (nx:Nat) (C:AV→List VObj→Nat→Prop) (_:Tok (ULift.up.{1} C)):Prop:=VCall P f args H nx C
def a0D (cs:List AV) (off:Nat) (ag:Bool) (n:Nat) (C:AV→Prop) (_:Tok (ULift.up.{1} C)):Prop:=a1E cs off ag n C
def c9a (xs:List AV) (k:Int) (C:AV→Prop) (_:Tok (ULift.up.{1} C)):Prop:=c8M xs k C
theorem c3f {α:Type} [Inhabited α] {f:α→AV} {xs:List α} {k:Int} {C:AV→Prop}:c8M (xs.map f) k C=(0≤k∧k.toNat<xs.length∧C (f (xs.getD k.toNat default))):=by
 unfold c8M;apply propext;simp only[List.length_map];refine ⟨fun ⟨h0,h1,h2⟩=>⟨h0,h1,?_⟩,fun ⟨h0,h1,h2⟩=>⟨h0,h1,?_⟩⟩
 ·simpa [List.getD,List.getElem?_eq_getElem h1] using h2
 ·simpa [List.getD,List.getElem?_eq_getElem h1] using h2
theorem b2C {α:Type} [Inhabited α] {f:α→AV} (hf:∀ x,(f x).one=true) {xs:List α} {off:Nat} {C:AV→Prop}:a1E (xs.map f) off false 1 C=(off<xs.length∧C (f (xs.getD off default))):=by
 unfold a1E a0F a1f;apply propext;simp only[List.length_map,Bool.false_eq_true,if_false,false_or,true_and];refine ⟨fun ⟨⟨h1,_⟩,h2⟩=>⟨h1,?_⟩,fun ⟨h1,h2⟩=>⟨⟨h1,?_⟩,?_⟩⟩
 ·simpa [List.getD,List.getElem?_eq_getElem (show off<xs.length by omega)] using h2
 ·simpa [List.getD,List.getElem?_eq_getElem h1] using hf _
 ·simpa [List.getD,List.getElem?_eq_getElem h1] using h2
theorem a4F {α:Type} [Inhabited α] {f:α→AV} {xs:List α} {k:Int} {C:AV→Prop}:c9a (xs.map f) k C .mk=(0≤k∧k.toNat<xs.length∧C (f (xs.getD k.toNat default))):=c3f
theorem a3v {x:AV} {xs:List AV} {k:Int} {C:AV→Prop}:c9a (x::xs) k C .mk=(0≤k∧k.toNat<(x::xs).length∧C ((x::xs).getD k.toNat .dead)):=rfl
theorem a1j {α:Type} [Inhabited α] {f:α→AV} (hf:∀ x,(f x).one=true) {xs:List α} {off:Nat} {C:AV→Prop}:a0D (xs.map f) off false 1 C .mk=(off<xs.length∧C (f (xs.getD off default))):=b2C hf
theorem a6s {xs:List Int} {off:Nat} {C:AV→Prop}:a0D (xs.map I) off false 1 C .mk=(off<xs.length∧C (I (xs.getD off default))):=b2C fun _=>rfl
theorem a6t {xs:List Bool} {off:Nat} {C:AV→Prop}:a0D (xs.map B) off false 1 C .mk=(off<xs.length∧C (B (xs.getD off default))):=b2C fun _=>rfl
theorem a2E {x:AV} {xs:List AV} {off:Nat} {ag:Bool} {n:Nat} {C:AV→Prop}:a0D (x::xs) off ag n C .mk=(a0F (x::xs) off ag n∧C (a1f (x::xs) off ag n)):=rfl
theorem b0L {A:Prop}:(true=true→A)=A:=by simp
theorem b0M {A:Prop}:(false=true→A)=True:=by simp
theorem b0N {A:Prop}:(true=false→A)=True:=by simp
theorem b0O {A:Prop}:(false=false→A)=A:=by simp
theorem a6u {A:Prop}:(true = !true→A)=True:=by simp
theorem a6v {A:Prop}:(false = !true→A)=A:=by simp
theorem a6w {A:Prop}:(true = !false→A)=A:=by simp
theorem a6x {A:Prop}:(false = !false→A)=True:=by simp
theorem a0I {α:Type} (f:α→AV) (xs:List α) (i:Nat) (y:α):(xs.map f).set i (f y)=(xs.set i y).map f:=(List.map_set ..).symm
theorem a0e {n:Int} (h1 : -9223372036854775808≤n) (h2:n≤9223372036854775807):IntKind.i64.wrap n=n:=by
 rw[IntKind.wrap_i64];omega
section
variable {P:Program} {ρ:Operand→AV} {H:List VObj} {nx:Nat} {C:AV→List VObj→Nat→Prop}
def ParkT (P:Program) (fm:Bool) (t:PT) (Q:VE→St→Prop) (st:St) (_:Tok (ULift.up.{1} Q)):Prop:=VW P (.park fm t) Q st
theorem a6y {fm:Bool} {t:PT} {Q:VE→St→Prop} {st:St}:VW P (.park fm t) Q st=ParkT P fm t Q st .mk:=propext Iff.rfl
theorem ParkT.of {fm:Bool} {t:PT} {Q:VE→St→Prop} {st st':St} (hw:Wk st st') (h:a8h P fm st'.H.length (Q .normal) t st'):ParkT P fm t Q st .mk:=by
 show VW P (.park fm t) Q st;simp only[VW];exact ⟨st',hw,h⟩
def b8P (P:Program) (A:Nat→Prop) (g:Nat) (args:List AV) (H:List VObj) (nx:Nat) (C:AV→List VObj→Nat→Prop) (_:Tok (ULift.up.{1} C)):Prop:=ECall P A g args H nx C
theorem ECall.of {A:Nat→Prop} {g:Nat} {args args':List AV} {C0:AV→Prop} (h:Contract P g args' C0) (ha:SleL args args') (h1:∃ r0,∀ r,C0 r↔r=r0) (hK:∀ r,C0 r→C r H nx):b8P P A g args H nx C .mk:=by
 obtain ⟨r0,h1⟩:=h1;exact ⟨r0,hK r0 ((h1 r0).2 rfl),fun H' nx' _ K hk=>VCall.of_contract h ha fun r hr=>by rw[(h1 r).1 hr];exact hk⟩
theorem ECall.ofN {A:Nat→Prop} {g:Nat} {args args':List AV} {C0:AV→Prop} (h:ContractN P g args' C0) (ha:∀ (H':List VObj) (nx':Nat),(∀ id ob,A id→H[id]? = some ob→H'[id]? = some ob)→FrzL 0 H' nx' args args') (h1:∃ r0,∀ r,C0 r↔r=r0) (hK:∀ r,C0 r→C r H nx):b8P P A g args H nx C .mk:=by
 obtain ⟨r0,h1⟩:=h1;exact ⟨r0,hK r0 ((h1 r0).2 rfl),fun H' nx' hH K hk=>VCall.of_contractN h (ha H' nx' hH) fun r hr=>by rw[(h1 r).1 hr];exact hk⟩
theorem b0P {fm:Bool} {b:Nat} {k:K}:k.wpD P fm b ρ H nx C=(k.xtra fm b ρ∧k.wpE P (c1c fm b) ρ H nx C):=propext Iff.rfl
theorem a4G {A:Nat→Prop} {f:Operand} {args:List Operand}:(K.call f args).wpE P A ρ H nx C=(match ρ f with
 | .fn g cs=>b8P P A g (evs ρ args++cs) H nx C .mk
 | .bm g cs=>b8P P A g (cs++evs ρ args) H nx C .mk
 | _=>False):=propext Iff.rfl
theorem a3w {A:Nat→Prop} {f:Operand} {args:List Operand}:(K.callA f args).wpE P A ρ H nx C=(match ρ f with
 | .fn g cs=>a4E P g (evs ρ args++cs) H nx (fun r H' nx'=>(∃ R,H'=H++R)∧C r H' nx') .mk
 | .bm g cs=>a4E P g (cs++evs ρ args) H nx (fun r H' nx'=>(∃ R,H'=H++R)∧C r H' nx') .mk
 | _=>False):=propext Iff.rfl
theorem c1k {A:Nat→Prop} {f:Operand} {args:List Operand}:(K.callM true f args).wpE P A ρ H nx C=(match ρ f with
 | .fn g cs=>a4E P g (evs ρ args++cs) H nx (fun r H' nx'=>Stab (fun _=>True) 1 H H'∧C r H' nx') .mk
 | .bm g cs=>a4E P g (cs++evs ρ args) H nx (fun r H' nx'=>Stab (fun _=>True) 1 H H'∧C r H' nx') .mk
 | _=>False):=by
 simp only[K.wpE,forall_const];rfl
theorem c1l {A:Nat→Prop} {f:Operand} {args:List Operand}:(K.callM false f args).wpE P A ρ H nx C=(match ρ f with
 | .fn g cs=>a4E P g (evs ρ args++cs) H nx C .mk
 | .bm g cs=>a4E P g (cs++evs ρ args) H nx C .mk
 | _=>False):=by
 simp only[K.wpE,Bool.false_eq_true,false_implies,true_and];rfl
theorem b0Q {A:Nat→Prop} {x0}:(K.mv x0).wpE P A ρ H nx C=(K.mv x0).wp P ρ H nx C:=propext Iff.rfl
theorem a4H {A:Nat→Prop} {x0 x1 x2}:(K.pick x0 x1 x2).wpE P A ρ H nx C=(K.pick x0 x1 x2).wp P ρ H nx C:=propext Iff.rfl
theorem b0R {A:Nat→Prop} {x0 x1 x2}:(K.ld x0 x1 x2).wpE P A ρ H nx C=(K.ld x0 x1 x2).wp P ρ H nx C:=propext Iff.rfl
theorem a6z {A:Nat→Prop} {x0 x1 x2 x3}:(K.sto x0 x1 x2 x3).wpE P A ρ H nx C=(K.sto x0 x1 x2 x3).wp P ρ H nx C:=propext Iff.rfl
theorem a6A {A:Nat→Prop} {x0 x1 x2}:(K.idx x0 x1 x2).wpE P A ρ H nx C=(K.idx x0 x1 x2).wp P ρ H nx C:=propext Iff.rfl
theorem a4I {A:Nat→Prop} {x0 x1 x2 x3 x4}:(K.aidx x0 x1 x2 x3 x4).wpE P A ρ H nx C=(K.aidx x0 x1 x2 x3 x4).wp P ρ H nx C:=propext Iff.rfl
theorem a6B {A:Nat→Prop} {x0 x1 x2 x3}:(K.fad x0 x1 x2 x3).wpE P A ρ H nx C=(K.fad x0 x1 x2 x3).wp P ρ H nx C:=propext Iff.rfl
theorem a6C {A:Nat→Prop} {x0 x1 x2 x3}:(K.fld x0 x1 x2 x3).wpE P A ρ H nx C=(K.fld x0 x1 x2 x3).wp P ρ H nx C:=propext Iff.rfl
theorem a6D {A:Nat→Prop} {x0}:(K.len x0).wpE P A ρ H nx C=(K.len x0).wp P ρ H nx C:=propext Iff.rfl
theorem a4J {A:Nat→Prop} {x0}:(K.lens x0).wpE P A ρ H nx C=(K.lens x0).wp P ρ H nx C:=propext Iff.rfl
theorem a6E {A:Nat→Prop} {x0 x1 x2}:(K.bin x0 x1 x2).wpE P A ρ H nx C=(K.bin x0 x1 x2).wp P ρ H nx C:=propext Iff.rfl
theorem a6F {A:Nat→Prop} {x0 x1 x2}:(K.beq x0 x1 x2).wpE P A ρ H nx C=(K.beq x0 x1 x2).wp P ρ H nx C:=propext Iff.rfl
theorem b0S {A:Nat→Prop} {x0 x1}:(K.un x0 x1).wpE P A ρ H nx C=(K.un x0 x1).wp P ρ H nx C:=propext Iff.rfl
theorem a4K {A:Nat→Prop} {x0 x1}:(K.conv x0 x1).wpE P A ρ H nx C=(K.conv x0 x1).wp P ρ H nx C:=propext Iff.rfl
theorem b0T {A:Nat→Prop} {x0 x1 x2 x3}:(K.sl x0 x1 x2 x3).wpE P A ρ H nx C=(K.sl x0 x1 x2 x3).wp P ρ H nx C:=propext Iff.rfl
theorem a6G {A:Nat→Prop} {x0 x1 x2}:(K.sls x0 x1 x2).wpE P A ρ H nx C=(K.sls x0 x1 x2).wp P ρ H nx C:=propext Iff.rfl
theorem b0U {A:Nat→Prop} {x0 x1 x2 x3 x4 x5}:(K.mk x0 x1 x2 x3 x4 x5).wpE P A ρ H nx C=(K.mk x0 x1 x2 x3 x4 x5).wp P ρ H nx C:=propext Iff.rfl
theorem a6H {A:Nat→Prop} {x0 x1 x2 x3 x4}:(K.app x0 x1 x2 x3 x4).wpE P A ρ H nx C=(K.app x0 x1 x2 x3 x4).wp P ρ H nx C:=propext Iff.rfl
theorem a6I {A:Nat→Prop} {x0 x1 x2 x3 x4}:(K.bsl x0 x1 x2 x3 x4).wpE P A ρ H nx C=(K.bsl x0 x1 x2 x3 x4).wp P ρ H nx C:=propext Iff.rfl
theorem a6J {A:Nat→Prop} {x0 x1}:(K.bld x0 x1).wpE P A ρ H nx C=(K.bld x0 x1).wp P ρ H nx C:=propext Iff.rfl
theorem a6K {A:Nat→Prop} {x0 x1}:(K.box x0 x1).wpE P A ρ H nx C=(K.box x0 x1).wp P ρ H nx C:=propext Iff.rfl
theorem a6L {A:Nat→Prop} {x0 x1}:(K.alc x0 x1).wpE P A ρ H nx C=(K.alc x0 x1).wp P ρ H nx C:=propext Iff.rfl
theorem a6M {A:Nat→Prop} {x0 x1}:(K.mkf x0 x1).wpE P A ρ H nx C=(K.mkf x0 x1).wp P ρ H nx C:=propext Iff.rfl
theorem a6N {A:Nat→Prop} {x0 x1}:(K.mkb x0 x1).wpE P A ρ H nx C=(K.mkb x0 x1).wp P ρ H nx C:=propext Iff.rfl
theorem a6O {A:Nat→Prop} {x0}:(K.nck x0).wpE P A ρ H nx C=(K.nck x0).wp P ρ H nx C:=propext Iff.rfl
theorem a6P {A:Nat→Prop} {x0 x1}:(K.ext x0 x1).wpE P A ρ H nx C=(K.ext x0 x1).wp P ρ H nx C:=propext Iff.rfl
theorem a6Q {A:Nat→Prop} {x0 x1}:(K.pur x0 x1).wpE P A ρ H nx C=(K.pur x0 x1).wp P ρ H nx C:=propext Iff.rfl
theorem a6R {A:Nat→Prop} {x0 x1}:(K.see x0 x1).wpE P A ρ H nx C=(K.see x0 x1).wp P ρ H nx C:=propext Iff.rfl
theorem a6S {A:Nat→Prop} {x0 x1}:(K.eff x0 x1).wpE P A ρ H nx C=(K.eff x0 x1).wp P ρ H nx C:=propext Iff.rfl
theorem a4L {A:Nat→Prop} {x0 x1}:(K.ycal x0 x1).wpE P A ρ H nx C=(K.ycal x0 x1).wp P ρ H nx C:=propext Iff.rfl
theorem b6m (x:Operand):(K.mv x).wp P ρ H nx C=(C (ρ x) H nx):=propext Iff.rfl
theorem a6T (c a b:Operand):(K.pick c a b).wp P ρ H nx C=(match ρ c with
 | .val (.bool t)=>if t=true then C (ρ a) H nx else C (ρ b) H nx
 | _=>False):=by
 simp only[K.wp];generalize ρ c=v;cases v<;>try rfl
 rename_i v;cases v<;>first | rfl | exact c1j
theorem b6n (ag:Bool) (n:Nat) (x:Operand):(K.ld ag n x).wp P ρ H nx C=(match ρ x with
 | .ip y=>c0L ag n y∧C y H nx
 | .ptr id s off=>match H[id]? with
  | some ⟨s',ty',sz',cs'⟩=>s'=s∧a0D cs' off ag n (fun y=>C y H nx) .mk
  | none=>False
 | _=>False):=by
 simp only[K.wp];generalize ρ x=a;cases a<;>first | rfl | (rename_i id s off;dsimp only;generalize H[id]? = o;cases o<;>first | rfl | (rename_i ob;cases ob;rfl))
theorem b0V (ag:Bool) (n:Nat) (x y:Operand):(K.sto ag n x y).wp P ρ H nx C=(match ρ x with
 | .ptr id s off=>match H[id]? with
  | some ⟨s',ty',sz',cs'⟩=>s'=s∧off+n≤cs'.length∧b2r ag n (ρ y) ∧
   C (.val undef) (H.set id ⟨s',ty',sz',b7H cs' off (ρ y)⟩) nx
  | none=>False
 | _=>False):=by
 simp only[K.wp];generalize ρ x=a;cases a<;>first | rfl | (rename_i id s off;dsimp only;generalize H[id]? = o;cases o<;>first | rfl | (rename_i ob;cases ob;rfl))
theorem b0W (sz:Nat) (x i:Operand):(K.idx sz x i).wp P ρ H nx C=(match ρ x,ρ i with
 | .imm sz' xs,.val (.int _ k)=>sz'=sz∧c9a xs k (fun y=>C (.ip y) H nx) .mk
 | .ref id s off ln,.val (.int _ k)=>match H[id]? with
  | some ⟨s',ty',sz',cs'⟩=>s'=s∧sz'=sz∧0≤k∧k.toNat<ln∧C (.ptr id s (off+k.toNat*sz)) H nx
  | none=>False
 | _,_=>False):=by
 simp only[K.wp];generalize ρ x=a;generalize ρ i=b;cases a
 case ref id s off ln =>
  cases b
  case val v =>
   cases v
   case int k q=>dsimp only;generalize H[id]? = o;cases o<;>first | rfl | (rename_i ob;cases ob;rfl)
   all_goals rfl
  all_goals rfl
 all_goals first | rfl | (cases b<;>first | rfl | (rename_i v;cases v<;>rfl))
theorem a6U (n0:Nat) (ag:Bool) (sz:Nat) (x i:Operand):(K.aidx n0 ag sz x i).wp P ρ H nx C=(match ρ x,ρ i with
 | .ip (.agg cs),.val (.int _ k)=>0≤k∧k.toNat<n0∧a0D cs (k.toNat*sz) ag sz (fun y=>C (.ip y) H nx) .mk
 | .ptr id s off,.val (.int _ k)=>match H[id]? with
  | some ⟨s',ty',sz',cs'⟩=>s'=s∧0≤k∧k.toNat<n0∧C (.ptr id s (off+k.toNat*sz)) H nx
  | none=>False
 | _,_=>False):=by
 simp only[K.wp];generalize ρ x=a;generalize ρ i=b;cases a
 case ptr id s off =>
  cases b
  case val v =>
   cases v
   case int k q=>dsimp only;generalize H[id]? = o;cases o<;>first | rfl | (rename_i ob;cases ob;rfl)
   all_goals rfl
  all_goals rfl
 case ip y=>cases y<;>first | rfl | (cases b<;>first | rfl | (rename_i v;cases v<;>rfl))
 all_goals first | rfl | (cases b<;>first | rfl | (rename_i v;cases v<;>rfl))
theorem b0X (off:Nat) (ag:Bool) (n:Nat) (x:Operand):(K.fad off ag n x).wp P ρ H nx C=(match ρ x with
 | .ip (.agg cs)=>a0D cs off ag n (fun y=>C (.ip y) H nx) .mk
 | .ptr id s o=>match H[id]? with
  | some ⟨s',ty',sz',cs'⟩=>s'=s∧C (.ptr id s (o+off)) H nx
  | none=>False
 | _=>False):=by
 simp only[K.wp];generalize ρ x=a;cases a
 case ptr id s off =>
  dsimp only;generalize H[id]? = o;cases o<;>first | rfl | (rename_i ob;cases ob;rfl)
 case ip y=>cases y<;>rfl
 all_goals rfl
theorem b0Y (off:Nat) (ag:Bool) (n:Nat) (x:Operand):(K.fld off ag n x).wp P ρ H nx C=(match ρ x with
 | .agg cs=>a0D cs off ag n (fun y=>C y H nx) .mk
 | _=>False):=propext Iff.rfl
theorem b0Z (x:Operand):(K.len x).wp P ρ H nx C=(match ρ x with
 | .imm _ xs=>C (.val (.int .i64 xs.length)) H nx
 | .ref id s _ ln=>match H[id]? with
  | some ⟨s',ty',sz',cs'⟩=>s'=s∧C (.val (.int .i64 ln)) H nx
  | none=>False
 | .val (.slice none 0 0)=>C (.val (.int .i64 0)) H nx
 | _=>False):=by
 simp only[K.wp];generalize ρ x=a;cases a
 case ref id s off ln =>
  dsimp only;generalize H[id]? = o;cases o<;>first | rfl | (rename_i ob;cases ob;rfl)
 case val v =>
  cases v
  case slice a n c=>cases a<;>first | rfl | (cases n<;>first | rfl | (cases c<;>rfl))
  all_goals rfl
 all_goals rfl
theorem a6V (x:Operand):(K.lens x).wp P ρ H nx C=(match ρ x with
 | .val (.string s)=>C (.val (.int .i64 s.size)) H nx
 | _=>False):=propext Iff.rfl
theorem b1a (op:BinOp) (x y:Operand):(K.bin op x y).wp P ρ H nx C=(match ρ x,ρ y with
 | .val a,.val b=>a6d op a b∧C (.val (b3R op a b)) H nx
 | _,_=>False):=propext Iff.rfl
theorem b1b (neg:Bool) (x y:Operand):(K.beq neg x y).wp P ρ H nx C=(match ρ x,ρ y with
 | .val (.bool a),.val (.bool b)=>C (.val (.bool (if neg then !(a == b) else a == b))) H nx
 | _,_=>False):=propext Iff.rfl
theorem b6o (op:UnOp) (x:Operand):(K.un op x).wp P ρ H nx C=(match ρ x with
 | .val a=>c0M op a∧C (.val (unR op a)) H nx
 | _=>False):=propext Iff.rfl
theorem a6W (k:IntKind) (x:Operand):(K.conv k x).wp P ρ H nx C=(match ρ x with
 | .val (.int _ n)=>C (.val (.int k (k.wrap n))) H nx
 | _=>False):=propext Iff.rfl
theorem b6p (sz:Nat) (x:Operand) (lo hi:Option Operand):(K.sl sz x lo hi).wp P ρ H nx C=(match ρ x with
 | .imm sz' xs=>match a0V ρ 0 lo,a0V ρ xs.length hi with
  | some l,some h=>sz'=sz∧0≤l∧l≤h∧h≤xs.length∧C (.imm sz ((xs.take h.toNat).drop l.toNat)) H nx
  | _,_=>False
 | .ref id s off ln=>match H[id]? with
  | some ⟨s',ty',sz',cs'⟩=>match a0V ρ 0 lo,a0V ρ ln hi with
   | some l,some h=>s'=s∧sz'=sz∧0≤l∧l≤h∧h≤ln∧C (.ref id s (off+l.toNat*sz) (h.toNat-l.toNat)) H nx
   | _,_=>False
  | none=>False
 | .val (.slice none 0 0)=>match a0V ρ 0 lo,a0V ρ 0 hi with
  | some l,some h=>l=0∧h=0∧C (.val (.slice none 0 0)) H nx
  | _,_=>False
 | _=>False):=by
 simp only[K.wp];generalize ρ x=a;cases a
 case ref id s off ln =>
  dsimp only;generalize H[id]? = o;cases o<;>first | rfl | (rename_i ob;cases ob;rfl)
 case val v =>
  cases v
  case slice a n c=>cases a<;>first | rfl | (cases n<;>first | rfl | (cases c<;>rfl))
  all_goals rfl
 all_goals rfl
theorem b1c (x:Operand) (lo hi:Option Operand):(K.sls x lo hi).wp P ρ H nx C=(match ρ x with
 | .val (.string t)=>match a0V ρ 0 lo,a0V ρ t.size hi with
  | some l,some h=>0≤l∧l≤h∧h≤t.size∧C (.val (.string (t.extract l.toNat h.toNat))) H nx
  | _,_=>False
 | _=>False):=propext Iff.rfl
theorem b6q (ty sz bytes:Nat) (z:List Value) (n c:Operand):(K.mk ty sz bytes z n c).wp P ρ H nx C=(match ρ n,ρ c with
 | .val (.int _ l),.val (.int _ k)=>0≤l∧l≤k∧k≤140737488355328∧k*bytes≤140737488355328∧C (.ref H.length nx 0 l.toNat) (H++[⟨nx,ty,sz,(List.replicate l.toNat (z.map AV.val)).flatten⟩]) (nx+1)
 | _,_=>False):=propext Iff.rfl
theorem b1d (ty sz bytes:Nat) (x y:Operand):(K.app ty sz bytes x y).wp P ρ H nx C=(a2O H sz (ρ y)∧(match ρ x with
 | .val (.slice none 0 0)=>a0E (ρ y)≤maxLen∧a0E (ρ y)*bytes≤140737488355328 ∧
  C (.ref H.length nx 0 (a0E (ρ y))) (H++[⟨nx,ty,sz,a0x H sz (ρ y)⟩]) (nx+1)
 | .ref id s off ln=>match H[id]? with
  | some ⟨s',ty',sz',cs'⟩=>s'=s∧ty'=ty∧sz'=sz∧ln+a0E (ρ y)≤maxLen∧(ln+a0E (ρ y))*bytes≤140737488355328 ∧
   C (.ref id nx 0 (ln+a0E (ρ y))) (H.set id ⟨nx,ty,sz,(cs'.drop off).take (ln*sz)++a0x H sz (ρ y)⟩) (nx+1)
  | none=>False
 | _=>False)):=by
 simp only[K.wp];generalize ρ x=a;cases a
 case ref id s off ln =>
  dsimp only;generalize H[id]? = o;cases o<;>first | rfl | (rename_i ob;cases ob;rfl)
 case val v =>
  cases v
  case slice a n c=>cases a<;>first | rfl | (cases n<;>first | rfl | (cases c<;>rfl))
  all_goals rfl
 all_goals rfl
theorem b1e (ty sz n:Nat) (z:List Value) (parts:List (Nat × Nat × Operand)):(K.bsl ty sz n z parts).wp P ρ H nx C=(a3m (n*sz) (a1i ρ parts)∧C (.ref H.length nx 0 n) (H++[⟨nx,ty,sz,a5w (z.map AV.val) (a1i ρ parts)⟩]) (nx+1)):=propext Iff.rfl
theorem b1f (z:List Value) (parts:List (Nat × Nat × Operand)):(K.bld z parts).wp P ρ H nx C=(a3m z.length (a1i ρ parts)∧C (.agg (a5w (z.map AV.val) (a1i ρ parts))) H nx):=propext Iff.rfl
theorem b1g (ty:Nat) (x:Operand):(K.box ty x).wp P ρ H nx C=((ρ x).laid=true∧C (.ptr H.length nx 0) (H++[⟨nx,ty,1,(ρ x).cells⟩]) (nx+1)):=propext Iff.rfl
theorem b1h (ty:Nat) (z:List Value):(K.alc ty z).wp P ρ H nx C=(C (.ptr H.length nx 0) (H++[⟨nx,ty,1,z.map AV.val⟩]) (nx+1)):=propext Iff.rfl
theorem b1i (f:Nat) (cs:List Operand):(K.mkf f cs).wp P ρ H nx C=(C (.fn f (evs ρ cs)) H nx):=propext Iff.rfl
theorem b1j (f:Nat) (cs:List Operand):(K.mkb f cs).wp P ρ H nx C=(C (.bm f (evs ρ cs)) H nx):=propext Iff.rfl
theorem b1k (x:Operand):(K.nck x).wp P ρ H nx C=(match ρ x with
 | .ip y=>C (.ip y) H nx
 | .ptr id s off=>match H[id]? with
  | some ⟨s',ty',sz',cs'⟩=>s'=s∧C (.ptr id s off) H nx
  | none=>False
 | .fn f cs=>C (.fn f cs) H nx
 | .bm f cs=>C (.bm f cs) H nx
 | _=>False):=by
 simp only[K.wp];generalize ρ x=a;cases a<;>first | rfl | (rename_i id s off;dsimp only;generalize H[id]? = o;cases o<;>first | rfl | (rename_i ob;cases ob;rfl))
theorem b1l (x:Operand) (i:Nat):(K.ext x i).wp P ρ H nx C=(match ρ x with
 | .tup cs=>i<cs.length∧C (cs.getD i .dead) H nx
 | _=>False):=propext Iff.rfl
theorem a6X (f:Operand) (args:List Operand):(K.call f args).wp P ρ H nx C=(match ρ f with
 | .fn g cs=>a4E P g (evs ρ args++cs) H nx C .mk
 | .bm g cs=>a4E P g (cs++evs ρ args) H nx C .mk
 | _=>False):=propext Iff.rfl
theorem c3g (st:Bool) (f:Operand) (args:List Operand):(K.callM st f args).wp P ρ H nx C=(match ρ f with
 | .fn g cs=>a4E P g (evs ρ args++cs) H nx C .mk
 | .bm g cs=>a4E P g (cs++evs ρ args) H nx C .mk
 | _=>False):=propext Iff.rfl
theorem a4M (f:Operand) (args:List Operand):(K.callA f args).wp P ρ H nx C=(match ρ f with
 | .fn g cs=>a4E P g (evs ρ args++cs) H nx C .mk
 | .bm g cs=>a4E P g (cs++evs ρ args) H nx C .mk
 | _=>False):=propext Iff.rfl
end
section
variable {P:Program} {Q:St→Prop} {st:St}
theorem a4N:a5X P [] Q st=Q st:=propext Iff.rfl
theorem a6Y {d:Option Nat} {k:K} {l:List VOp}:a5X P (⟨d,none,k⟩::l) Q st=k.wp P (evF (get st.env)) st.H st.nx fun r H nx=>a5X P l Q (St.put ⟨st.env,H,nx⟩ d r):=propext Iff.rfl
theorem a6Z {d:Option Nat} {t:Nat} {want:Bool} {k:K} {l:List VOp}:a5X P (⟨d,some (t,want),k⟩::l) Q st=(match get st.env t with
 | .val (.bool b)=>if b=want then k.wp P (evF (get ((t,.val (.bool want))::st.env))) st.H st.nx fun r H nx=>a5X P l Q (St.put ⟨(t,.val (.bool want))::st.env,H,nx⟩ d r)
  else a5X P l Q (St.put ⟨(t,.val (.bool (!want)))::st.env,st.H,st.nx⟩ d (.val undef))
 | .val _=>a5X P l Q (st.put d (.val undef))
 | _=>False):=by
 simp only[a5X];generalize get st.env t=v;cases v<;>try rfl
 rename_i v;cases v<;>first | rfl | exact b8O
theorem a7a {e:Nat→AV} {t:Nat}:evF e (.tmp t)=e t:=rfl
theorem a3x {e:Nat→AV} {v:Value}:evF e (.const v)=cv v:=rfl
theorem a4O {e:Nat→AV} {f:Nat}:evF e (.func f) = .fn f []:=rfl
theorem b1m {k:IntKind} {n:Int}:cv (.int k n) = .val (.int k n):=rfl
theorem a7b {b:Bool}:cv (.bool b) = .val (.bool b):=rfl
theorem a4P {a:Option Addr} {n c:Nat}:cv (.slice a n c) = .val (.slice a n c):=rfl
theorem a3y {b:ByteArray}:cv (.string b) = .val (.string b):=rfl
end
/-! The second edition's operations. -/
def c5i (P:Program) (f:Nat) (cs:List AV) (ps:List Nat) (x:VC) (Q:VE→St→Prop) (env:List (Nat × AV)) (H0:List VObj) (nx0:Nat) (_:Tok (ULift.up.{1} Q)):Prop :=
 ∀ R B E:VObj,R.sz=0→(∀ (args:List AV) (H:List VObj) (nx:Nat) (C:AV→List VObj→Nat→Prop),H[H0.length]? = some R→args.length=ps.length →
  VW P x (fun e st'=>e = .normal∧st'.H[H0.length]? = some B∧C (.val (.bool true)) (st'.H.set H0.length R) st'.nx) ⟨ps.zip args++env,H.set H0.length B,nx⟩→YCall P H0.length nx0 args H nx C) →
  VCall P f (.yld H0.length nx0::cs) (H0++[R]) (nx0+1) fun _ H nx=>H[H0.length]? = some R∧Q .normal ⟨env,H.set H0.length E,nx⟩
theorem a4Q {P:Program} {g:Operand} {ps:List Nat} {x:VC} {Q:VE→St→Prop} {env:List (Nat × AV)} {H:List VObj} {nx:Nat}:VW P (.range g ps x) Q ⟨env,H,nx⟩=(match evF (get env) g with
 | .fn f cs=>c5i P f cs ps x Q env H nx .mk
 | _=>False):=propext Iff.rfl
def c7l (P:Program) (id s:Nat) (args:List AV) (H:List VObj) (nx:Nat) (C:AV→List VObj→Nat→Prop) (_:Tok (ULift.up.{1} C)):Prop:=YCall P id s args H nx C
def eqT (ks:List LK) (xs ys:List AV) (acc:Bool) (C:Bool→Prop) (_:Tok (ULift.up.{1} C)):Prop:=eqW ks xs ys acc C
def c3h (k:Value) (cs:List AV) (C:Option AV→Prop) (_:Tok (ULift.up.{1} C)):Prop:=a7W k cs C
def c7m (xs:List AV) (C:ByteArray→Prop) (_:Tok (ULift.up.{1} C)):Prop:=match bytesOf xs with
 | some l=>C ⟨l.toArray⟩
 | none=>False
abbrev U8 (b:UInt8):AV:=.val (.int .u8 (b.toNat:Nat))
abbrev U32 (n:Int):AV:=.val (.int .u32 n)
abbrev a2W (s:ByteArray):AV:=.val (.string s)
theorem a7c {acc:Bool} {C:Bool→Prop}:eqT [] [] [] acc C .mk=C acc:=rfl
theorem a7d {ks:List LK} {k k':IntKind} {a b:Int} {xs ys:List AV} {acc:Bool} {C:Bool→Prop}:eqT (.int::ks) (.val (.int k a)::xs) (.val (.int k' b)::ys) acc C .mk=(k=k'∧eqT ks xs ys (acc && (a == b)) C .mk):=rfl
theorem a4R {ks:List LK} {a b:Bool} {xs ys:List AV} {acc:Bool} {C:Bool→Prop}:eqT (.bool::ks) (.val (.bool a)::xs) (.val (.bool b)::ys) acc C .mk=eqT ks xs ys (acc && (a == b)) C .mk:=rfl
theorem a7e {ks:List LK} {a b:ByteArray} {xs ys:List AV} {acc:Bool} {C:Bool→Prop}:eqT (.str::ks) (.val (.string a)::xs) (.val (.string b)::ys) acc C .mk=eqT ks xs ys (acc && (a == b)) C .mk:=rfl
theorem b0i:∀ (l:List UInt8),bytesOf (l.map U8)=some l
 | []=>rfl
 | b::l=>by simp[bytesOf,b0i l]
theorem a7f {l:List UInt8} {C:ByteArray→Prop}:c7m (l.map U8) C .mk=C ⟨l.toArray⟩:=by simp only[c7m,b0i]
theorem a3Q {C:ByteArray→Prop}:c7m [] C .mk=C ⟨#[]⟩:=rfl
theorem a3z {k:Value} {C:Option AV→Prop}:c3h k [] C .mk=C none:=rfl
theorem a2F {i j:IntKind} {a b:Int} {v:AV} {l:List AV} {C:Option AV→Prop}:c3h (.int i a) (.val (.int j b)::v::l) C .mk=(i=j∧(a=b→C (some v))∧(a≠b→c3h (.int i a) l C .mk)):=rfl
section
variable {P:Program} {ρ:Operand→AV} {H:List VObj} {nx:Nat} {C:AV→List VObj→Nat→Prop}
theorem a7g (f:Operand) (args:List Operand):(K.ycal f args).wp P ρ H nx C=(match ρ f with
 | .yld id s=>c7l P id s (evs ρ args) H nx C .mk
 | _=>False):=rfl
theorem b1n (x i:Operand):(K.pur .six [x,i]).wp P ρ H nx C=(match ρ x,ρ i with
 | .val (.string s),.val (.int _ k)=>0≤k∧k.toNat<s.size∧C (.val (.int .u8 (a1v s k.toNat))) H nx
 | _,_=>False):=by
 simp only[K.wp,evs];generalize ρ x=a;generalize ρ i=b;cases a<;>first | rfl | (rename_i v;cases v<;>first | rfl | (cases b<;>first | rfl | (rename_i v;cases v<;>rfl)))
theorem b1o (n:Nat) (ag:Bool) (sz:Nat) (x i:Operand):(K.pur (.ixv n ag sz) [x,i]).wp P ρ H nx C=(match ρ x,ρ i with
 | .agg cs,.val (.int _ k)=>0≤k∧k.toNat<n∧a0D cs (k.toNat*sz) ag sz (fun y=>C y H nx) .mk
 | _,_=>False):=by
 simp only[K.wp,evs];generalize ρ x=a;generalize ρ i=b;cases a<;>first | rfl | (cases b<;>first | rfl | (rename_i v;cases v<;>rfl))
theorem b1p (neg:Bool) (ks:List LK) (x y:Operand):(K.pur (.eqv neg ks) [x,y]).wp P ρ H nx C=(match ρ x,ρ y with
 | .agg xs,.agg ys=>eqT ks xs ys true (fun b=>C (.val (.bool (if neg then !b else b))) H nx) .mk
 | _,_=>False):=by
 simp only[K.wp,evs];generalize ρ x=a;generalize ρ y=b;cases a<;>first | rfl | (cases b<;>rfl)
theorem b6r (x y:Operand):(K.pur .mx [x,y]).wp P ρ H nx C=(match ρ x,ρ y with
 | .val (.int k a),.val (.int _ b)=>C (.val (.int k (if b > a then b else a))) H nx
 | _,_=>False):=by
 simp only[K.wp,evs];generalize ρ x=a;generalize ρ y=b;cases a<;>first | rfl | (rename_i v;cases v<;>first | rfl | (cases b<;>first | rfl | (rename_i v;cases v<;>rfl)))
theorem b6s (x y:Operand):(K.pur .mn [x,y]).wp P ρ H nx C=(match ρ x,ρ y with
 | .val (.int k a),.val (.int _ b)=>C (.val (.int k (if b<a then b else a))) H nx
 | _,_=>False):=by
 simp only[K.wp,evs];generalize ρ x=a;generalize ρ y=b;cases a<;>first | rfl | (rename_i v;cases v<;>first | rfl | (cases b<;>first | rfl | (rename_i v;cases v<;>rfl)))
theorem a7h (neg:Bool) (x:Operand):(K.pur (.nilq neg) [x]).wp P ρ H nx C=(match ρ x with
 | .fn _ _=>C (.val (.bool neg)) H nx
 | .bm _ _=>C (.val (.bool neg)) H nx
 | .val .nilFunc=>C (.val (.bool (!neg))) H nx
 | _=>False):=by
 simp only[K.wp,evs];generalize ρ x=a;cases a<;>first | rfl | (rename_i v;cases v<;>rfl)
theorem a7i (neg:Bool) (x:Operand):(K.pur (.nils neg) [x]).wp P ρ H nx C=(match ρ x with
 | .imm _ xs=>xs≠[]∧C (.val (.bool neg)) H nx
 | .val (.slice none 0 0)=>C (.val (.bool (!neg))) H nx
 | _=>False):=by
 simp only[K.wp,evs];generalize ρ x=a;cases a
 case val v =>
  cases v
  case slice a n c=>cases a<;>first | rfl | (cases n<;>first | rfl | (cases c<;>rfl))
  all_goals rfl
 all_goals rfl
theorem b1q (x:Operand):(K.see .b2s [x]).wp P ρ H nx C=(match ρ x with
 | .val (.slice none 0 0)=>C (.val (.string .empty)) H nx
 | .imm sz xs=>sz=1∧c7m xs (fun s=>C (.val (.string s)) H nx) .mk
 | .ref id s off len=>(match H[id]? with
  | some ⟨s',ty',sz',cs'⟩=>s'=s∧sz'=1∧c7m ((cs'.drop off).take len) (fun s=>C (.val (.string s)) H nx) .mk
  | none=>False)
 | _=>False):=by
 simp only[K.wp,evs];generalize ρ x=a;cases a<;>first | rfl | skip
 case val v=>cases v<;>first | rfl | (rename_i b n c;cases b<;>first | rfl | (cases n<;>first | rfl | (cases c<;>rfl)))
 case ref id s off len=>simp only[SOp.go];generalize H[id]? = o;cases o<;>first | rfl | (rename_i ob;cases ob;rfl)
theorem a7j (ok:Bool) (z:Value) (x i:Operand):(K.see (.look ok z) [x,i]).wp P ρ H nx C=(match ρ x,ρ i with
 | .mref id s,.val (.int k a)=>(match H[id]? with
  | some ⟨s',ty',sz',cs'⟩=>s'=s∧sz'=0∧c3h (.int k a) cs' (fun r=>C (if ok then .tup [(match r with | some v=>v | none=>cv z),.val (.bool r.isSome)] else (match r with | some v=>v | none=>cv z)) H nx) .mk
  | none=>False)
 | _,_=>False):=by
 simp only[K.wp,evs];generalize ρ x=a;generalize ρ i=b;cases a<;>first | rfl | skip
 case mref id s =>
  cases b<;>first | rfl | skip
  rename_i v;cases v<;>first | rfl | skip
  simp only[SOp.go];generalize H[id]? = o;cases o<;>first | rfl | (rename_i ob;cases ob;rfl)
theorem a7k (x:Operand):(K.see .mlen [x]).wp P ρ H nx C=(match ρ x with
 | .mref id s=>(match H[id]? with
  | some ⟨s',ty',sz',cs'⟩=>s'=s∧sz'=0∧(∀ r,cs'.head?≠some (.lp r))∧C (.val (.int .i64 (cs'.length / 2:Nat))) H nx
  | none=>False)
 | _=>False):=by
 simp only[K.wp,evs];generalize ρ x=a;cases a<;>first | rfl | skip
 case mref id s=>simp only[SOp.go];generalize H[id]? = o;cases o<;>first | rfl | (rename_i ob;cases ob;rfl)
theorem b1r (sz:Nat) (x y:Operand):(K.eff (.cpy sz) [x,y]).wp P ρ H nx C=(match ρ x with
 | .ref id s off len=>(match H[id]? with
  | some ⟨s',ty',sz',cs'⟩=>s'=s∧sz'=sz∧a2O H sz (ρ y) ∧
   C (.val (.int .i64 (min len (a0E (ρ y)):Nat))) (H.set id ⟨s',ty',sz',cs'.take off++(a0x H sz (ρ y)).take (min len (a0E (ρ y))*sz)++cs'.drop (off+min len (a0E (ρ y))*sz)⟩) nx
  | none=>False)
 | _=>False):=by
 simp only[K.wp,evs];generalize ρ x=a;cases a<;>first | rfl | skip
 case ref id s off len=>simp only[EOp.go];generalize H[id]? = o;cases o<;>first | rfl | (rename_i ob;cases ob;rfl)
theorem b1s (z:Value) (x:Operand):(K.eff (.clr z) [x]).wp P ρ H nx C=(match ρ x with
 | .ref id s off len=>(match H[id]? with
  | some ⟨s',ty',sz',cs'⟩=>s'=s∧sz'=1∧C (.tup []) (H.set id ⟨s',ty',sz',cs'.take off++List.replicate len (.val z)++cs'.drop (off+len)⟩) nx
  | none=>False)
 | _=>False):=by
 simp only[K.wp,evs];generalize ρ x=a;cases a<;>first | rfl | skip
 case ref id s off len=>simp only[EOp.go];generalize H[id]? = o;cases o<;>first | rfl | (rename_i ob;cases ob;rfl)
theorem a7l (neg:Bool) (x:Operand):(K.eff (.nilr neg) [x]).wp P ρ H nx C=(match ρ x with
 | .ref id s _ len=>(match H[id]? with
  | some ⟨s',ty',sz',cs'⟩=>s'=s∧sz'≠0∧C (.val (.bool neg)) H nx∧(len=0→C (.val (.bool (!neg))) H nx)
  | none=>False)
 | .imm _ xs=>xs≠[]∧C (.val (.bool neg)) H nx
 | .val (.slice none 0 0)=>C (.val (.bool (!neg))) H nx
 | _=>False):=by
 simp only[K.wp,evs];generalize ρ x=a;cases a
 case val v =>
  cases v
  case slice a n c=>cases a<;>first | rfl | (cases n<;>first | rfl | (cases c<;>rfl))
  all_goals rfl
 case ref id s off len=>simp only[EOp.go];generalize H[id]? = o;cases o<;>first | rfl | (rename_i ob;cases ob;rfl)
 all_goals rfl
theorem b1t (ty:Nat) (x:Operand):(K.eff (.s2b ty) [x]).wp P ρ H nx C=(match ρ x with
 | .val (.string b)=>b.size≤70368744177664∧C (.ref H.length nx 0 b.size) (H++[⟨nx,ty,1,b.data.toList.map U8⟩]) (nx+1)
 | _=>False):=by
 simp only[K.wp,evs];generalize ρ x=a;cases a<;>first | rfl | (rename_i v;cases v<;>rfl)
theorem b1u:(K.eff .mkm []).wp P ρ H nx C=C (.mref H.length nx) (H++[⟨nx,0,0,[]⟩]) (nx+1):=rfl
theorem b1v (m k v:Operand):(K.eff .upd [m,k,v]).wp P ρ H nx C=(match ρ m,ρ k with
 | .mref id s,.val (.int i a)=>(match H[id]? with
  | some ⟨s',ty',sz',cs'⟩=>s'=s∧sz'=0∧b1Q i cs'∧(ρ v).one=true∧C (.val undef) (H.set id ⟨s',ty',sz',b4G (.int i a) (ρ v) cs'⟩) nx
  | none=>False)
 | _,_=>False):=by
 simp only[K.wp,evs];generalize ρ m=a;generalize ρ k=b;cases a<;>first | rfl | skip
 case mref id s =>
  cases b<;>first | rfl | skip
  rename_i u;cases u<;>first | rfl | skip
  simp only[EOp.go];generalize H[id]? = o;cases o<;>first | rfl | (rename_i ob;cases ob;rfl)
theorem b1w {cs:Array Value}:cv (.agg cs) = .agg (cs.toList.map .val):=rfl
theorem a2G:cv .nilFunc = .val .nilFunc:=rfl
theorem a3A {i:IntKind}:b1Q i []=True:=rfl
theorem a2H {i j:IntKind} {a:Int} {v:AV} {l:List AV}:b1Q i (.val (.int j a)::v::l)=(j=i∧v.one=true∧b1Q i l):=rfl
theorem a4S {k:Value} {v:AV}:b4G k v []=[.val k,v]:=rfl
end
/- THE RULES BY WHICH CODE IS GONE THROUGH lie in the library's own set go_sem; beside it a walk names the simprocs alone (wip/vs.txt). -/
attribute [go_sem ↓]
 a6l b0H b0I a6y b0J a4x a6m b0K a6n a4z a2B a2C a4A a6p a2D a4B a6q a6r
 a0a a4C a4D a3t a3u a3r a4y a6o a3s b0P a4G a3w c1k c1l b0Q a4H b0R a6z a6A a4I a6B
 a6C a6D a4J a6E a6F b0S a4K b0T a6G b0U a6H a6I a6J a6K a6L a6M a6N a6O a6P a6Q a6R
 a6S a4L a8D b7O VR.wp VRs a4F a3v a6s a6t a1j a2E b6m a6T b6n b0V b0W a6U b0X b0Y b0Z
 a6V b1a b1b b6o a6W b6p b1c b6q b1d b1e b1f b1g b1h b1i b1j b1k b1l a6X a4M c3g a4N a6Y a6Z a7a
 a3x a4O b0L b0M b0N b0O a6u a6v a6w a6x a4Q a7g b1n b1o b1p b6r b6s a7h a7i a7l b1q a7j
 a7k b1r b1s b1t b1u b1v a7c a7d a4R a7e a7f a3Q a3z a2F
attribute [go_sem]
 undef K.xtra EOp.adds a2A a6d b3R c0M unR c0L b2r b7H a1f a0F a5w a3m a1i evs a0V AV.cells AV.one AV.laid Value.oneCell' true_and and_true
 List.cons_append List.nil_append List.length_map List.length_cons List.length_nil List.getElem?_cons_zero List.getElem?_cons_succ List.map_cons List.map_nil
 Bool.not_true Bool.not_false forall_const false_implies List.all_cons List.all_nil Bool.and_true Bool.and_self decide_eq_true_eq decide_eq_false_iff_not
 Int.toNat_natCast bne_iff_ne ne_eq Bool.not_eq_true' Bool.not_eq_false' bne_eq_false_iff_eq beq_iff_eq beq_eq_false_iff_ne implies_true List.getD_cons_zero
 List.getD_cons_succ Bool.false_eq_true false_or or_false true_or or_true Int.natCast_nonneg Int.toNat_zero Int.toNat_one List.set_cons_zero List.set_cons_succ
 List.take_zero List.take_succ_cons List.take_nil List.drop_zero List.drop_succ_cons List.drop_nil List.append_nil Nat.zero_add Nat.add_zero Nat.mul_one
 Nat.zero_mul b1m a7b a4P a3y cv Nat.le_refl not_true_eq_false not_false_eq_true decide_true decide_false Bool.true_eq_false a2O a0E
 a0x a8g Old b7M b1w a2G a3A a2H a4S c4H Bool.not_eq_true Bool.not_eq_false Classical.not_not
end Go.V
