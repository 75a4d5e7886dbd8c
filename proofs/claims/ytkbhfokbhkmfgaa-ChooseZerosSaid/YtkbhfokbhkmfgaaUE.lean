/- The engine, part 10: data of given types as values, and the rules by which code is gone through. No condition. -/
import Derived.Test.YtkbhfokbhkmfgaaUS
import Derived.Test.YtkbhfokbhkmfgaaUC
set_option linter.unusedVariables false
set_option linter.unusedSimpArgs false
namespace Go.V
set_option linter.unusedSimpArgs false
set_option linter.unusedVariables false
open Go.RowKit
section
variable {P:Program} {Q:VE→St→Prop} {st:St}
theorem VW_skip:VW P .skip Q st=Q .normal st:=propext Iff.rfl
theorem VW_ops {l:List VOp}:VW P (.ops l) Q st=VOps P l (Q .normal) st:=propext Iff.rfl
theorem VW_par {fm:Bool} {t:PT}:VW P (.par fm t) Q st=VTrL P fm st.H.length (Q .normal) t st:=propext Iff.rfl
theorem VW_seq {x y:VC}:VW P (.seq x y) Q st=VW P x (VE.seq (VW P y Q) Q) st:=propext Iff.rfl
theorem VW_block {id:Nat} {x:VC}:VW P (.block id x) Q st=VW P x (VE.blk id Q) st:=propext Iff.rfl
theorem VW_exit {id:Nat}:VW P (.exit id) Q st=Q (.exit id) st:=propext Iff.rfl
theorem VW_ret:VW P .ret Q st=Q .ret st:=propext Iff.rfl
theorem ite_and {t:Bool} {A B:Prop}:((t=true→A)∧(t=false→B))=(if t=true then A else B):=by
 cases t<;>simp
theorem ite_and2 {b w:Bool} {A B:Prop}:((b=w→A)∧(b=(!w)→B))=(if b=w then A else B):=by
 cases b<;>cases w<;>simp
theorem iteP {p A B:Prop} [Decidable p]:(if p then A else B)=((p→A)∧(¬ p→B)):=by
 by_cases h:p<;>simp[h]
theorem VW_cond {c:Operand} {x y:VC}:VW P (.cond c x y) Q st=(match evF (get st.env) c with
 | .val (.bool t)=>if t=true then VW P x Q ⟨litE c true st.env,st.H,st.nx⟩ else VW P y Q ⟨litE c false st.env,st.H,st.nx⟩
 | _=>False):=by
 simp only[VW]
 generalize evF (get st.env) c=v
 cases v<;>try rfl
 rename_i v
 cases v<;>first | rfl | exact ite_and
section
variable {fm:Bool} {b0:Nat} {Q:St→Prop}
theorem VTrL_done:VTrL P fm b0 Q .done st=Q st:=propext Iff.rfl
theorem VTrL_one {d:Option Nat} {k:K} {t:PT}:VTrL P fm b0 Q (.one ⟨d,none,k⟩ t) st=k.wpD P fm b0 (evF (get st.env)) st.H st.nx fun r H nx=>VTrL P fm b0 Q t (St.put ⟨st.env,H,nx⟩ d r):=propext Iff.rfl
theorem VTrL_if {d:Option Nat} {u:Nat} {want:Bool} {k:K} {t:PT}:VTrL P fm b0 Q (.one ⟨d,some (u,want),k⟩ t) st=(match get st.env u with
 | .val (.bool b)=>if b=want then k.wpD P fm b0 (evF (get ((u,.val (.bool want))::st.env))) st.H st.nx fun r H nx=>VTrL P fm b0 Q t (St.put ⟨(u,.val (.bool want))::st.env,H,nx⟩ d r)
  else VTrL P fm b0 Q t (St.put ⟨(u,.val (.bool (!want)))::st.env,st.H,st.nx⟩ d (.val undef))
 | .val _=>VTrL P fm b0 Q t (st.put d (.val undef))
 | _=>False):=by
 simp only[VTrL]
 generalize get st.env u=v
 cases v<;>try rfl
 rename_i v
 cases v<;>first | rfl | exact ite_and2
theorem VTrL_both {s t:PT}:VTrL P fm b0 Q (.both s t) st=(VTrL P fm b0 Q s st∧VTrL P fm b0 Q t st):=propext Iff.rfl
end
theorem litE_tmp {t:Nat} {b:Bool} {e:List (Nat × AV)}:litE (.tmp t) b e=(t,.val (.bool b))::e:=rfl
theorem litE_const {v:Value} {b:Bool} {e:List (Nat × AV)}:litE (.const v) b e=e:=rfl
theorem seq_normal {n:St→Prop}:VE.seq n Q .normal st=n st:=propext Iff.rfl
theorem seq_exit {n:St→Prop} {id:Nat}:VE.seq n Q (.exit id) st=Q (.exit id) st:=propext Iff.rfl
theorem seq_ret {n:St→Prop}:VE.seq n Q .ret st=Q .ret st:=propext Iff.rfl
theorem blk_normal {id:Nat}:VE.blk id Q .normal st=Q .normal st:=propext Iff.rfl
theorem blk_exit {id j:Nat}:VE.blk id Q (.exit j) st=(if j=id then Q .normal st else Q (.exit j) st):=propext Iff.rfl
theorem blk_ret {id:Nat}:VE.blk id Q .ret st=Q .ret st:=propext Iff.rfl
theorem get_nil {n:Nat}:get [] n = .dead:=rfl
theorem get_cons {k n:Nat} {v:AV} {e:List (Nat × AV)}:get ((k,v)::e) n=if k=n then v else get e n:=rfl
theorem put_some {e:List (Nat × AV)} {H:List VObj} {nx d:Nat} {v:AV}:St.put ⟨e,H,nx⟩ (some d) v=⟨(d,v)::e,H,nx⟩:=rfl
theorem put_none {e:List (Nat × AV)} {H:List VObj} {nx:Nat} {v:AV}:St.put ⟨e,H,nx⟩ none v=⟨e,H,nx⟩:=rfl
theorem put_some' {d:Nat} {v:AV}:st.put (some d) v=⟨(d,v)::st.env,st.H,st.nx⟩:=rfl
theorem put_none' {v:AV}:st.put none v=st:=rfl
theorem VW_loop {x:VC} {S:Type} (f:S→St) (I:S→Prop) (μ:S→Nat) (s0:S) (h0:Wk st (f s0)) (hI:I s0)
 (round:∀ s,I s→VW P x (VE.seq (fun st'=>∃ s',I s'∧μ s'<μ s∧Wk st' (f s')) Q) (f s)):VW P (.loop x) Q st:=by
 refine ⟨fun n st=>∃ s,I s∧μ s=n∧st=f s,μ s0,f s0,h0,⟨s0,hI,rfl,rfl⟩,?_⟩
 rintro n st ⟨s,hs,rfl,rfl⟩
 have:=round s hs
 have hmono:∀ (c:VC) (Q1 Q2:VE→St→Prop) (st:St),(∀ e st,Q1 e st→Q2 e st)→VW P c Q1 st→VW P c Q2 st:=VW_mono
 exact hmono x _ _ _ (fun e st h=>by
  cases e with
  | normal=>obtain ⟨s',h1,h2,h3⟩:=h;exact ⟨f s',μ s',h2,h3,s',h1,rfl,rfl⟩
  | exit id=>exact h
  | ret=>exact h) this
end
abbrev I (n:Int):AV:=.val (.int .i64 n)
abbrev B (b:Bool):AV:=.val (.bool b)
inductive Tok {α:Type 1} (C:α):Type 1 where
 | mk
def VCallT (P:Program) (f:Nat) (args:List AV) (H:List VObj) (nx:Nat) (C:AV→List VObj→Nat→Prop) (_:Tok (ULift.up.{1} C)):Prop:=VCall P f args H nx C
def cellT (cs:List AV) (off:Nat) (ag:Bool) (n:Nat) (C:AV→Prop) (_:Tok (ULift.up.{1} C)):Prop:=cellW cs off ag n C
def idxT (xs:List AV) (k:Int) (C:AV→Prop) (_:Tok (ULift.up.{1} C)):Prop:=idxW xs k C
theorem idxW_map {α:Type} [Inhabited α] {f:α→AV} {xs:List α} {k:Int} {C:AV→Prop}:idxW (xs.map f) k C=(0≤k∧k.toNat<xs.length∧C (f (xs.getD k.toNat default))):=by
 unfold idxW
 apply propext
 simp only[List.length_map]
 refine ⟨fun ⟨h0,h1,h2⟩=>⟨h0,h1,?_⟩,fun ⟨h0,h1,h2⟩=>⟨h0,h1,?_⟩⟩
 ·simpa [List.getD,List.getElem?_eq_getElem h1] using h2
 ·simpa [List.getD,List.getElem?_eq_getElem h1] using h2
theorem cellW_map {α:Type} [Inhabited α] {f:α→AV} (hf:∀ x,(f x).one=true) {xs:List α} {off:Nat} {C:AV→Prop}:cellW (xs.map f) off false 1 C=(off<xs.length∧C (f (xs.getD off default))):=by
 unfold cellW partOK partA
 apply propext
 simp only[List.length_map,Bool.false_eq_true,if_false,false_or,true_and]
 refine ⟨fun ⟨⟨h1,_⟩,h2⟩=>⟨h1,?_⟩,fun ⟨h1,h2⟩=>⟨⟨h1,?_⟩,?_⟩⟩
 ·simpa [List.getD,List.getElem?_eq_getElem (show off<xs.length by omega)] using h2
 ·simpa [List.getD,List.getElem?_eq_getElem h1] using hf _
 ·simpa [List.getD,List.getElem?_eq_getElem h1] using h2
theorem idxT_map {α:Type} [Inhabited α] {f:α→AV} {xs:List α} {k:Int} {C:AV→Prop}:idxT (xs.map f) k C .mk=(0≤k∧k.toNat<xs.length∧C (f (xs.getD k.toNat default))):=idxW_map
theorem idxT_cons {x:AV} {xs:List AV} {k:Int} {C:AV→Prop}:idxT (x::xs) k C .mk=(0≤k∧k.toNat<(x::xs).length∧C ((x::xs).getD k.toNat .dead)):=rfl
theorem cellT_map {α:Type} [Inhabited α] {f:α→AV} (hf:∀ x,(f x).one=true) {xs:List α} {off:Nat} {C:AV→Prop}:cellT (xs.map f) off false 1 C .mk=(off<xs.length∧C (f (xs.getD off default))):=cellW_map hf
theorem cellT_I {xs:List Int} {off:Nat} {C:AV→Prop}:cellT (xs.map I) off false 1 C .mk=(off<xs.length∧C (I (xs.getD off default))):=cellW_map fun _=>rfl
theorem cellT_B {xs:List Bool} {off:Nat} {C:AV→Prop}:cellT (xs.map B) off false 1 C .mk=(off<xs.length∧C (B (xs.getD off default))):=cellW_map fun _=>rfl
theorem cellT_cons {x:AV} {xs:List AV} {off:Nat} {ag:Bool} {n:Nat} {C:AV→Prop}:cellT (x::xs) off ag n C .mk=(partOK (x::xs) off ag n∧C (partA (x::xs) off ag n)):=rfl
theorem imp_tt {A:Prop}:(true=true→A)=A:=by simp
theorem imp_ft {A:Prop}:(false=true→A)=True:=by simp
theorem imp_tf {A:Prop}:(true=false→A)=True:=by simp
theorem imp_ff {A:Prop}:(false=false→A)=A:=by simp
theorem imp_tnt {A:Prop}:(true = !true→A)=True:=by simp
theorem imp_fnt {A:Prop}:(false = !true→A)=A:=by simp
theorem imp_tnf {A:Prop}:(true = !false→A)=A:=by simp
theorem imp_fnf {A:Prop}:(false = !false→A)=True:=by simp
theorem set_map {α:Type} (f:α→AV) (xs:List α) (i:Nat) (y:α):(xs.map f).set i (f y)=(xs.set i y).map f:=(List.map_set ..).symm
theorem i64_in {n:Int} (h1 : -9223372036854775808≤n) (h2:n≤9223372036854775807):IntKind.i64.wrap n=n:=by
 rw[IntKind.wrap_i64];omega
section
variable {P:Program} {ρ:Operand→AV} {H:List VObj} {nx:Nat} {C:AV→List VObj→Nat→Prop}
def ParkT (P:Program) (fm:Bool) (t:PT) (Q:VE→St→Prop) (st:St) (_:Tok (ULift.up.{1} Q)):Prop:=VW P (.park fm t) Q st
theorem VW_park {fm:Bool} {t:PT} {Q:VE→St→Prop} {st:St}:VW P (.park fm t) Q st=ParkT P fm t Q st .mk:=propext Iff.rfl
theorem ParkT.of {fm:Bool} {t:PT} {Q:VE→St→Prop} {st st':St} (hw:Wk st st') (h:VTrL P fm st'.H.length (Q .normal) t st'):ParkT P fm t Q st .mk:=by
 show VW P (.park fm t) Q st
 simp only[VW];exact ⟨st',hw,h⟩
def ECallT (P:Program) (A:Nat→Prop) (g:Nat) (args:List AV) (H:List VObj) (nx:Nat) (C:AV→List VObj→Nat→Prop) (_:Tok (ULift.up.{1} C)):Prop:=ECall P A g args H nx C
theorem ECall.of {A:Nat→Prop} {g:Nat} {args args':List AV} {C0:AV→Prop} (h:Contract P g args' C0) (ha:SleL args args') (h1:∃ r0,∀ r,C0 r↔r=r0) (hK:∀ r,C0 r→C r H nx):ECallT P A g args H nx C .mk:=by
 obtain ⟨r0,h1⟩:=h1
 exact ⟨r0,hK r0 ((h1 r0).2 rfl),fun H' nx' _ K hk=>VCall.of_contract h ha fun r hr=>by rw[(h1 r).1 hr];exact hk⟩
theorem ECall.ofN {A:Nat→Prop} {g:Nat} {args args':List AV} {C0:AV→Prop} (h:ContractN P g args' C0) (ha:∀ (H':List VObj) (nx':Nat),(∀ id ob,A id→H[id]? = some ob→H'[id]? = some ob)→FrzL 0 H' nx' args args') (h1:∃ r0,∀ r,C0 r↔r=r0) (hK:∀ r,C0 r→C r H nx):ECallT P A g args H nx C .mk:=by
 obtain ⟨r0,h1⟩:=h1
 exact ⟨r0,hK r0 ((h1 r0).2 rfl),fun H' nx' hH K hk=>VCall.of_contractN h (ha H' nx' hH) fun r hr=>by rw[(h1 r).1 hr];exact hk⟩
theorem wpD_eq {fm:Bool} {b:Nat} {k:K}:k.wpD P fm b ρ H nx C=(k.xtra fm b ρ∧k.wpE P (CallA fm b) ρ H nx C):=propext Iff.rfl
theorem wpE_call {A:Nat→Prop} {f:Operand} {args:List Operand}:(K.call f args).wpE P A ρ H nx C=(match ρ f with
 | .fn g cs=>ECallT P A g (evs ρ args++cs) H nx C .mk
 | .bm g cs=>ECallT P A g (cs++evs ρ args) H nx C .mk
 | _=>False):=propext Iff.rfl
theorem wpE_callA {A:Nat→Prop} {f:Operand} {args:List Operand}:(K.callA f args).wpE P A ρ H nx C=(match ρ f with
 | .fn g cs=>VCallT P g (evs ρ args++cs) H nx (fun r H' nx'=>(∃ R,H'=H++R)∧C r H' nx') .mk
 | .bm g cs=>VCallT P g (cs++evs ρ args) H nx (fun r H' nx'=>(∃ R,H'=H++R)∧C r H' nx') .mk
 | _=>False):=propext Iff.rfl
theorem wpE_callM {A:Nat→Prop} {f:Operand} {args:List Operand}:(K.callM true f args).wpE P A ρ H nx C=(match ρ f with
 | .fn g cs=>VCallT P g (evs ρ args++cs) H nx (fun r H' nx'=>Stab (fun _=>True) 1 H H'∧C r H' nx') .mk
 | .bm g cs=>VCallT P g (cs++evs ρ args) H nx (fun r H' nx'=>Stab (fun _=>True) 1 H H'∧C r H' nx') .mk
 | _=>False):=by
 simp only[K.wpE,forall_const];rfl
theorem wpE_callZ {A:Nat→Prop} {f:Operand} {args:List Operand}:(K.callM false f args).wpE P A ρ H nx C=(match ρ f with
 | .fn g cs=>VCallT P g (evs ρ args++cs) H nx C .mk
 | .bm g cs=>VCallT P g (cs++evs ρ args) H nx C .mk
 | _=>False):=by
 simp only[K.wpE,Bool.false_eq_true,false_implies,true_and];rfl
theorem wpE_mv {A:Nat→Prop} {x0}:(K.mv x0).wpE P A ρ H nx C=(K.mv x0).wp P ρ H nx C:=propext Iff.rfl
theorem wpE_pick {A:Nat→Prop} {x0 x1 x2}:(K.pick x0 x1 x2).wpE P A ρ H nx C=(K.pick x0 x1 x2).wp P ρ H nx C:=propext Iff.rfl
theorem wpE_ld {A:Nat→Prop} {x0 x1 x2}:(K.ld x0 x1 x2).wpE P A ρ H nx C=(K.ld x0 x1 x2).wp P ρ H nx C:=propext Iff.rfl
theorem wpE_sto {A:Nat→Prop} {x0 x1 x2 x3}:(K.sto x0 x1 x2 x3).wpE P A ρ H nx C=(K.sto x0 x1 x2 x3).wp P ρ H nx C:=propext Iff.rfl
theorem wpE_idx {A:Nat→Prop} {x0 x1 x2}:(K.idx x0 x1 x2).wpE P A ρ H nx C=(K.idx x0 x1 x2).wp P ρ H nx C:=propext Iff.rfl
theorem wpE_aidx {A:Nat→Prop} {x0 x1 x2 x3 x4}:(K.aidx x0 x1 x2 x3 x4).wpE P A ρ H nx C=(K.aidx x0 x1 x2 x3 x4).wp P ρ H nx C:=propext Iff.rfl
theorem wpE_fad {A:Nat→Prop} {x0 x1 x2 x3}:(K.fad x0 x1 x2 x3).wpE P A ρ H nx C=(K.fad x0 x1 x2 x3).wp P ρ H nx C:=propext Iff.rfl
theorem wpE_fld {A:Nat→Prop} {x0 x1 x2 x3}:(K.fld x0 x1 x2 x3).wpE P A ρ H nx C=(K.fld x0 x1 x2 x3).wp P ρ H nx C:=propext Iff.rfl
theorem wpE_len {A:Nat→Prop} {x0}:(K.len x0).wpE P A ρ H nx C=(K.len x0).wp P ρ H nx C:=propext Iff.rfl
theorem wpE_lens {A:Nat→Prop} {x0}:(K.lens x0).wpE P A ρ H nx C=(K.lens x0).wp P ρ H nx C:=propext Iff.rfl
theorem wpE_bin {A:Nat→Prop} {x0 x1 x2}:(K.bin x0 x1 x2).wpE P A ρ H nx C=(K.bin x0 x1 x2).wp P ρ H nx C:=propext Iff.rfl
theorem wpE_beq {A:Nat→Prop} {x0 x1 x2}:(K.beq x0 x1 x2).wpE P A ρ H nx C=(K.beq x0 x1 x2).wp P ρ H nx C:=propext Iff.rfl
theorem wpE_un {A:Nat→Prop} {x0 x1}:(K.un x0 x1).wpE P A ρ H nx C=(K.un x0 x1).wp P ρ H nx C:=propext Iff.rfl
theorem wpE_conv {A:Nat→Prop} {x0 x1}:(K.conv x0 x1).wpE P A ρ H nx C=(K.conv x0 x1).wp P ρ H nx C:=propext Iff.rfl
theorem wpE_sl {A:Nat→Prop} {x0 x1 x2 x3}:(K.sl x0 x1 x2 x3).wpE P A ρ H nx C=(K.sl x0 x1 x2 x3).wp P ρ H nx C:=propext Iff.rfl
theorem wpE_sls {A:Nat→Prop} {x0 x1 x2}:(K.sls x0 x1 x2).wpE P A ρ H nx C=(K.sls x0 x1 x2).wp P ρ H nx C:=propext Iff.rfl
theorem wpE_mk {A:Nat→Prop} {x0 x1 x2 x3 x4 x5}:(K.mk x0 x1 x2 x3 x4 x5).wpE P A ρ H nx C=(K.mk x0 x1 x2 x3 x4 x5).wp P ρ H nx C:=propext Iff.rfl
theorem wpE_app {A:Nat→Prop} {x0 x1 x2 x3 x4}:(K.app x0 x1 x2 x3 x4).wpE P A ρ H nx C=(K.app x0 x1 x2 x3 x4).wp P ρ H nx C:=propext Iff.rfl
theorem wpE_bsl {A:Nat→Prop} {x0 x1 x2 x3 x4}:(K.bsl x0 x1 x2 x3 x4).wpE P A ρ H nx C=(K.bsl x0 x1 x2 x3 x4).wp P ρ H nx C:=propext Iff.rfl
theorem wpE_bld {A:Nat→Prop} {x0 x1}:(K.bld x0 x1).wpE P A ρ H nx C=(K.bld x0 x1).wp P ρ H nx C:=propext Iff.rfl
theorem wpE_box {A:Nat→Prop} {x0 x1}:(K.box x0 x1).wpE P A ρ H nx C=(K.box x0 x1).wp P ρ H nx C:=propext Iff.rfl
theorem wpE_alc {A:Nat→Prop} {x0 x1}:(K.alc x0 x1).wpE P A ρ H nx C=(K.alc x0 x1).wp P ρ H nx C:=propext Iff.rfl
theorem wpE_mkf {A:Nat→Prop} {x0 x1}:(K.mkf x0 x1).wpE P A ρ H nx C=(K.mkf x0 x1).wp P ρ H nx C:=propext Iff.rfl
theorem wpE_mkb {A:Nat→Prop} {x0 x1}:(K.mkb x0 x1).wpE P A ρ H nx C=(K.mkb x0 x1).wp P ρ H nx C:=propext Iff.rfl
theorem wpE_nck {A:Nat→Prop} {x0}:(K.nck x0).wpE P A ρ H nx C=(K.nck x0).wp P ρ H nx C:=propext Iff.rfl
theorem wpE_ext {A:Nat→Prop} {x0 x1}:(K.ext x0 x1).wpE P A ρ H nx C=(K.ext x0 x1).wp P ρ H nx C:=propext Iff.rfl
theorem wpE_pur {A:Nat→Prop} {x0 x1}:(K.pur x0 x1).wpE P A ρ H nx C=(K.pur x0 x1).wp P ρ H nx C:=propext Iff.rfl
theorem wpE_see {A:Nat→Prop} {x0 x1}:(K.see x0 x1).wpE P A ρ H nx C=(K.see x0 x1).wp P ρ H nx C:=propext Iff.rfl
theorem wpE_eff {A:Nat→Prop} {x0 x1}:(K.eff x0 x1).wpE P A ρ H nx C=(K.eff x0 x1).wp P ρ H nx C:=propext Iff.rfl
theorem wpE_ycal {A:Nat→Prop} {x0 x1}:(K.ycal x0 x1).wpE P A ρ H nx C=(K.ycal x0 x1).wp P ρ H nx C:=propext Iff.rfl
theorem wp_mv (x:Operand):(K.mv x).wp P ρ H nx C=(C (ρ x) H nx):=propext Iff.rfl
theorem wp_pick (c a b:Operand):(K.pick c a b).wp P ρ H nx C=(match ρ c with
 | .val (.bool t)=>if t=true then C (ρ a) H nx else C (ρ b) H nx
 | _=>False):=by
 simp only[K.wp]
 generalize ρ c=v
 cases v<;>try rfl
 rename_i v
 cases v<;>first | rfl | exact ite_and
theorem wp_ld (ag:Bool) (n:Nat) (x:Operand):(K.ld ag n x).wp P ρ H nx C=(match ρ x with
 | .ip y=>ldOK ag n y∧C y H nx
 | .ptr id s off=>match H[id]? with
  | some ⟨s',ty',sz',cs'⟩=>s'=s∧cellT cs' off ag n (fun y=>C y H nx) .mk
  | none=>False
 | _=>False):=by
 simp only[K.wp]
 generalize ρ x=a
 cases a<;>first | rfl | (rename_i id s off;dsimp only;generalize H[id]? = o;cases o<;>first | rfl | (rename_i ob;cases ob;rfl))
theorem wp_sto (ag:Bool) (n:Nat) (x y:Operand):(K.sto ag n x y).wp P ρ H nx C=(match ρ x with
 | .ptr id s off=>match H[id]? with
  | some ⟨s',ty',sz',cs'⟩=>s'=s∧off+n≤cs'.length∧stoOK ag n (ρ y) ∧
   C (.val undef) (H.set id ⟨s',ty',sz',putA cs' off (ρ y)⟩) nx
  | none=>False
 | _=>False):=by
 simp only[K.wp]
 generalize ρ x=a
 cases a<;>first | rfl | (rename_i id s off;dsimp only;generalize H[id]? = o;cases o<;>first | rfl | (rename_i ob;cases ob;rfl))
theorem wp_idx (sz:Nat) (x i:Operand):(K.idx sz x i).wp P ρ H nx C=(match ρ x,ρ i with
 | .imm sz' xs,.val (.int _ k)=>sz'=sz∧idxT xs k (fun y=>C (.ip y) H nx) .mk
 | .ref id s off ln,.val (.int _ k)=>match H[id]? with
  | some ⟨s',ty',sz',cs'⟩=>s'=s∧sz'=sz∧0≤k∧k.toNat<ln∧C (.ptr id s (off+k.toNat*sz)) H nx
  | none=>False
 | _,_=>False):=by
 simp only[K.wp]
 generalize ρ x=a
 generalize ρ i=b
 cases a
 case ref id s off ln =>
  cases b
  case val v =>
   cases v
   case int k q=>dsimp only;generalize H[id]? = o;cases o<;>first | rfl | (rename_i ob;cases ob;rfl)
   all_goals rfl
  all_goals rfl
 all_goals first | rfl | (cases b<;>first | rfl | (rename_i v;cases v<;>rfl))
theorem wp_aidx (n0:Nat) (ag:Bool) (sz:Nat) (x i:Operand):(K.aidx n0 ag sz x i).wp P ρ H nx C=(match ρ x,ρ i with
 | .ip (.agg cs),.val (.int _ k)=>0≤k∧k.toNat<n0∧cellT cs (k.toNat*sz) ag sz (fun y=>C (.ip y) H nx) .mk
 | .ptr id s off,.val (.int _ k)=>match H[id]? with
  | some ⟨s',ty',sz',cs'⟩=>s'=s∧0≤k∧k.toNat<n0∧C (.ptr id s (off+k.toNat*sz)) H nx
  | none=>False
 | _,_=>False):=by
 simp only[K.wp]
 generalize ρ x=a
 generalize ρ i=b
 cases a
 case ptr id s off =>
  cases b
  case val v =>
   cases v
   case int k q=>dsimp only;generalize H[id]? = o;cases o<;>first | rfl | (rename_i ob;cases ob;rfl)
   all_goals rfl
  all_goals rfl
 case ip y=>cases y<;>first | rfl | (cases b<;>first | rfl | (rename_i v;cases v<;>rfl))
 all_goals first | rfl | (cases b<;>first | rfl | (rename_i v;cases v<;>rfl))
theorem wp_fad (off:Nat) (ag:Bool) (n:Nat) (x:Operand):(K.fad off ag n x).wp P ρ H nx C=(match ρ x with
 | .ip (.agg cs)=>cellT cs off ag n (fun y=>C (.ip y) H nx) .mk
 | .ptr id s o=>match H[id]? with
  | some ⟨s',ty',sz',cs'⟩=>s'=s∧C (.ptr id s (o+off)) H nx
  | none=>False
 | _=>False):=by
 simp only[K.wp]
 generalize ρ x=a
 cases a
 case ptr id s off =>
  dsimp only;generalize H[id]? = o;cases o<;>first | rfl | (rename_i ob;cases ob;rfl)
 case ip y=>cases y<;>rfl
 all_goals rfl
theorem wp_fld (off:Nat) (ag:Bool) (n:Nat) (x:Operand):(K.fld off ag n x).wp P ρ H nx C=(match ρ x with
 | .agg cs=>cellT cs off ag n (fun y=>C y H nx) .mk
 | _=>False):=propext Iff.rfl
theorem wp_len (x:Operand):(K.len x).wp P ρ H nx C=(match ρ x with
 | .imm _ xs=>C (.val (.int .i64 xs.length)) H nx
 | .ref id s _ ln=>match H[id]? with
  | some ⟨s',ty',sz',cs'⟩=>s'=s∧C (.val (.int .i64 ln)) H nx
  | none=>False
 | .val (.slice none 0 0)=>C (.val (.int .i64 0)) H nx
 | _=>False):=by
 simp only[K.wp]
 generalize ρ x=a
 cases a
 case ref id s off ln =>
  dsimp only;generalize H[id]? = o;cases o<;>first | rfl | (rename_i ob;cases ob;rfl)
 case val v =>
  cases v
  case slice a n c=>cases a<;>first | rfl | (cases n<;>first | rfl | (cases c<;>rfl))
  all_goals rfl
 all_goals rfl
theorem wp_lens (x:Operand):(K.lens x).wp P ρ H nx C=(match ρ x with
 | .val (.string s)=>C (.val (.int .i64 s.size)) H nx
 | _=>False):=propext Iff.rfl
theorem wp_bin (op:BinOp) (x y:Operand):(K.bin op x y).wp P ρ H nx C=(match ρ x,ρ y with
 | .val a,.val b=>binOK op a b∧C (.val (binR op a b)) H nx
 | _,_=>False):=propext Iff.rfl
theorem wp_beq (neg:Bool) (x y:Operand):(K.beq neg x y).wp P ρ H nx C=(match ρ x,ρ y with
 | .val (.bool a),.val (.bool b)=>C (.val (.bool (if neg then !(a == b) else a == b))) H nx
 | _,_=>False):=propext Iff.rfl
theorem wp_un (op:UnOp) (x:Operand):(K.un op x).wp P ρ H nx C=(match ρ x with
 | .val a=>unOK op a∧C (.val (unR op a)) H nx
 | _=>False):=propext Iff.rfl
theorem wp_conv (k:IntKind) (x:Operand):(K.conv k x).wp P ρ H nx C=(match ρ x with
 | .val (.int _ n)=>C (.val (.int k (k.wrap n))) H nx
 | _=>False):=propext Iff.rfl
theorem wp_sl (sz:Nat) (x:Operand) (lo hi:Option Operand):(K.sl sz x lo hi).wp P ρ H nx C=(match ρ x with
 | .imm sz' xs=>match boundOf ρ 0 lo,boundOf ρ xs.length hi with
  | some l,some h=>sz'=sz∧0≤l∧l≤h∧h≤xs.length∧C (.imm sz ((xs.take h.toNat).drop l.toNat)) H nx
  | _,_=>False
 | .ref id s off ln=>match H[id]? with
  | some ⟨s',ty',sz',cs'⟩=>match boundOf ρ 0 lo,boundOf ρ ln hi with
   | some l,some h=>s'=s∧sz'=sz∧0≤l∧l≤h∧h≤ln∧C (.ref id s (off+l.toNat*sz) (h.toNat-l.toNat)) H nx
   | _,_=>False
  | none=>False
 | .val (.slice none 0 0)=>match boundOf ρ 0 lo,boundOf ρ 0 hi with
  | some l,some h=>l=0∧h=0∧C (.val (.slice none 0 0)) H nx
  | _,_=>False
 | _=>False):=by
 simp only[K.wp]
 generalize ρ x=a
 cases a
 case ref id s off ln =>
  dsimp only;generalize H[id]? = o;cases o<;>first | rfl | (rename_i ob;cases ob;rfl)
 case val v =>
  cases v
  case slice a n c=>cases a<;>first | rfl | (cases n<;>first | rfl | (cases c<;>rfl))
  all_goals rfl
 all_goals rfl
theorem wp_sls (x:Operand) (lo hi:Option Operand):(K.sls x lo hi).wp P ρ H nx C=(match ρ x with
 | .val (.string t)=>match boundOf ρ 0 lo,boundOf ρ t.size hi with
  | some l,some h=>0≤l∧l≤h∧h≤t.size∧C (.val (.string (t.extract l.toNat h.toNat))) H nx
  | _,_=>False
 | _=>False):=propext Iff.rfl
theorem wp_mk (ty sz bytes:Nat) (z:List Value) (n c:Operand):(K.mk ty sz bytes z n c).wp P ρ H nx C=(match ρ n,ρ c with
 | .val (.int _ l),.val (.int _ k)=>0≤l∧l≤k∧k≤140737488355328∧k*bytes≤140737488355328∧C (.ref H.length nx 0 l.toNat) (H++[⟨nx,ty,sz,(List.replicate l.toNat (z.map AV.val)).flatten⟩]) (nx+1)
 | _,_=>False):=propext Iff.rfl
theorem wp_app (ty sz bytes:Nat) (x y:Operand):(K.app ty sz bytes x y).wp P ρ H nx C=(addedOK H sz (ρ y)∧(match ρ x with
 | .val (.slice none 0 0)=>addedN (ρ y)≤maxLen∧addedN (ρ y)*bytes≤140737488355328 ∧
  C (.ref H.length nx 0 (addedN (ρ y))) (H++[⟨nx,ty,sz,addedCells H sz (ρ y)⟩]) (nx+1)
 | .ref id s off ln=>match H[id]? with
  | some ⟨s',ty',sz',cs'⟩=>s'=s∧ty'=ty∧sz'=sz∧ln+addedN (ρ y)≤maxLen∧(ln+addedN (ρ y))*bytes≤140737488355328 ∧
   C (.ref id nx 0 (ln+addedN (ρ y))) (H.set id ⟨nx,ty,sz,(cs'.drop off).take (ln*sz)++addedCells H sz (ρ y)⟩) (nx+1)
  | none=>False
 | _=>False)):=by
 simp only[K.wp]
 generalize ρ x=a
 cases a
 case ref id s off ln =>
  dsimp only;generalize H[id]? = o;cases o<;>first | rfl | (rename_i ob;cases ob;rfl)
 case val v =>
  cases v
  case slice a n c=>cases a<;>first | rfl | (cases n<;>first | rfl | (cases c<;>rfl))
  all_goals rfl
 all_goals rfl
theorem wp_bsl (ty sz n:Nat) (z:List Value) (parts:List (Nat × Nat × Operand)):(K.bsl ty sz n z parts).wp P ρ H nx C=(fillOK (n*sz) (partsOf ρ parts)∧C (.ref H.length nx 0 n) (H++[⟨nx,ty,sz,fillA (z.map AV.val) (partsOf ρ parts)⟩]) (nx+1)):=propext Iff.rfl
theorem wp_bld (z:List Value) (parts:List (Nat × Nat × Operand)):(K.bld z parts).wp P ρ H nx C=(fillOK z.length (partsOf ρ parts)∧C (.agg (fillA (z.map AV.val) (partsOf ρ parts))) H nx):=propext Iff.rfl
theorem wp_box (ty:Nat) (x:Operand):(K.box ty x).wp P ρ H nx C=((ρ x).laid=true∧C (.ptr H.length nx 0) (H++[⟨nx,ty,1,(ρ x).cells⟩]) (nx+1)):=propext Iff.rfl
theorem wp_alc (ty:Nat) (z:List Value):(K.alc ty z).wp P ρ H nx C=(C (.ptr H.length nx 0) (H++[⟨nx,ty,1,z.map AV.val⟩]) (nx+1)):=propext Iff.rfl
theorem wp_mkf (f:Nat) (cs:List Operand):(K.mkf f cs).wp P ρ H nx C=(C (.fn f (evs ρ cs)) H nx):=propext Iff.rfl
theorem wp_mkb (f:Nat) (cs:List Operand):(K.mkb f cs).wp P ρ H nx C=(C (.bm f (evs ρ cs)) H nx):=propext Iff.rfl
theorem wp_nck (x:Operand):(K.nck x).wp P ρ H nx C=(match ρ x with
 | .ip y=>C (.ip y) H nx
 | .ptr id s off=>match H[id]? with
  | some ⟨s',ty',sz',cs'⟩=>s'=s∧C (.ptr id s off) H nx
  | none=>False
 | .fn f cs=>C (.fn f cs) H nx
 | .bm f cs=>C (.bm f cs) H nx
 | _=>False):=by
 simp only[K.wp]
 generalize ρ x=a
 cases a<;>first | rfl | (rename_i id s off;dsimp only;generalize H[id]? = o;cases o<;>first | rfl | (rename_i ob;cases ob;rfl))
theorem wp_ext (x:Operand) (i:Nat):(K.ext x i).wp P ρ H nx C=(match ρ x with
 | .tup cs=>i<cs.length∧C (cs.getD i .dead) H nx
 | _=>False):=propext Iff.rfl
theorem wp_call (f:Operand) (args:List Operand):(K.call f args).wp P ρ H nx C=(match ρ f with
 | .fn g cs=>VCallT P g (evs ρ args++cs) H nx C .mk
 | .bm g cs=>VCallT P g (cs++evs ρ args) H nx C .mk
 | _=>False):=propext Iff.rfl
theorem wp_callM (st:Bool) (f:Operand) (args:List Operand):(K.callM st f args).wp P ρ H nx C=(match ρ f with
 | .fn g cs=>VCallT P g (evs ρ args++cs) H nx C .mk
 | .bm g cs=>VCallT P g (cs++evs ρ args) H nx C .mk
 | _=>False):=propext Iff.rfl
theorem wp_callA (f:Operand) (args:List Operand):(K.callA f args).wp P ρ H nx C=(match ρ f with
 | .fn g cs=>VCallT P g (evs ρ args++cs) H nx C .mk
 | .bm g cs=>VCallT P g (cs++evs ρ args) H nx C .mk
 | _=>False):=propext Iff.rfl
end
section
variable {P:Program} {Q:St→Prop} {st:St}
theorem VOps_nil:VOps P [] Q st=Q st:=propext Iff.rfl
theorem VOps_go {d:Option Nat} {k:K} {l:List VOp}:VOps P (⟨d,none,k⟩::l) Q st=k.wp P (evF (get st.env)) st.H st.nx fun r H nx=>VOps P l Q (St.put ⟨st.env,H,nx⟩ d r):=propext Iff.rfl
theorem VOps_if {d:Option Nat} {t:Nat} {want:Bool} {k:K} {l:List VOp}:VOps P (⟨d,some (t,want),k⟩::l) Q st=(match get st.env t with
 | .val (.bool b)=>if b=want then k.wp P (evF (get ((t,.val (.bool want))::st.env))) st.H st.nx fun r H nx=>VOps P l Q (St.put ⟨(t,.val (.bool want))::st.env,H,nx⟩ d r)
  else VOps P l Q (St.put ⟨(t,.val (.bool (!want)))::st.env,st.H,st.nx⟩ d (.val undef))
 | .val _=>VOps P l Q (st.put d (.val undef))
 | _=>False):=by
 simp only[VOps]
 generalize get st.env t=v
 cases v<;>try rfl
 rename_i v
 cases v<;>first | rfl | exact ite_and2
theorem evF_tmp {e:Nat→AV} {t:Nat}:evF e (.tmp t)=e t:=rfl
theorem evF_const {e:Nat→AV} {v:Value}:evF e (.const v)=cv v:=rfl
theorem evF_func {e:Nat→AV} {f:Nat}:evF e (.func f) = .fn f []:=rfl
theorem cv_int {k:IntKind} {n:Int}:cv (.int k n) = .val (.int k n):=rfl
theorem cv_bool {b:Bool}:cv (.bool b) = .val (.bool b):=rfl
theorem cv_slice {a:Option Addr} {n c:Nat}:cv (.slice a n c) = .val (.slice a n c):=rfl
theorem cv_string {b:ByteArray}:cv (.string b) = .val (.string b):=rfl
end
/-! The second edition's operations. -/
def VRangeT (P:Program) (f:Nat) (cs:List AV) (ps:List Nat) (x:VC) (Q:VE→St→Prop) (env:List (Nat × AV)) (H0:List VObj) (nx0:Nat) (_:Tok (ULift.up.{1} Q)):Prop :=
 ∀ R B E:VObj,R.sz=0→(∀ (args:List AV) (H:List VObj) (nx:Nat) (C:AV→List VObj→Nat→Prop),H[H0.length]? = some R→args.length=ps.length →
  VW P x (fun e st'=>e = .normal∧st'.H[H0.length]? = some B∧C (.val (.bool true)) (st'.H.set H0.length R) st'.nx) ⟨ps.zip args++env,H.set H0.length B,nx⟩→YCall P H0.length nx0 args H nx C) →
  VCall P f (.yld H0.length nx0::cs) (H0++[R]) (nx0+1) fun _ H nx=>H[H0.length]? = some R∧Q .normal ⟨env,H.set H0.length E,nx⟩
theorem VW_range {P:Program} {g:Operand} {ps:List Nat} {x:VC} {Q:VE→St→Prop} {env:List (Nat × AV)} {H:List VObj} {nx:Nat}:VW P (.range g ps x) Q ⟨env,H,nx⟩=(match evF (get env) g with
 | .fn f cs=>VRangeT P f cs ps x Q env H nx .mk
 | _=>False):=propext Iff.rfl
def YCallT (P:Program) (id s:Nat) (args:List AV) (H:List VObj) (nx:Nat) (C:AV→List VObj→Nat→Prop) (_:Tok (ULift.up.{1} C)):Prop:=YCall P id s args H nx C
def eqT (ks:List LK) (xs ys:List AV) (acc:Bool) (C:Bool→Prop) (_:Tok (ULift.up.{1} C)):Prop:=eqW ks xs ys acc C
def lookT (k:Value) (cs:List AV) (C:Option AV→Prop) (_:Tok (ULift.up.{1} C)):Prop:=lookW k cs C
def b2sT (xs:List AV) (C:ByteArray→Prop) (_:Tok (ULift.up.{1} C)):Prop:=match bytesOf xs with
 | some l=>C ⟨l.toArray⟩
 | none=>False
abbrev U8 (b:UInt8):AV:=.val (.int .u8 (b.toNat:Nat))
abbrev U32 (n:Int):AV:=.val (.int .u32 n)
abbrev strv (s:ByteArray):AV:=.val (.string s)
theorem eqT_nil {acc:Bool} {C:Bool→Prop}:eqT [] [] [] acc C .mk=C acc:=rfl
theorem eqT_int {ks:List LK} {k k':IntKind} {a b:Int} {xs ys:List AV} {acc:Bool} {C:Bool→Prop}:eqT (.int::ks) (.val (.int k a)::xs) (.val (.int k' b)::ys) acc C .mk=(k=k'∧eqT ks xs ys (acc && (a == b)) C .mk):=rfl
theorem eqT_bool {ks:List LK} {a b:Bool} {xs ys:List AV} {acc:Bool} {C:Bool→Prop}:eqT (.bool::ks) (.val (.bool a)::xs) (.val (.bool b)::ys) acc C .mk=eqT ks xs ys (acc && (a == b)) C .mk:=rfl
theorem eqT_str {ks:List LK} {a b:ByteArray} {xs ys:List AV} {acc:Bool} {C:Bool→Prop}:eqT (.str::ks) (.val (.string a)::xs) (.val (.string b)::ys) acc C .mk=eqT ks xs ys (acc && (a == b)) C .mk:=rfl
theorem bytesOf_U8:∀ (l:List UInt8),bytesOf (l.map U8)=some l
 | []=>rfl
 | b::l=>by simp[bytesOf,bytesOf_U8 l]
theorem b2sT_U8 {l:List UInt8} {C:ByteArray→Prop}:b2sT (l.map U8) C .mk=C ⟨l.toArray⟩:=by simp only[b2sT,bytesOf_U8]
theorem b2sT_nil {C:ByteArray→Prop}:b2sT [] C .mk=C ⟨#[]⟩:=rfl
theorem lookT_nil {k:Value} {C:Option AV→Prop}:lookT k [] C .mk=C none:=rfl
theorem lookT_cons {i j:IntKind} {a b:Int} {v:AV} {l:List AV} {C:Option AV→Prop}:lookT (.int i a) (.val (.int j b)::v::l) C .mk=(i=j∧(a=b→C (some v))∧(a≠b→lookT (.int i a) l C .mk)):=rfl
section
variable {P:Program} {ρ:Operand→AV} {H:List VObj} {nx:Nat} {C:AV→List VObj→Nat→Prop}
theorem wp_ycal (f:Operand) (args:List Operand):(K.ycal f args).wp P ρ H nx C=(match ρ f with
 | .yld id s=>YCallT P id s (evs ρ args) H nx C .mk
 | _=>False):=rfl
theorem wp_six (x i:Operand):(K.pur .six [x,i]).wp P ρ H nx C=(match ρ x,ρ i with
 | .val (.string s),.val (.int _ k)=>0≤k∧k.toNat<s.size∧C (.val (.int .u8 (byteAt s k.toNat))) H nx
 | _,_=>False):=by
 simp only[K.wp,evs]
 generalize ρ x=a;generalize ρ i=b
 cases a<;>first | rfl | (rename_i v;cases v<;>first | rfl | (cases b<;>first | rfl | (rename_i v;cases v<;>rfl)))
theorem wp_ixv (n:Nat) (ag:Bool) (sz:Nat) (x i:Operand):(K.pur (.ixv n ag sz) [x,i]).wp P ρ H nx C=(match ρ x,ρ i with
 | .agg cs,.val (.int _ k)=>0≤k∧k.toNat<n∧cellT cs (k.toNat*sz) ag sz (fun y=>C y H nx) .mk
 | _,_=>False):=by
 simp only[K.wp,evs]
 generalize ρ x=a;generalize ρ i=b
 cases a<;>first | rfl | (cases b<;>first | rfl | (rename_i v;cases v<;>rfl))
theorem wp_eqv (neg:Bool) (ks:List LK) (x y:Operand):(K.pur (.eqv neg ks) [x,y]).wp P ρ H nx C=(match ρ x,ρ y with
 | .agg xs,.agg ys=>eqT ks xs ys true (fun b=>C (.val (.bool (if neg then !b else b))) H nx) .mk
 | _,_=>False):=by
 simp only[K.wp,evs]
 generalize ρ x=a;generalize ρ y=b
 cases a<;>first | rfl | (cases b<;>rfl)
theorem wp_mx (x y:Operand):(K.pur .mx [x,y]).wp P ρ H nx C=(match ρ x,ρ y with
 | .val (.int k a),.val (.int _ b)=>C (.val (.int k (if b > a then b else a))) H nx
 | _,_=>False):=by
 simp only[K.wp,evs]
 generalize ρ x=a;generalize ρ y=b
 cases a<;>first | rfl | (rename_i v;cases v<;>first | rfl | (cases b<;>first | rfl | (rename_i v;cases v<;>rfl)))
theorem wp_mn (x y:Operand):(K.pur .mn [x,y]).wp P ρ H nx C=(match ρ x,ρ y with
 | .val (.int k a),.val (.int _ b)=>C (.val (.int k (if b<a then b else a))) H nx
 | _,_=>False):=by
 simp only[K.wp,evs]
 generalize ρ x=a;generalize ρ y=b
 cases a<;>first | rfl | (rename_i v;cases v<;>first | rfl | (cases b<;>first | rfl | (rename_i v;cases v<;>rfl)))
theorem wp_nilq (neg:Bool) (x:Operand):(K.pur (.nilq neg) [x]).wp P ρ H nx C=(match ρ x with
 | .fn _ _=>C (.val (.bool neg)) H nx
 | .bm _ _=>C (.val (.bool neg)) H nx
 | .val .nilFunc=>C (.val (.bool (!neg))) H nx
 | _=>False):=by
 simp only[K.wp,evs]
 generalize ρ x=a
 cases a<;>first | rfl | (rename_i v;cases v<;>rfl)
theorem wp_nils (neg:Bool) (x:Operand):(K.pur (.nils neg) [x]).wp P ρ H nx C=(match ρ x with
 | .imm _ xs=>xs≠[]∧C (.val (.bool neg)) H nx
 | .val (.slice none 0 0)=>C (.val (.bool (!neg))) H nx
 | _=>False):=by
 simp only[K.wp,evs]
 generalize ρ x=a
 cases a
 case val v =>
  cases v
  case slice a n c=>cases a<;>first | rfl | (cases n<;>first | rfl | (cases c<;>rfl))
  all_goals rfl
 all_goals rfl
theorem wp_b2s (x:Operand):(K.see .b2s [x]).wp P ρ H nx C=(match ρ x with
 | .val (.slice none 0 0)=>C (.val (.string .empty)) H nx
 | .imm sz xs=>sz=1∧b2sT xs (fun s=>C (.val (.string s)) H nx) .mk
 | .ref id s off len=>(match H[id]? with
  | some ⟨s',ty',sz',cs'⟩=>s'=s∧sz'=1∧b2sT ((cs'.drop off).take len) (fun s=>C (.val (.string s)) H nx) .mk
  | none=>False)
 | _=>False):=by
 simp only[K.wp,evs]
 generalize ρ x=a
 cases a<;>first | rfl | skip
 case val v=>cases v<;>first | rfl | (rename_i b n c;cases b<;>first | rfl | (cases n<;>first | rfl | (cases c<;>rfl)))
 case ref id s off len=>simp only[SOp.go];generalize H[id]? = o;cases o<;>first | rfl | (rename_i ob;cases ob;rfl)
theorem wp_look (ok:Bool) (z:Value) (x i:Operand):(K.see (.look ok z) [x,i]).wp P ρ H nx C=(match ρ x,ρ i with
 | .mref id s,.val (.int k a)=>(match H[id]? with
  | some ⟨s',ty',sz',cs'⟩=>s'=s∧sz'=0∧lookT (.int k a) cs' (fun r=>C (if ok then .tup [(match r with | some v=>v | none=>cv z),.val (.bool r.isSome)] else (match r with | some v=>v | none=>cv z)) H nx) .mk
  | none=>False)
 | _,_=>False):=by
 simp only[K.wp,evs]
 generalize ρ x=a;generalize ρ i=b
 cases a<;>first | rfl | skip
 case mref id s =>
  cases b<;>first | rfl | skip
  rename_i v
  cases v<;>first | rfl | skip
  simp only[SOp.go];generalize H[id]? = o;cases o<;>first | rfl | (rename_i ob;cases ob;rfl)
theorem wp_mlen (x:Operand):(K.see .mlen [x]).wp P ρ H nx C=(match ρ x with
 | .mref id s=>(match H[id]? with
  | some ⟨s',ty',sz',cs'⟩=>s'=s∧sz'=0∧(∀ r,cs'.head?≠some (.lp r))∧C (.val (.int .i64 (cs'.length / 2:Nat))) H nx
  | none=>False)
 | _=>False):=by
 simp only[K.wp,evs]
 generalize ρ x=a
 cases a<;>first | rfl | skip
 case mref id s=>simp only[SOp.go];generalize H[id]? = o;cases o<;>first | rfl | (rename_i ob;cases ob;rfl)
theorem wp_cpy (sz:Nat) (x y:Operand):(K.eff (.cpy sz) [x,y]).wp P ρ H nx C=(match ρ x with
 | .ref id s off len=>(match H[id]? with
  | some ⟨s',ty',sz',cs'⟩=>s'=s∧sz'=sz∧addedOK H sz (ρ y) ∧
   C (.val (.int .i64 (min len (addedN (ρ y)):Nat))) (H.set id ⟨s',ty',sz',cs'.take off++(addedCells H sz (ρ y)).take (min len (addedN (ρ y))*sz)++cs'.drop (off+min len (addedN (ρ y))*sz)⟩) nx
  | none=>False)
 | _=>False):=by
 simp only[K.wp,evs]
 generalize ρ x=a
 cases a<;>first | rfl | skip
 case ref id s off len=>simp only[EOp.go];generalize H[id]? = o;cases o<;>first | rfl | (rename_i ob;cases ob;rfl)
theorem wp_clr (z:Value) (x:Operand):(K.eff (.clr z) [x]).wp P ρ H nx C=(match ρ x with
 | .ref id s off len=>(match H[id]? with
  | some ⟨s',ty',sz',cs'⟩=>s'=s∧sz'=1∧C (.tup []) (H.set id ⟨s',ty',sz',cs'.take off++List.replicate len (.val z)++cs'.drop (off+len)⟩) nx
  | none=>False)
 | _=>False):=by
 simp only[K.wp,evs]
 generalize ρ x=a
 cases a<;>first | rfl | skip
 case ref id s off len=>simp only[EOp.go];generalize H[id]? = o;cases o<;>first | rfl | (rename_i ob;cases ob;rfl)
theorem wp_s2b (ty:Nat) (x:Operand):(K.eff (.s2b ty) [x]).wp P ρ H nx C=(match ρ x with
 | .val (.string b)=>b.size≤70368744177664∧C (.ref H.length nx 0 b.size) (H++[⟨nx,ty,1,b.data.toList.map U8⟩]) (nx+1)
 | _=>False):=by
 simp only[K.wp,evs]
 generalize ρ x=a
 cases a<;>first | rfl | (rename_i v;cases v<;>rfl)
theorem wp_mkm:(K.eff .mkm []).wp P ρ H nx C=C (.mref H.length nx) (H++[⟨nx,0,0,[]⟩]) (nx+1):=rfl
theorem wp_upd (m k v:Operand):(K.eff .upd [m,k,v]).wp P ρ H nx C=(match ρ m,ρ k with
 | .mref id s,.val (.int i a)=>(match H[id]? with
  | some ⟨s',ty',sz',cs'⟩=>s'=s∧sz'=0∧mapOK i cs'∧(ρ v).one=true∧C (.val undef) (H.set id ⟨s',ty',sz',updA (.int i a) (ρ v) cs'⟩) nx
  | none=>False)
 | _,_=>False):=by
 simp only[K.wp,evs]
 generalize ρ m=a;generalize ρ k=b
 cases a<;>first | rfl | skip
 case mref id s =>
  cases b<;>first | rfl | skip
  rename_i u
  cases u<;>first | rfl | skip
  simp only[EOp.go];generalize H[id]? = o;cases o<;>first | rfl | (rename_i ob;cases ob;rfl)
theorem cv_agg {cs:Array Value}:cv (.agg cs) = .agg (cs.toList.map .val):=rfl
theorem cv_nilFunc:cv .nilFunc = .val .nilFunc:=rfl
theorem mapOK_nil {i:IntKind}:mapOK i []=True:=rfl
theorem mapOK_cons {i j:IntKind} {a:Int} {v:AV} {l:List AV}:mapOK i (.val (.int j a)::v::l)=(j=i∧v.one=true∧mapOK i l):=rfl
theorem updA_nil {k:Value} {v:AV}:updA k v []=[.val k,v]:=rfl
end
/- THE RULES BY WHICH CODE IS GONE THROUGH lie in the library's own set go_sem; beside it a walk names the simprocs alone (wip/vs.txt). -/
attribute [go_sem ↓]
 VW_skip VW_ops VW_par VW_park VW_seq VW_block VW_exit VW_ret VW_cond litE_tmp litE_const seq_normal seq_exit seq_ret blk_normal blk_exit blk_ret get_nil
 get_cons put_some put_none put_some' put_none' VTrL_done VTrL_one VTrL_if VTrL_both wpD_eq wpE_call wpE_callA wpE_callM wpE_callZ wpE_mv wpE_pick wpE_ld wpE_sto wpE_idx wpE_aidx wpE_fad
 wpE_fld wpE_len wpE_lens wpE_bin wpE_beq wpE_un wpE_conv wpE_sl wpE_sls wpE_mk wpE_app wpE_bsl wpE_bld wpE_box wpE_alc wpE_mkf wpE_mkb wpE_nck wpE_ext wpE_pur wpE_see
 wpE_eff wpE_ycal retQ retW VR.wp VRs idxT_map idxT_cons cellT_I cellT_B cellT_map cellT_cons wp_mv wp_pick wp_ld wp_sto wp_idx wp_aidx wp_fad wp_fld wp_len
 wp_lens wp_bin wp_beq wp_un wp_conv wp_sl wp_sls wp_mk wp_app wp_bsl wp_bld wp_box wp_alc wp_mkf wp_mkb wp_nck wp_ext wp_call wp_callA wp_callM VOps_nil VOps_go VOps_if evF_tmp
 evF_const evF_func imp_tt imp_ft imp_tf imp_ff imp_tnt imp_fnt imp_tnf imp_fnf VW_range wp_ycal wp_six wp_ixv wp_eqv wp_mx wp_mn wp_nilq wp_nils wp_b2s wp_look
 wp_mlen wp_cpy wp_clr wp_s2b wp_mkm wp_upd eqT_nil eqT_int eqT_bool eqT_str b2sT_U8 b2sT_nil lookT_nil lookT_cons
attribute [go_sem]
 undef K.xtra EOp.adds argEnv binOK binR unOK unR ldOK stoOK putA partA partOK fillA fillOK partsOf evs boundOf AV.cells AV.one AV.laid Value.oneCell' true_and and_true
 List.cons_append List.nil_append List.length_map List.length_cons List.length_nil List.getElem?_cons_zero List.getElem?_cons_succ List.map_cons List.map_nil
 Bool.not_true Bool.not_false forall_const false_implies List.all_cons List.all_nil Bool.and_true Bool.and_self decide_eq_true_eq decide_eq_false_iff_not
 Int.toNat_natCast bne_iff_ne ne_eq Bool.not_eq_true' Bool.not_eq_false' bne_eq_false_iff_eq beq_iff_eq beq_eq_false_iff_ne implies_true List.getD_cons_zero
 List.getD_cons_succ Bool.false_eq_true false_or or_false true_or or_true Int.natCast_nonneg Int.toNat_zero Int.toNat_one List.set_cons_zero List.set_cons_succ
 List.take_zero List.take_succ_cons List.take_nil List.drop_zero List.drop_succ_cons List.drop_nil List.append_nil Nat.zero_add Nat.add_zero Nat.mul_one
 Nat.zero_mul cv_int cv_bool cv_slice cv_string cv Nat.le_refl not_true_eq_false not_false_eq_true decide_true decide_false Bool.true_eq_false addedOK addedN
 addedCells oldA Old oldL cv_agg cv_nilFunc mapOK_nil mapOK_cons updA_nil iteP Bool.not_eq_true Bool.not_eq_false Classical.not_not
end Go.V
