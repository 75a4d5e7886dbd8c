/- The engine, part 14: what is known may be weakened, and own objects given up, between statements. No condition. -/
import Derived.Test.YtkbhfokbhkmfgaaGreatUH
set_option linter.unusedVariables false
set_option linter.unusedSimpArgs false
namespace Go.V
set_option linter.unusedSimpArgs false
set_option linter.unusedVariables false
open Go.RowKit
def VWs (P:Program):VC→(VE→St→Prop)→St→Prop
 | .seq x y,Q,st=>VW P x (VE.seq (fun st'=>∃ st'',Wk st' st''∧VWs P y Q st'') Q) st
 | c,Q,st=>VW P c Q st
section
variable {P:Program} {N:Nat}
theorem c1t {pt pf:Bool} (hm:P.follows .mixedOrders=true):∀ (c:Code) (vc:VC),a3n P N pt pf c=some vc→∀ (Q:VE→St→Prop) (M:MM) (env:List (Nat × AV)) (a:Act),
 RH M→EnvR M env a→a.tmps.size=N→a.defers=[]→VWs P vc Q ⟨env,M.H,M.nx⟩→c.wp P (Post N M Q) a M.w:=by
 intro c
 induction c with
 | seq x y ihx ihy =>
  intro vc hc Q M env a hR he hN hd h;simp only[a3n]at hc;split at hc
  ·rename_i vx vy hx hy;cases hc;simp only[VWs]at h;refine wp_seq (wp_mono (a3l hm x vx hx _ M env a hR he hN hd h) fun e a' w' hp=>?_);cases e with
   | normal =>
    obtain ⟨M',env',p1,p2,rfl,p4,p5,p6,p7,p8,p9⟩:=hp;obtain ⟨⟨env2,H2,nx2⟩,hw,h2⟩:=(show ∃ st'',Wk ⟨env',M'.H,M'.nx⟩ st''∧VWs P vy Q st'' from p9)
    obtain ⟨M1,w1,w2,w3,w4,w5,w6,w7,w8⟩:=hw M' a' p4 rfl rfl p6;simp only at w6 w7 w8;subst w6;subst w7;have:=ihy vy hy Q M1 env2 a' w4 w8 p7 p8 h2;rw[w3]at this;refine wp_mono this fun e a w hq=>?_;exact hq.mono (w1.trans p1) (w2.trans p2) (p5.trans w5) (fun _ _ h=>h) (fun _ _ _ h=>h) (fun _ _ h=>h)
   | exit id=>exact hp.mono rfl rfl (KeepRV.refl _) (fun e=>by cases e) (fun id e st h=>by cases e;exact h) (fun e=>by cases e)
   | ret=>exact hp.mono rfl rfl (KeepRV.refl _) (fun e=>by cases e) (fun id e=>by cases e) (fun e st h=>h)
   | goto l=>obtain ⟨_,_,_,_,_,_,_,_,_,_,p9⟩:=hp;exact p9.elim
   | panic ch=>obtain ⟨_,_,_,_,_,_,_,_,_,_,p9⟩:=hp;exact p9.elim
   | outgrown=>obtain ⟨_,_,_,_,_,_,_,_,_,_,p9⟩:=hp;exact p9.elim
  ·cases hc
 | scope x ih =>
  intro vc hc Q M env a hR he hN hd h;simp only[a3n]at hc;refine wp_scope_straight (wp_mono (ih vc hc Q M env a hR he hN hd h) fun e a' w' hp=>?_);cases e with
  | goto l=>obtain ⟨_,_,_,_,_,_,_,_,_,_,p9⟩:=hp;exact p9.elim
  | normal=>exact hp
  | exit id=>exact hp
  | ret=>exact hp
  | panic ch=>exact hp
  | outgrown=>exact hp
 | _ =>
  intro vc hc Q M env a hR he hN hd h;have h':VW P vc Q ⟨env,M.H,M.nx⟩:=by
   cases vc with
   | seq x y =>
    exfalso;simp only[a3n]at hc
    first
    | (cases hc;done)
    | (repeat' split at hc
       all_goals first | (cases hc;done) | (unfold c1e at hc;split at hc<;>cases hc))
   | _=>exact h
  exact a3l hm _ vc hc Q M env a hR he hN hd h'
theorem VCall.of_bodyS (hm:P.follows .mixedOrders=true) {pt pf:Bool} {f N:Nat} {vc:VC} {rs:List VR} (hf:b4j P pt pf f=some (N,vc,rs)) {args:List AV} (hargs:args.length≤N) {H:List VObj} {nx:Nat} {C:AV→List VObj→Nat→Prop}
 (h:VWs P vc (a8D P rs C) ⟨a2A 0 args,H,nx⟩):VCall P f args H nx C:=by
 unfold b4j at hf;split at hf
 ·rename_i fn hfn;split at hf
  ·rename_i c hb;split at hf
   ·cases hf
   ·rename_i hname;split at hf
    ·rename_i vc' rs' hc hr;cases hf;refine ⟨⟨fn,hfn,by simpa using hname,by simp[hb]⟩,fun M vs hR hH hnx hvs=>?_⟩;subst hH;subst hnx;have hlen:=hvs.length;refine calls_of_wp hfn hb ?_;have he:EnvR M (a2A 0 args) { tmps:=vs.toArray++Array.replicate (fn.ntmps-vs.toArray.size) undef,defers:=[] }:=by
      intro t;rw[a7R];simp only[Nat.zero_le,if_true,Nat.sub_zero];cases ht:args[t]? with
      | none=>simp only[Option.getD_none,RV]
      | some x =>
       obtain ⟨v,e1,e2⟩:=hvs.get _ _ ht;have hlt:t<vs.length:=(List.getElem?_eq_some_iff.1 e1).1;have:(vs.toArray++Array.replicate (fn.ntmps-vs.toArray.size) undef).getD t undef=v:=by
        have e3:(vs.toArray++Array.replicate (fn.ntmps-vs.toArray.size) undef)[t]? = some v:=by
         rw[Array.getElem?_append_left (by simpa using hlt)];simpa using e1
        rw[Array.getD_eq_getD_getElem?,e3];rfl
       simp only[Option.getD_some];rw[this];exact e2
     refine wp_mono (c1t hm c vc hc (a8D P rs C) M _ _ hR he (by simp;omega) rfl h) fun e a' w' hp=>?_;obtain ⟨M',env',p1,p2,rfl,p4,p5,p6,p7,p8,p9⟩:=hp;have fin:b7O P ⟨env',M'.H,M'.nx⟩ (fun r=>C r M'.H M'.nx) rs→a'.defers=[]∧∃ v,(results fn a'.tmps).run P M'.w = .ok v M'.w∧∃ v' r M'',Ending.returned v = .returned v'∧M''.I0=M.I0∧M''.w0=M.w0∧M''.w=M'.w∧RH M''∧KeepRV M M''∧RV M'' r v'∧C r M''.H M''.nx:=fun hw=>by
      obtain ⟨v,x,r1,r2,r3⟩:=b0h p4 p6 hr hw;exact ⟨p8,v,r1,v,x,M',rfl,p1,p2,rfl,p4,p5,r2,r3⟩
     cases e with
     | normal=>exact fin p9
     | ret=>exact fin p9
     | exit id=>exact p9.elim
     | goto l=>exact p9.elim
     | panic ch=>exact p9.elim
     | outgrown=>exact p9.elim
    ·cases hf
  ·cases hf
 ·cases hf
def WkT (P:Program) (y:VC) (Q:VE→St→Prop) (st:St) (_:Tok (ULift.up.{1} Q)):Prop:=∃ st'',Wk st st''∧VWs P y Q st''
theorem a0i {x y:VC} {Q:VE→St→Prop} {st:St}:VWs P (.seq x y) Q st=VW P x (VE.seq (fun st'=>WkT P y Q st' .mk) Q) st:=propext Iff.rfl
theorem a0j {Q:VE→St→Prop} {st:St}:VWs P .ret Q st=Q .ret st:=propext Iff.rfl
theorem a0k {l:List VOp} {Q:VE→St→Prop} {st:St}:VWs P (.ops l) Q st=a5X P l (Q .normal) st:=propext Iff.rfl
theorem a0f {c:Operand} {x y:VC} {Q:VE→St→Prop} {st:St}:VWs P (.cond c x y) Q st=VW P (.cond c x y) Q st:=propext Iff.rfl
end
end Go.V
