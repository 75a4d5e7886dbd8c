/- The engine, part 7a: contracts, and calls of functions that have one. No condition. -/
import Derived.Test.YtkbhfokbhkmfgaaGreatU7
set_option linter.unusedVariables false
set_option linter.unusedSimpArgs false
namespace Go.V
open Go.RowKit
section
variable {P:Program}
def c7g (I:Nat→Prop) (w w':World) (b:Nat):Prop:=I b∨(w.heap.size≤b∧b<w'.heap.size)
def Contract (P:Program) (f:Nat) (args:List AV) (C:AV→Prop):Prop :=
 b4H P f∧∀ (I:Nat→Prop) (w:World) (vs:List Value),(∀ b,I b→b<w.heap.size)→RL0 w I args vs →
  Calls P f vs.toArray w fun e w'=>∃ v r,e = .returned v∧RV0 w' (c7g I w w') r v∧Below w.heap.size w w'∧C r
def Sle (x y:AV):Prop:=∀ (M:MM),RH M→∀ v,RV M x v→RV0 M.w M.I y v
def SleL:List AV→List AV→Prop
 | [],ys=>ys=[]
 | x::xs,ys=>∃ y ys',ys=y::ys'∧Sle x y∧SleL xs ys'
theorem SleL.rl {M:MM} (hR:RH M):∀ {xs ys:List AV} {vs:List Value},SleL xs ys→RL M xs vs→RL0 M.w M.I ys vs
 | [],ys,vs,h,k=>by simp only[SleL]at h;subst h;simpa only [RL,RL0] using k
 | x::xs,ys,vs,h,k=>by
  simp only[SleL]at h;obtain ⟨y,ys',rfl,h2,h3⟩:=h;simp only[RL]at k;obtain ⟨v,vs',rfl,k2,k3⟩:=k;simp only[RL0];exact ⟨v,vs',rfl,h2 M hR v k2,h3.rl hR k3⟩
theorem Sle.pure {x:AV} (h:x.pure=true):Sle x x:=fun _ _ _ r=>RV.pure h r
theorem Sle.nil (sz:Nat):Sle (.val (.slice none 0 0)) (.imm sz []):=fun _ _ v r=>by
 simp only[RV]at r;subst r;simp only[RV0,RL0];exact ⟨none,0,0,[],rfl,rfl,Nat.le_refl _,by simp[maxLen],rfl,by simp,.inl rfl⟩
theorem SleL.pure:∀ {xs:List AV},xs.all AV.pure=true→SleL xs xs
 | [],_=>rfl
 | x::xs,h=>by
  simp only[List.all_cons,Bool.and_eq_true]at h;exact ⟨x,xs,rfl,Sle.pure h.1,SleL.pure h.2⟩
theorem VCall.of_contract {f:Nat} {args args':List AV} {C:AV→Prop} (h:Contract P f args' C) (ha:SleL args args') {H:List VObj} {nx:Nat} {K:AV→List VObj→Nat→Prop} (hK:∀ r,C r→K r H nx):VCall P f args H nx K:=by
 refine ⟨h.1,fun M vs hR hH hnx hvs=>?_⟩;subst hH;subst hnx;refine (h.2 M.I M.w vs (fun b hb=>hR.ilt hb) (ha.rl hR hvs)).mono fun e w' hp=>?_;obtain ⟨v,r,rfl,p2,p3,p4⟩:=hp;obtain ⟨M',hM'⟩:∃ M':MM,M'=⟨M.I0,M.w0,w',M.H,M.m,M.nx,M.o⟩:=⟨_,rfl⟩
 have hsame:∀ g,g<M.w.heap.size→w'.heap[g]? = M.w.heap[g]?:=fun g hg=>p3.block g hg;have hI:∀ b,M.I b→M'.I b:=fun b hb=>by
  subst hM';refine ⟨?_,hb.2⟩;rcases hb.1 with h1 | h1
  ·exact .inl h1
  ·exact .inr ⟨h1.1,Nat.lt_of_lt_of_le h1.2 p3.size⟩
 have hkeep:Keep M M':=by
  subst hM';exact ⟨hI,Same.of_eq fun b hb=>hsame b (hR.ilt hb),⟨p3.size,fun r hr=>by rw[hsame r (Array.getElem?_eq_some_iff.1 hr).1];exact hr⟩,Nat.le_refl _,fun _ ob h _=>⟨ob,h,rfl,rfl,Nat.le_refl _,rfl,rfl,fun g hg cur ty fr h=>⟨cur,ty,fr,by rw[← hsame g (hR.lt hg).2.1];exact h,rfl⟩⟩⟩
 have hR':RH M':=by
  subst hM';refine ⟨hR.below.trans (p3.mono hR.below.size),hR.i0,hR.len,hR.inj,fun id ob ho=>?_⟩;obtain ⟨h1,h2⟩:=hR.own id ob ho;refine ⟨h1,?_⟩;show (match M.m.getD id none with | none=>_ | some g=>_);cases hmm:M.m.getD id none with
  | none=>rw[hmm]at h2;exact h2
  | some g =>
   rw[hmm]at h2;obtain ⟨q1,cur,q2,q3,q4⟩:=h2;exact ⟨q1,cur,q2.same (hsame g (hR.lt hmm).2.1),q3,fun j x v hx hv=>RV.keep hkeep x v (q4 j x v hx hv)⟩
 refine ⟨v,r,M',rfl,by rw[hM'],by rw[hM'],by rw[hM'],hR',hkeep.rv,RV.of0 ?_,by rw[hM'];exact hK r p4⟩;refine RV0.mono (w:=w') (w':=M'.w) (I:=c7g M.I M.w w') (fun b hb=>?_) (fun b _ cur ty fr h=>by rw[hM'];exact h) r v p2;rcases hb with hb | hb
 ·exact hI b hb
 ·subst hM';refine ⟨.inr ⟨Nat.le_trans hR.below.size hb.1,hb.2⟩,fun id e=>?_⟩;have:=(hR.lt (id:=id) (g:=b) e).2.1;omega
end
end Go.V
