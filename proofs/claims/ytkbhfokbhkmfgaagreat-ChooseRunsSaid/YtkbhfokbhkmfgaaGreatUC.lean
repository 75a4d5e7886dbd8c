/- The engine, part 7b: contracts of functions whose answer lies in new memory: what they are called with may be the call's own. No condition. -/
import Derived.Test.YtkbhfokbhkmfgaaGreatU9
set_option linter.unusedVariables false
set_option linter.unusedSimpArgs false
namespace Go.V
open Go.RowKit
section
variable {P:Program}
def c3e (w w':World) (b:Nat):Prop:=w.heap.size≤b∧b<w'.heap.size
def ContractN (P:Program) (f:Nat) (args:List AV) (C:AV→Prop):Prop :=
 b4H P f∧∀ (I:Nat→Prop) (w:World) (vs:List Value),(∀ b,I b→b<w.heap.size)→RL0 w I args vs →
  Calls P f vs.toArray w fun e w'=>∃ v r,e = .returned v∧RV0 w' (c3e w w') r v∧Below w.heap.size w w'∧C r
theorem ContractN.old {f:Nat} {args:List AV} {C:AV→Prop} (h:ContractN P f args C):Contract P f args C :=
 ⟨h.1,fun I w vs hI hvs=>(h.2 I w vs hI hvs).mono fun e w' hp=>by
   obtain ⟨v,r,h1,h2,h3,h4⟩:=hp;exact ⟨v,r,h1,RV0.mono (fun b hb=>.inr hb) (fun _ _ _ _ _ h=>h) _ _ h2,h3,h4⟩⟩
theorem Frz0.lt {M:MM} (hR:RH M) {b:Nat} (h:Drop M 0 b):b<M.w.heap.size:=by
 rcases h.1 with h | h
 ·exact Nat.lt_of_lt_of_le (hR.i0 b h) hR.below.size
 ·exact h.2
theorem VCall.of_contractN {f:Nat} {args args':List AV} {C:AV→Prop} (h:ContractN P f args' C) {H:List VObj} {nx:Nat} (ha:FrzL 0 H nx args args') {K:AV→List VObj→Nat→Prop} (hK:∀ r,C r→K r H nx):VCall P f args H nx K:=by
 refine ⟨h.1,fun M vs hR hH hnx hvs=>?_⟩;have hvs':=ha.rl hR hH hnx hvs;subst hH;subst hnx;refine (h.2 (Drop M 0) M.w vs (fun b hb=>Frz0.lt hR hb) hvs').mono fun e w' hp=>?_;obtain ⟨v,r,rfl,p2,p3,p4⟩:=hp;obtain ⟨M',hM'⟩:∃ M':MM,M'=⟨M.I0,M.w0,w',M.H,M.m,M.nx,M.o⟩:=⟨_,rfl⟩
 have hsame:∀ g,g<M.w.heap.size→w'.heap[g]? = M.w.heap[g]?:=fun g hg=>p3.block g hg;have hI:∀ b,M.I b→M'.I b:=fun b hb=>by
  subst hM';refine ⟨?_,hb.2⟩;rcases hb.1 with h1 | h1
  ·exact .inl h1
  ·exact .inr ⟨h1.1,Nat.lt_of_lt_of_le h1.2 p3.size⟩
 have hkeep:Keep M M':=by
  subst hM';exact ⟨hI,Same.of_eq fun b hb=>hsame b (hR.ilt hb),⟨p3.size,fun r hr=>by rw[hsame r (Array.getElem?_eq_some_iff.1 hr).1];exact hr⟩,Nat.le_refl _,fun _ ob h _=>⟨ob,h,rfl,rfl,Nat.le_refl _,rfl,rfl,fun g hg cur ty fr h=>⟨cur,ty,fr,by rw[← hsame g (hR.lt hg).2.1];exact h,rfl⟩⟩⟩
 have hR':RH M':=by
  subst hM';refine ⟨hR.below.trans (p3.mono hR.below.size),hR.i0,hR.len,hR.inj,fun id ob ho=>?_⟩;obtain ⟨h1,h2⟩:=hR.own id ob ho;refine ⟨h1,?_⟩;show (match M.m.getD id none with | none=>_ | some g=>_);cases hmm:M.m.getD id none with
  | none=>rw[hmm]at h2;exact h2
  | some g =>
   rw[hmm]at h2;obtain ⟨q1,cur,q2,q3,q4⟩:=h2;exact ⟨q1,cur,q2.same (hsame g (hR.lt hmm).2.1),q3,fun j x v hx hv=>RV.keep hkeep x v (q4 j x v hx hv)⟩
 refine ⟨v,r,M',rfl,by rw[hM'],by rw[hM'],by rw[hM'],hR',hkeep.rv,RV.of0 ?_,by rw[hM'];exact hK r p4⟩;refine RV0.mono (w:=w') (w':=M'.w) (I:=c3e M.w w') (fun b hb=>?_) (fun b _ cur ty fr h=>by rw[hM'];exact h) r v p2;subst hM';refine ⟨.inr ⟨Nat.le_trans hR.below.size hb.1,hb.2⟩,fun id e=>?_⟩;have:=(hR.lt (id:=id) (g:=b) e).2.1;have:=hb.1;omega
def FrzN (H:List VObj) (nx:Nat) (x y:AV):Prop:=∀ (M:MM),RH M→M.H=H→M.nx=nx→∀ v,RV M x v→RV0 M.w (c3e M.w0 M.w) y v
theorem ContractN.of_call {f:Nat} {args:List AV} {C:AV→Prop} (h:VCall P f args [] 0 fun r H nx=>∃ y,FrzN H nx r y∧C y):ContractN P f args C:=by
 refine ⟨h.1,fun I w vs hI hvs=>?_⟩;have hR:RH ⟨I,w,w,[],[],0,fun _=>0⟩:=⟨Below.refl _ _,hI,rfl,fun i j g hi=>by simp at hi,fun id ob ho=>by simp at ho⟩
 have hII:∀ b,I b→MM.I ⟨I,w,w,[],[],0,fun _=>0⟩ b:=fun b hb=>⟨.inl hb,fun id=>by simp⟩
 refine (h.2 ⟨I,w,w,[],[],0,fun _=>0⟩ vs hR rfl rfl (RL.of0 (RL0.mono hII (fun _ _ _ _ _ h=>h) _ _ hvs))).mono fun e w' hp=>?_;obtain ⟨v,r,M',rfl,p2,p3,rfl,p5,p6,p7,y,p8,p9⟩:=hp;refine ⟨v,y,rfl,?_,?_,p9⟩
 ·have:=p8 M' p5 rfl rfl v p7;rw[p3]at this;exact this
 ·have:=p5.below;rw[p3]at this;exact this
def FrzNL (H:List VObj) (nx:Nat):List AV→List AV→Prop
 | [],ys=>ys=[]
 | x::xs,ys=>∃ y ys',ys=y::ys'∧FrzN H nx x y∧FrzNL H nx xs ys'
theorem FrzNL.rl {H:List VObj} {nx:Nat} {M:MM} (hR:RH M) (hH:M.H=H) (hnx:M.nx=nx):∀ {xs ys:List AV} {vs:List Value},FrzNL H nx xs ys→RL M xs vs→RL0 M.w (c3e M.w0 M.w) ys vs
 | [],ys,vs,h,k=>by simp only[FrzNL]at h;subst h;simpa only [RL,RL0] using k
 | x::xs,ys,vs,h,k=>by
  simp only[FrzNL]at h;obtain ⟨y,ys',rfl,h2,h3⟩:=h;simp only[RL]at k;obtain ⟨v,vs',rfl,k2,k3⟩:=k;simp only[RL0];exact ⟨v,vs',rfl,h2 M hR hH hnx v k2,h3.rl hR hH hnx k3⟩
theorem FrzN.val {H:List VObj} {nx:Nat} {v:Value}:FrzN H nx (.val v) (.val v):=fun _ _ _ _ u r=>by simpa only [RV,RV0] using r
theorem FrzN.nil {H:List VObj} {nx:Nat} (sz:Nat):FrzN H nx (.val (.slice none 0 0)) (.imm sz []):=fun M hR _ _ v r=>by
 simp only[RV]at r;subst r;simp only[RV0,RL0];exact ⟨none,0,0,[],rfl,rfl,Nat.le_refl _,by simp[maxLen],rfl,by simp,.inl rfl⟩
theorem FrzN.agg {H:List VObj} {nx:Nat} {xs ys:List AV} (h:FrzNL H nx xs ys):FrzN H nx (.agg xs) (.agg ys):=fun M hR hH hnx v r=>by
 simp only[RV]at r;obtain ⟨vs,h1,h2⟩:=r;simp only[RV0];exact ⟨vs,h1,h.rl hR hH hnx h2⟩
theorem FrzN.tup {H:List VObj} {nx:Nat} {xs ys:List AV} (h:FrzNL H nx xs ys):FrzN H nx (.tup xs) (.tup ys):=fun M hR hH hnx v r=>by
 simp only[RV]at r;obtain ⟨vs,h1,h2⟩:=r;simp only[RV0];exact ⟨vs,h1,h.rl hR hH hnx h2⟩
theorem FrzN.ref {H:List VObj} {nx id s off len:Nat} {ob:VObj} {ys:List AV} (ho:H[id]? = some ob) (hs:ob.s=s) (hz:ob.sz=1) (h1:ob.cs.all AV.one=true) (h:FrzNL H nx ((ob.cs.drop off).take len) ys) :
 FrzN H nx (.ref id s off len) (.imm 1 ys):=fun M hR hH hnx v r=>by
 subst hH;simp only[RV]at r;obtain ⟨hzz,r⟩:=r.2.2 ob ho hs;cases hm:M.m.getD id none with
 | none =>
  rw[hm]at r;obtain ⟨rfl,rfl,rfl⟩:=r;simp only[List.take_zero,FrzNL]at h;subst h;simp only[RV0,RL0];exact ⟨none,0,0,[],rfl,rfl,Nat.le_refl _,by simp[maxLen],rfl,by simp,.inl rfl⟩
 | some g =>
  rw[hm]at r;obtain ⟨oo,cap,rfl,q2,q3,q4,q5,q6⟩:=r;rw[hz]at q4;obtain ⟨vs,g1,g2,g3⟩:=hR.cells ho hzz hm off len (by omega);have hone:=RL.all1 (by
   rw[List.all_eq_true]at h1 ⊢;exact fun q hq=>h1 q (List.mem_of_mem_drop (List.mem_of_mem_take hq))) g2
  have hrl:=h.rl hR rfl hnx g2;simp only[RV0];refine ⟨_,len,cap,vs,rfl,?_,q2,q3,hrl,fun u hu=>by rw[a1U (hone u hu)];rfl,?_⟩
  ·rw[← hrl.length,g1]
  ·by_cases hl:len=0
   ·exact .inl hl
   ·refine .inr ⟨g,oo,rfl,⟨(hR.lt hm).1,(hR.lt hm).2.1⟩,fun i u hu j x hx=>?_⟩;have hoo:oo=M.o id+off:=by rcases q5 with q5 | q5<;>omega
    subst hoo;rw[a1U (hone u (List.mem_of_getElem? hu))]at hx;cases j with
    | zero=>simp at hx;subst hx;simpa using g3 i u hu
    | succ j=>simp at hx
theorem FrzNL.vals {α:Type} {H:List VObj} {nx:Nat} (f:α→Value):∀ (l:List α),FrzNL H nx (l.map fun a=>.val (f a)) (l.map fun a=>.val (f a))
 | []=>rfl
 | a::l=>⟨_,_,rfl,FrzN.val,FrzNL.vals f l⟩
end
end Go.V
