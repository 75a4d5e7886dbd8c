/- A writer's part that writes an instruction: contract. No condition. A writer's part that writes a block's end: contract. No condition. A writer's part that writes a function: contract. No condition. -/
import Derived.Test.YtkbhfokbhkmfgaaGreatQr2
import Derived.Test.YtkbhfokbhkmfgaaGreatUY
set_option linter.unusedVariables false
set_option linter.unusedSimpArgs false
namespace Go.Proofs.YtkbhfokbhkmfgaaGreat
set_option linter.unusedSimpArgs false
set_option linter.unusedVariables false
set_option maxRecDepth 10000
open Go.V
structure InsOk (c:Cx) (t:Tac):Prop where
 o:1≤t.op∧t.op≤10
 d:a0m t→0≤t.d∧t.d<c.pl.length
 a:(t.op=2∨t.op=3∨t.op=5∨t.op=6∨t.op=7∨t.op=9)→0≤t.a∧t.a<c.pl.length
 b:(t.op=3∨t.op=7)→0≤t.b∧t.b<c.pl.length
 n:a1b t.n
section
variable {c:Cx} {q:WI} {H:List VObj} {l:List Sy} {en:List Int} {bl:List AV}
theorem WH.keep {b:BP} {ws:List Int} {back fn:Int} {plv:AV} {code:List Ci} {sp:List Sp} {H':List VObj} (h:WH b ws back fn plv q H code sp en bl) (k:KeepT [] H H'):WH b ws back fn plv q H' code sp en bl:=by
 obtain ⟨cv,pv,hw,hc,hp⟩:=h.w;exact ⟨⟨cv,pv,k _ _ hw (by simp),hc.keep k (by simp),hp.keep k (by simp)⟩,k _ _ h.e (by simp),k _ _ h.b (by simp),k _ _ h.d (by simp)⟩
theorem b5v (h:WC c q H l en bl) (hk:CxOk c) (hl:l.length≤700000) (nx:Nat) {t:Tac} (ht:InsOk c t) (C:AV→List VObj→Nat→Prop)
 (hC:∀ x H' nx',WC c q H' (l++a2e c t) en bl→KeepT wT H H'→C x H' nx'):VCall Tryz.prog 47 [.ptr q.kW q.sW 0,b5d t] H nx C:=by
 refine VCall.of_body a1g a4g (by simp) ?_;obtain ⟨op,d,a,b,k,base,size,n⟩:=t;have ho:=ht.o;have hn:=ht.n;have hd:=ht.d;have ha:=ht.a;have hbb:=ht.b;simp only[a0m]at ho hn hd ha hbb;have hb:(H++[⟨nx,95,1,a8s ⟨op,d,a,b,k,base,size,n⟩⟩])[H.length]? = some ⟨nx,95,1,a8s ⟨op,d,a,b,k,base,size,n⟩⟩:=by simp
 have h1:WC c q (H++[⟨nx,95,1,a8s ⟨op,d,a,b,k,base,size,n⟩⟩]) l en bl:=h.keep (KeepT.app _ _ _);have fa:=a4b c a 9;have fb:=a4b c b 10;simp only[a1X];have hcs:op=1∨op=2∨op=3∨op=4∨op=5∨op=6∨op=7∨op=8∨op=9∨op=10:=by omega
 rcases hcs with rfl | rfl | rfl | rfl | rfl | rfl | rfl | rfl | rfl | rfl
 ·have e:a2e c ⟨1,d,a,b,k,base,size,n⟩=a2K c d n:=rfl;replace hd:=hd (by decide);simp only[go_sem,List.getElem?_append,Nat.lt_irrefl,Nat.sub_self,Int.reduceEq,Int.reduceBEq]
  all_goals
   refine c0u h1 hk (by first | omega | (simp only[List.length_append,List.length_cons,List.length_nil];omega)) _ hd hn _ fun r2 H2 nx2 h2 k2=>?_;have b2:=k2 _ _ hb (by simp);simp only[go_sem,List.getElem?_append,Nat.lt_irrefl,Nat.sub_self,Int.reduceEq,Int.reduceBEq,b2]
  all_goals
   exact hC _ _ _ (by rw[e];simpa only [List.append_assoc,List.cons_append,List.nil_append] using h2) ((KeepT.app _ _ _).trans k2)
 ·have e:a2e c ⟨2,d,a,b,k,base,size,n⟩=b0r c d a:=rfl;replace hd:=hd (by decide);replace ha:=ha (by decide);simp only[go_sem,List.getElem?_append,Nat.lt_irrefl,Nat.sub_self,Int.reduceEq,Int.reduceBEq]
  all_goals
   refine c3P h1 hk (by first | omega | (simp only[List.length_append,List.length_cons,List.length_nil];omega)) _ hd ha _ fun r2 H2 nx2 h2 k2=>?_;have b2:=k2 _ _ hb (by simp);simp only[go_sem,List.getElem?_append,Nat.lt_irrefl,Nat.sub_self,Int.reduceEq,Int.reduceBEq,b2]
  all_goals
   exact hC _ _ _ (by rw[e];simpa only [List.append_assoc,List.cons_append,List.nil_append] using h2) ((KeepT.app _ _ _).trans k2)
 ·have e:a2e c ⟨3,d,a,b,k,base,size,n⟩=a0K c a 9++a0K c b 10++[pY k (a0S c d) (a0B c a 9) (a0B c b 10)]++a1z c d (a0S c d):=rfl;replace hd:=hd (by decide);replace ha:=ha (by decide);replace hbb:=hbb (by decide);simp only[go_sem,List.getElem?_append,Nat.lt_irrefl,Nat.sub_self,Int.reduceEq,Int.reduceBEq]
  repeat' (with_reducible apply And.intro)
  all_goals
   refine a4t h1 hk (by first | omega | (simp only[List.length_append,List.length_cons,List.length_nil];omega)) _ _ ha _ fun H2 nx2 h2 k2=>?_;have b2:=k2 _ _ hb (by simp);simp only[go_sem,List.getElem?_append,Nat.lt_irrefl,Nat.sub_self,Int.reduceEq,Int.reduceBEq,b2]
  repeat' (with_reducible apply And.intro)
  all_goals
   refine a4t h2 hk (by first | omega | (simp only[List.length_append,List.length_cons,List.length_nil];omega)) _ _ hbb _ fun H3 nx3 h3 k3=>?_;have b3:=k3 _ _ b2 (by simp);simp only[go_sem,List.getElem?_append,Nat.lt_irrefl,Nat.sub_self,Int.reduceEq,Int.reduceBEq,b3]
  repeat' (with_reducible apply And.intro)
  all_goals
   refine b3n h3 hk _ hd _ fun nx4=>?_;simp only[go_sem,List.getElem?_append,Nat.lt_irrefl,Nat.sub_self,Int.reduceEq,Int.reduceBEq,b3]
  repeat' (with_reducible apply And.intro)
  all_goals
   refine a2g h3 (by first | omega | (simp only[List.length_append,List.length_cons,List.length_nil];omega)) _ _ _ _ _ _ fun r5 H5 nx5 h5 k5=>?_;have b5:=k5 _ _ b3 (by simp);simp only[go_sem,List.getElem?_append,Nat.lt_irrefl,Nat.sub_self,Int.reduceEq,Int.reduceBEq,b5]
  all_goals
   refine b1L h5 hk (by first | omega | (simp only[List.length_append,List.length_cons,List.length_nil];omega)) _ _ hd _ fun r6 H6 nx6 h6 k6=>?_;have b6:=k6 _ _ b5 (by simp);simp only[go_sem,List.getElem?_append,Nat.lt_irrefl,Nat.sub_self,Int.reduceEq,Int.reduceBEq,b6]
  all_goals
   exact hC _ _ _ (by rw[e];simpa only [List.append_assoc,List.cons_append,List.nil_append] using h6) (((((KeepT.app _ _ _).trans k2).trans k3).trans k5).trans k6)
 ·have e:a2e c ⟨4,d,a,b,k,base,size,n⟩=[pY 16 (a0S c d) 0 base]++a1z c d (a0S c d):=rfl;replace hd:=hd (by decide);simp only[go_sem,List.getElem?_append,Nat.lt_irrefl,Nat.sub_self,Int.reduceEq,Int.reduceBEq]
  all_goals
   refine b3n h1 hk _ hd _ fun nx2=>?_;simp only[go_sem,List.getElem?_append,Nat.lt_irrefl,Nat.sub_self,Int.reduceEq,Int.reduceBEq,hb]
  all_goals
   refine a2g h1 (by first | omega | (simp only[List.length_append,List.length_cons,List.length_nil];omega)) _ _ _ _ _ _ fun r3 H3 nx3 h3 k3=>?_;have b3:=k3 _ _ hb (by simp);simp only[go_sem,List.getElem?_append,Nat.lt_irrefl,Nat.sub_self,Int.reduceEq,Int.reduceBEq,b3]
  all_goals
   refine b1L h3 hk (by first | omega | (simp only[List.length_append,List.length_cons,List.length_nil];omega)) _ _ hd _ fun r4 H4 nx4 h4 k4=>?_;have b4:=k4 _ _ b3 (by simp);simp only[go_sem,List.getElem?_append,Nat.lt_irrefl,Nat.sub_self,Int.reduceEq,Int.reduceBEq,b4]
  all_goals
   exact hC _ _ _ (by rw[e];simpa only [List.append_assoc,List.cons_append,List.nil_append] using h4) (((KeepT.app _ _ _).trans k3).trans k4)
 ·have e:a2e c ⟨5,d,a,b,k,base,size,n⟩=a0K c a 9++[pY 17 (a0B c a 9) 0 base]:=rfl;replace ha:=ha (by decide);simp only[go_sem,List.getElem?_append,Nat.lt_irrefl,Nat.sub_self,Int.reduceEq,Int.reduceBEq]
  repeat' (with_reducible apply And.intro)
  all_goals
   refine a4t h1 hk (by first | omega | (simp only[List.length_append,List.length_cons,List.length_nil];omega)) _ _ ha _ fun H2 nx2 h2 k2=>?_;have b2:=k2 _ _ hb (by simp);simp only[go_sem,List.getElem?_append,Nat.lt_irrefl,Nat.sub_self,Int.reduceEq,Int.reduceBEq,b2]
  repeat' (with_reducible apply And.intro)
  all_goals
   refine a2g h2 (by first | omega | (simp only[List.length_append,List.length_cons,List.length_nil];omega)) _ _ _ _ _ _ fun r3 H3 nx3 h3 k3=>?_;have b3:=k3 _ _ b2 (by simp);simp only[go_sem,List.getElem?_append,Nat.lt_irrefl,Nat.sub_self,Int.reduceEq,Int.reduceBEq,b3]
  all_goals
   exact hC _ _ _ (by rw[e];simpa only [List.append_assoc,List.cons_append,List.nil_append] using h3) (((KeepT.app _ _ _).trans k2).trans k3)
 ·have e:a2e c ⟨6,d,a,b,k,base,size,n⟩=a0K c a 9++[pY 25 (a0B c a 9) 0 size]++[pY 16 (a0S c d) (a0B c a 9) base]++a1z c d (a0S c d):=rfl;replace hd:=hd (by decide);replace ha:=ha (by decide);simp only[go_sem,List.getElem?_append,Nat.lt_irrefl,Nat.sub_self,Int.reduceEq,Int.reduceBEq]
  repeat' (with_reducible apply And.intro)
  all_goals
   refine a4t h1 hk (by first | omega | (simp only[List.length_append,List.length_cons,List.length_nil];omega)) _ _ ha _ fun H2 nx2 h2 k2=>?_;have b2:=k2 _ _ hb (by simp);simp only[go_sem,List.getElem?_append,Nat.lt_irrefl,Nat.sub_self,Int.reduceEq,Int.reduceBEq,b2]
  repeat' (with_reducible apply And.intro)
  all_goals
   refine b3n h2 hk _ hd _ fun nx3=>?_;simp only[go_sem,List.getElem?_append,Nat.lt_irrefl,Nat.sub_self,Int.reduceEq,Int.reduceBEq,b2]
  all_goals
   refine a2g h2 (by first | omega | (simp only[List.length_append,List.length_cons,List.length_nil];omega)) _ _ _ _ _ _ fun r4 H4 nx4 h4 k4=>?_;have b4:=k4 _ _ b2 (by simp);simp only[go_sem,List.getElem?_append,Nat.lt_irrefl,Nat.sub_self,Int.reduceEq,Int.reduceBEq,b4]
  all_goals
   refine a2g h4 (by first | omega | (simp only[List.length_append,List.length_cons,List.length_nil];omega)) _ _ _ _ _ _ fun r5 H5 nx5 h5 k5=>?_;have b5:=k5 _ _ b4 (by simp);simp only[go_sem,List.getElem?_append,Nat.lt_irrefl,Nat.sub_self,Int.reduceEq,Int.reduceBEq,b5]
  all_goals
   refine b1L h5 hk (by first | omega | (simp only[List.length_append,List.length_cons,List.length_nil];omega)) _ _ hd _ fun r6 H6 nx6 h6 k6=>?_;have b6:=k6 _ _ b5 (by simp);simp only[go_sem,List.getElem?_append,Nat.lt_irrefl,Nat.sub_self,Int.reduceEq,Int.reduceBEq,b6]
  all_goals
   exact hC _ _ _ (by rw[e];simpa only [List.append_assoc,List.cons_append,List.nil_append] using h6) (((((KeepT.app _ _ _).trans k2).trans k4).trans k5).trans k6)
 ·have e:a2e c ⟨7,d,a,b,k,base,size,n⟩=a0K c a 9++[pY 25 (a0B c a 9) 0 size]++a0K c b 10++[pY 17 (a0B c b 10) (a0B c a 9) base]:=rfl;replace ha:=ha (by decide);replace hbb:=hbb (by decide);simp only[go_sem,List.getElem?_append,Nat.lt_irrefl,Nat.sub_self,Int.reduceEq,Int.reduceBEq]
  all_goals
   refine a4t h1 hk (by first | omega | (simp only[List.length_append,List.length_cons,List.length_nil];omega)) _ _ ha _ fun H2 nx2 h2 k2=>?_;have b2:=k2 _ _ hb (by simp);simp only[go_sem,List.getElem?_append,Nat.lt_irrefl,Nat.sub_self,Int.reduceEq,Int.reduceBEq,b2]
  all_goals
   refine a2g h2 (by first | omega | (simp only[List.length_append,List.length_cons,List.length_nil];omega)) _ _ _ _ _ _ fun r3 H3 nx3 h3 k3=>?_;have b3:=k3 _ _ b2 (by simp);simp only[go_sem,List.getElem?_append,Nat.lt_irrefl,Nat.sub_self,Int.reduceEq,Int.reduceBEq,b3]
  repeat' (with_reducible apply And.intro)
  all_goals
   refine a4t h3 hk (by first | omega | (simp only[List.length_append,List.length_cons,List.length_nil];omega)) _ _ hbb _ fun H4 nx4 h4 k4=>?_;have b4:=k4 _ _ b3 (by simp);simp only[go_sem,List.getElem?_append,Nat.lt_irrefl,Nat.sub_self,Int.reduceEq,Int.reduceBEq,b4]
  repeat' (with_reducible apply And.intro)
  all_goals
   refine a2g h4 (by first | omega | (simp only[List.length_append,List.length_cons,List.length_nil];omega)) _ _ _ _ _ _ fun r5 H5 nx5 h5 k5=>?_;have b5:=k5 _ _ b4 (by simp);simp only[go_sem,List.getElem?_append,Nat.lt_irrefl,Nat.sub_self,Int.reduceEq,Int.reduceBEq,b5]
  all_goals
   exact hC _ _ _ (by rw[e];simpa only [List.append_assoc,List.cons_append,List.nil_append] using h5) (((((KeepT.app _ _ _).trans k2).trans k3).trans k4).trans k5)
 ·have e:a2e c ⟨8,d,a,b,k,base,size,n⟩=[pY 23 (a0S c d) 0 0]++a1z c d (a0S c d):=rfl;replace hd:=hd (by decide);simp only[go_sem,List.getElem?_append,Nat.lt_irrefl,Nat.sub_self,Int.reduceEq,Int.reduceBEq]
  all_goals
   refine b3n h1 hk _ hd _ fun nx2=>?_;simp only[go_sem,List.getElem?_append,Nat.lt_irrefl,Nat.sub_self,Int.reduceEq,Int.reduceBEq,hb]
  all_goals
   refine a2g h1 (by first | omega | (simp only[List.length_append,List.length_cons,List.length_nil];omega)) _ _ _ _ _ _ fun r3 H3 nx3 h3 k3=>?_;have b3:=k3 _ _ hb (by simp);simp only[go_sem,List.getElem?_append,Nat.lt_irrefl,Nat.sub_self,Int.reduceEq,Int.reduceBEq,b3]
  all_goals
   refine b1L h3 hk (by first | omega | (simp only[List.length_append,List.length_cons,List.length_nil];omega)) _ _ hd _ fun r4 H4 nx4 h4 k4=>?_;have b4:=k4 _ _ b3 (by simp);simp only[go_sem,List.getElem?_append,Nat.lt_irrefl,Nat.sub_self,Int.reduceEq,Int.reduceBEq,b4]
  all_goals
   exact hC _ _ _ (by rw[e];simpa only [List.append_assoc,List.cons_append,List.nil_append] using h4) (((KeepT.app _ _ _).trans k3).trans k4)
 ·have e:a2e c ⟨9,d,a,b,k,base,size,n⟩=a0K c a 9++[pY 24 (a0B c a 9) 0 0]:=rfl;replace ha:=ha (by decide);simp only[go_sem,List.getElem?_append,Nat.lt_irrefl,Nat.sub_self,Int.reduceEq,Int.reduceBEq]
  all_goals
   refine a4t h1 hk (by first | omega | (simp only[List.length_append,List.length_cons,List.length_nil];omega)) _ _ ha _ fun H2 nx2 h2 k2=>?_;have b2:=k2 _ _ hb (by simp);simp only[go_sem,List.getElem?_append,Nat.lt_irrefl,Nat.sub_self,Int.reduceEq,Int.reduceBEq,b2]
  all_goals
   refine a2g h2 (by first | omega | (simp only[List.length_append,List.length_cons,List.length_nil];omega)) _ _ _ _ _ _ fun r3 H3 nx3 h3 k3=>?_;have b3:=k3 _ _ b2 (by simp);simp only[go_sem,List.getElem?_append,Nat.lt_irrefl,Nat.sub_self,Int.reduceEq,Int.reduceBEq,b3]
  all_goals
   exact hC _ _ _ (by rw[e];simpa only [List.append_assoc,List.cons_append,List.nil_append] using h3) (((KeepT.app _ _ _).trans k2).trans k3)
 ·have e:a2e c ⟨10,d,a,b,k,base,size,n⟩=[jY 21 12 base (-1)]:=rfl;simp only[go_sem,List.getElem?_append,Nat.lt_irrefl,Nat.sub_self,Int.reduceEq,Int.reduceBEq]
  all_goals
   refine b3m h1 (by first | omega | (simp only[List.length_append,List.length_cons,List.length_nil];omega)) _ _ _ _ _ _ fun r2 H2 nx2 h2 k2=>?_;have b2:=k2 _ _ hb (by simp);simp only[go_sem,List.getElem?_append,Nat.lt_irrefl,Nat.sub_self,Int.reduceEq,Int.reduceBEq,b2]
  all_goals
   exact hC _ _ _ (by rw[e];simpa only [List.append_assoc,List.cons_append,List.nil_append] using h2) ((KeepT.app _ _ _).trans k2)
end
set_option maxRecDepth 10000
open Go.V
section
variable {c:Cx} {q:WI} {H:List VObj} {l:List Sy} {en:List Int} {bl:List AV}
theorem c9m (h:WC c q H l en bl) (hk:CxOk c) (hl:l.length≤700000) (nx:Nat) {b:Bk} (next:Int) (hn:0≤next) (he:b.e=1∨b.e=2∨b.e=3) (hv:b.e=2→0≤b.v∧b.v<c.pl.length) (C:AV→List VObj→Nat→Prop)
 (hC:∀ x H' nx',WC c q H' (l++b2m c b next) en bl→KeepT wT H H'→C x H' nx'):VCall Tryz.prog 48 [.ptr q.kW q.sW 0,bkA b,I next] H nx C:=by
 refine VCall.of_body a1g a8K (by simp) ?_;obtain ⟨ins,e,v,to,el⟩:=b;simp only at he hv;have h20:=hk.fs;have hbk:=hk.bk;have hfl:=hk.fl;have hb:(H++[⟨nx,56,1,bkL ⟨ins,e,v,to,el⟩⟩])[H.length]? = some ⟨nx,56,1,bkL ⟨ins,e,v,to,el⟩⟩:=by simp
 have h1:WC c q (H++[⟨nx,56,1,bkL ⟨ins,e,v,to,el⟩⟩]) l en bl:=h.keep (KeepT.app _ _ _);have k0:KeepT wT H (H++[⟨nx,56,1,bkL ⟨ins,e,v,to,el⟩⟩]):=KeepT.app _ _ _;have fa:=a4b c v 9;have w1:IntKind.i64.wrap ((c.b.funcs.length:Int)-1)=(c.b.funcs.length:Int)-1:=a0e (by omega) (by omega);have w2:IntKind.i64.wrap (c.back+c.fn)=c.back+c.fn:=a0e (by omega) (by omega);obtain ⟨cv,pv,hw,hc,hp⟩:=h1.w;simp only[a4h];rcases he with rfl | rfl | rfl
 ·by_cases e1:to=next
  ·subst e1;have e:b2m c ⟨ins,1,v,to,el⟩ to=[]:=by unfold b2m;simp
   simp only[go_sem,List.getElem?_append,Nat.lt_irrefl,Nat.sub_self,Int.reduceEq,Int.reduceBEq,w1,w2,hw,hc.one,hp.one,bne_self_eq_false];exact hC _ _ _ (by rw[e,List.append_nil];exact h1) k0
  ·have e:b2m c ⟨ins,1,v,to,el⟩ next=[jY 18 0 c.fn to]:=if_neg e1
   simp only[go_sem,List.getElem?_append,Nat.lt_irrefl,Nat.sub_self,Int.reduceEq,Int.reduceBEq,w1,w2,hw,hc.one,hp.one,eq_false e1,beq_false_of_ne e1];refine b3m h1 (by first | omega | (simp only[List.length_append,List.length_cons,List.length_nil];omega)) _ _ _ _ _ _ fun r2 H2 nx2 h2 k2=>?_;simp only[go_sem,List.getElem?_append,Nat.lt_irrefl,Nat.sub_self,Int.reduceEq,Int.reduceBEq];exact hC _ _ _ (by rw[e];exact h2) (k0.trans k2)
 ·replace hv:=hv rfl;by_cases e1:to=next
  ·have e:b2m c ⟨ins,2,v,to,el⟩ next=a0K c v 9++[jY 19 (a0B c v 9) c.fn el]:=if_pos e1
   simp only[go_sem,List.getElem?_append,Nat.lt_irrefl,Nat.sub_self,Int.reduceEq,Int.reduceBEq,w1,w2,hw,hc.one,hp.one];refine a4t h1 hk (by first | omega | (simp only[List.length_append,List.length_cons,List.length_nil];omega)) _ _ hv _ fun H2 nx2 h2 k2=>?_;have b2:=k2 _ _ hb (by simp);obtain ⟨cv2,pv2,hw2,hc2,hp2⟩:=h2.w;simp only[go_sem,List.getElem?_append,Nat.lt_irrefl,Nat.sub_self,Int.reduceEq,Int.reduceBEq,w1,w2,hw2,hc2.one,hp2.one,b2,eq_true e1];refine b3m h2 (by first | omega | (simp only[List.length_append,List.length_cons,List.length_nil];omega)) _ _ _ _ _ _ fun r3 H3 nx3 h3 k3=>?_;simp only[go_sem,List.getElem?_append,Nat.lt_irrefl,Nat.sub_self,Int.reduceEq,Int.reduceBEq];exact hC _ _ _ (by rw[e];simpa only [List.append_assoc] using h3) ((k0.trans k2).trans k3)
  ·simp only[go_sem,List.getElem?_append,Nat.lt_irrefl,Nat.sub_self,Int.reduceEq,Int.reduceBEq,w1,w2,hw,hc.one,hp.one];refine a4t h1 hk (by first | omega | (simp only[List.length_append,List.length_cons,List.length_nil];omega)) _ _ hv _ fun H2 nx2 h2 k2=>?_;have b2:=k2 _ _ hb (by simp);obtain ⟨cv2,pv2,hw2,hc2,hp2⟩:=h2.w;simp only[go_sem,List.getElem?_append,Nat.lt_irrefl,Nat.sub_self,Int.reduceEq,Int.reduceBEq,w1,w2,hw2,hc2.one,hp2.one,b2,eq_false e1,beq_false_of_ne e1];refine b3m h2 (by first | omega | (simp only[List.length_append,List.length_cons,List.length_nil];omega)) _ _ _ _ _ _ fun r3 H3 nx3 h3 k3=>?_;have b3:=k3 _ _ b2 (by simp);obtain ⟨cv3,pv3,hw3,hc3,hp3⟩:=h3.w;by_cases e2:el=next
   ·have e:b2m c ⟨ins,2,v,to,el⟩ next=a0K c v 9++[jY 20 (a0B c v 9) c.fn to]:=by
     unfold b2m;simp only[Int.reduceEq,↓reduceIte,if_neg e1,if_pos e2,List.append_nil]
    simp only[go_sem,List.getElem?_append,Nat.lt_irrefl,Nat.sub_self,Int.reduceEq,Int.reduceBEq,w1,w2,hw3,hc3.one,hp3.one,b3,eq_true e2,e2,bne_self_eq_false];exact hC _ _ _ (by rw[e];simpa only [List.append_assoc] using h3) ((k0.trans k2).trans k3)
   ·have e:b2m c ⟨ins,2,v,to,el⟩ next=a0K c v 9++[jY 20 (a0B c v 9) c.fn to]++[jY 18 0 c.fn el]:=by
     unfold b2m;simp only[Int.reduceEq,↓reduceIte,if_neg e1,if_neg e2]
    simp only[go_sem,List.getElem?_append,Nat.lt_irrefl,Nat.sub_self,Int.reduceEq,Int.reduceBEq,w1,w2,hw3,hc3.one,hp3.one,b3,eq_false e2,beq_false_of_ne e2];refine b3m h3 (by first | omega | (simp only[List.length_append,List.length_cons,List.length_nil];omega)) _ _ _ _ _ _ fun r4 H4 nx4 h4 k4=>?_;simp only[go_sem,List.getElem?_append,Nat.lt_irrefl,Nat.sub_self,Int.reduceEq,Int.reduceBEq];exact hC _ _ _ (by rw[e];simpa only [List.append_assoc] using h4) (((k0.trans k2).trans k3).trans k4)
 ·by_cases e1:(c.fn:Int)=(c.b.funcs.length:Int)-1
  ·have e:b2m c ⟨ins,3,v,to,el⟩ next=[pY 26 0 0 0]:=if_pos e1
   simp only[go_sem,List.getElem?_append,Nat.lt_irrefl,Nat.sub_self,Int.reduceEq,Int.reduceBEq,w1,w2,hw,hc.one,hp.one,eq_true e1,e1];refine a2g h1 (by first | omega | (simp only[List.length_append,List.length_cons,List.length_nil];omega)) _ _ _ _ _ _ fun r2 H2 nx2 h2 k2=>?_;simp only[go_sem,List.getElem?_append,Nat.lt_irrefl,Nat.sub_self,Int.reduceEq,Int.reduceBEq];exact hC _ _ _ (by rw[e];exact h2) (k0.trans k2)
  ·have e:b2m c ⟨ins,3,v,to,el⟩ next=[pY 16 12 0 (c.back+c.fn),pY 22 12 0 0]:=if_neg e1
   simp only[go_sem,List.getElem?_append,Nat.lt_irrefl,Nat.sub_self,Int.reduceEq,Int.reduceBEq,w1,w2,hw,hc.one,hp.one,eq_false e1,beq_false_of_ne e1];refine a2g h1 (by first | omega | (simp only[List.length_append,List.length_cons,List.length_nil];omega)) _ _ _ _ _ _ fun r2 H2 nx2 h2 k2=>?_;have b2:=k2 _ _ hb (by simp);obtain ⟨cv2,pv2,hw2,hc2,hp2⟩:=h2.w;simp only[go_sem,List.getElem?_append,Nat.lt_irrefl,Nat.sub_self,Int.reduceEq,Int.reduceBEq,w1,w2,hw2,hc2.one,hp2.one,b2];refine a2g h2 (by first | omega | (simp only[List.length_append,List.length_cons,List.length_nil];omega)) _ _ _ _ _ _ fun r3 H3 nx3 h3 k3=>?_;simp only[go_sem,List.getElem?_append,Nat.lt_irrefl,Nat.sub_self,Int.reduceEq,Int.reduceBEq];exact hC _ _ _ (by rw[e];simpa only [List.append_assoc,List.cons_append,List.nil_append] using h3) ((k0.trans k2).trans k3)
end
set_option maxRecDepth 10000
open Go.V
theorem b9u (c:Cx) (t:Tac):(a2e c t).length≤4:=by
 have f:=fun v s=>a4b c v s;have k:=fun v r=>b7m c v r;have f1:=f t.a 9;have f2:=f t.b 10;have k1:=k t.d (a0S c t.d);have k2:=k t.d 0;have k3:=k t.d (a0B c t.a 9);have f3:=f t.a (c.p t.d);unfold a2e a2K b0r
 repeat' split
 all_goals first | omega | (simp only[List.length_append,List.length_cons,List.length_nil];omega)
theorem c3Q (c:Cx) (b:Bk) (n:Int):(b2m c b n).length≤3:=by
 have f1:=a4b c b.v 9;unfold b2m
 repeat' split
 all_goals first | omega | (simp only[List.length_append,List.length_cons,List.length_nil];omega)
theorem a5P {α β:Type} (f:α→List β) (n:Nat) (hf:∀ a,(f a).length≤n):∀ l:List α,(l.flatMap f).length≤n*l.length
 | []=>by simp
 | a::l=>by
  have:=hf a;have:=a5P f n hf l;simp only[List.flatMap_cons,List.length_append,List.length_cons];rw[Nat.mul_add];omega
theorem b9v (c:Cx) (b:Bk) (n:Int):(c0t c b n).length≤4*(b.ins.length+1):=by
 have h1:=c3Q c b n;have h2:=a5P (a2e c) 4 (b9u c) b.ins;unfold c0t;rw[List.length_append];omega
theorem b3o (c:Cx):∀ (l:List Bk) (j:Nat),(a1n c j l).length≤4*a8y l
 | [],_=>by simp[a1n,a8y]
 | b::l,j=>by
  have h1:=b9v c b (j+1:Nat);have h2:=b3o c l (j+1);simp only[a1n,List.length_append,a8y,List.map_cons,List.sum_cons]at h2 ⊢;omega
theorem b7n (c:Cx) (row:List Bool) (v:Nat):(a9H c row v).length≤1:=by
 have:=b7m c v 0;unfold a9H
 repeat' split
 all_goals first | omega | (simp only[List.length_append,List.length_cons,List.length_nil];omega)
theorem b4A (c:Cx) (row:List Bool) (n:Nat):(a2f c row n).length≤n:=by
 have:=a5P (a9H c row) 1 (b7n c row) (List.range n);unfold a2f;simpa using this
theorem c2i (c:Cx) (row:List Bool):(a3M c row).length≤row.length+1:=by
 have:=b4A c row row.length;unfold a3M;split<;>simp only[List.length_append,List.length_cons,List.length_nil]<;>omega
theorem c2j (l:List Bk) (k:Nat):a8y (l.take k)≤a8y l:=by
 conv=>rhs;rw[← List.take_append_drop k l]
 unfold a8y;rw[List.map_append,List.sum_append];omega
def KeepF (q:WI) (H H':List VObj):Prop:=∀ (i:Nat) (ob:VObj),H[i]? = some ob→ob.ty ∉ wT→i≠q.kE→i≠q.kB→H'[i]? = some ob
theorem KeepF.of {q:WI} {H H':List VObj} (h:KeepT wT H H'):KeepF q H H':=fun i ob h1 h2 _ _=>h i ob h1 h2
theorem KeepF.trans {q:WI} {A B C:List VObj} (h:KeepF q A B) (k:KeepF q B C):KeepF q A C:=fun i ob h1 h2 h3 h4=>k i ob (h i ob h1 h2 h3 h4) h2 h3 h4
def a2y:Nat→VC→VC
 | n+1,.seq _ y=>a2y n y
 | _,c=>c
structure FnOk (c:Cx) (f:BF):Prop where
 fe:c.b.funcs.getD c.fn default=f
 fi:Fine f
 pl:c.pl.length=f.r
 n:a8y f.bks≤1000
 ins:∀ b ∈ f.bks,(∀ t ∈ b.ins,InsOk c t)∧(b.e=1∨b.e=2∨b.e=3)∧(b.e=2→0≤b.v∧b.v<c.pl.length)
def a8e (c:Cx) (n0:Nat) (bks:List Bk) (j:Nat):List Int:=(List.range bks.length).map fun i=>if i<j then ((n0+(a1n c 0 (bks.take i)).length:Nat):Int) else 0
theorem c3R (c:Cx) (n0:Nat) (bks:List Bk) {j:Nat} (hj:j<bks.length):(a8e c n0 bks j).set j ((n0+(a1n c 0 (bks.take j)).length:Nat):Int)=a8e c n0 bks (j+1):=by
 refine List.ext_getElem (by simp[a8e]) fun i h1 h2=>?_;rw[List.getElem_set];simp only[a8e,List.getElem_map,List.getElem_range];by_cases e:j=i
 ·subst e;rw[if_pos rfl,if_pos (by omega)]
 ·rw[if_neg e];by_cases h:i<j
  ·rw[if_pos h,if_pos (by omega)]
  ·rw[if_neg h,if_neg (by omega)]
theorem b5w (c:Cx) (n0:Nat) (bks:List Bk) (j:Nat):(a8e c n0 bks j).length=bks.length:=by simp[a8e]
structure LQ where
 j:Nat
 H:List VObj
 nx:Nat
def KeepR (kr:Nat) (H H':List VObj):Prop:=∀ (i:Nat) (ob:VObj),H[i]? = some ob→ob.ty ∉ wT→i≠kr→H'[i]? = some ob
theorem KeepR.refl (kr:Nat) (H:List VObj):KeepR kr H H:=fun _ _ h _ _=>h
theorem KeepR.trans {kr:Nat} {A B C:List VObj} (h:KeepR kr A B) (k:KeepR kr B C):KeepR kr A C:=fun i ob h1 h2 h3=>k i ob (h i ob h1 h2 h3) h2 h3
theorem KeepR.of {kr:Nat} {H H':List VObj} (h:KeepT wT H H'):KeepR kr H H':=fun i ob h1 h2 _=>h i ob h1 h2
theorem KeepR.set (kr:Nat) (H:List VObj) (o:VObj):KeepR kr H (H.set kr o):=fun i ob h1 _ h3=>by rw[a0O (fun e=>h3 e.symm)];exact h1
theorem WH.keepR {b:BP} {ws:List Int} {back fn:Int} {plv:AV} {q:WI} {H:List VObj} {code:List Ci} {sp:List Sp} {en:List Int} {bl:List AV} (h:WH b ws back fn plv q H code sp en bl) {k:Nat} {o:VObj} {s:Nat} {cs:List AV} (ho:H[k]? = some ⟨s,3,1,cs⟩) (hE:k≠q.kE) (hD:k≠q.kD):WH b ws back fn plv q (H.set k o) code sp en bl:=by
 obtain ⟨cv,pv,hw,hc,hp⟩:=h.w;have t:∀ {i:Nat} {ob:VObj},H[i]? = some ob→ob.ty≠3→(H.set k o)[i]? = some ob:=fun {i ob} h1 h2=>by
  rw[a0O (fun e=>by subst e;rw[ho]at h1;cases h1;exact h2 rfl)];exact h1
 have cvk:∀ {ty sz:Nat} {v:AV} {xs:List AV} {n:Nat},CV H ty sz v xs n→ty≠3→CV (H.set k o) ty sz v xs n:=fun {ty sz v xs n} h1 h2=>by
  obtain ⟨i,s,e1,e2⟩:=h1;exact ⟨i,s,e1,t e2 h2⟩
 exact ⟨⟨cv,pv,t hw (by simp),cvk hc (by decide),cvk hp (by decide)⟩,by rw[a0O hE];exact h.e,t h.b (by simp),by rw[a0O hD];exact h.d⟩
set_option maxRecDepth 10000
open Go.V
theorem b9w {cs:List AV} {i:Nat} {v:AV} (hi:i<cs.length) (hv:v.one=true) (e:cs.getD i .dead=v) {C:AV→Prop}:a0D cs i false 1 C .mk=C v:=by
 show (a0F cs i false 1∧C (a1f cs i false 1))=C v;unfold a0F a1f;rw[e];simp[hv];intro _;omega
set_option maxHeartbeats 1000000 in
theorem c9n {c:Cx} {q:WI} {H0:List VObj} {l0:List Sy} {en:List Int} {bl:List AV} {f:BF} (h:WC c q H0 l0 en bl) (hk:CxOk c) (hf:FnOk c f) (hl:l0.length≤200000) {kr sr kF sF:Nat} (hbl:bl.getD c.fn .dead = .ref kr sr 0 f.bks.length) (hbn:c.fn<bl.length) (hb1:∀ x ∈ bl,x.one=true)
 (hr:H0[kr]? = some ⟨sr,3,1,(a8e c l0.length f.bks 0).map I⟩) (hE:kr≠q.kE) (hD:kr≠q.kD) (hF:H0[kF]? = some ⟨sF,34,1,bfL f⟩) (nx0:Nat) (C:AV→List VObj→Nat→Prop)
 (hC:∀ r H' nx',WC c q H' (l0++a1n c 0 f.bks) en bl→H'[kr]? = some ⟨sr,3,1,(a8e c l0.length f.bks f.bks.length).map I⟩→KeepR kr H0 H'→C r H' nx') :
 VWs Tryz.prog (a2y 7 a0g) (a8D Tryz.prog [] C) ⟨[(0,.ptr q.kW q.sW 0),(1,I c.fn),(6,.ptr kF sF 0)],H0,nx0⟩:=by
 have hfb:=hf.fi.b1;have h20:=hk.fs;have hfl:=hk.fl;obtain ⟨hfe,hfi,hpl,hn,hins⟩:=hf;have hst:∀ j,j<f.bks.length→a1n c 0 (f.bks.take (j+1))=a1n c 0 (f.bks.take j)++c0t c (f.bks.getD j default) (j+1:Nat):=fun j hj=>by
  have e:f.bks.take (j+1)=f.bks.take j++[f.bks.getD j default]:=by rw[List.take_add_one];simp[List.getD,List.getElem?_eq_getElem hj]
  rw[e,b0s];simp[Nat.min_eq_left (Nat.le_of_lt hj)]
 have hbd:∀ j,(a1n c 0 (f.bks.take j)).length≤4000:=fun j=>by
  have:=b3o c (f.bks.take j) 0;have:=c2j f.bks j;omega
 simp only[a2y,a0g,go_sem,a0i,a0j,a0k,a0f,hF];refine ⟨_,Wk.refl _,?_⟩;show VW Tryz.prog (.block 2 _) _ _;simp only[go_sem];refine a0r (fun x:LQ=>⟨[(0,.ptr q.kW q.sW 0),(1,I c.fn),(6,.ptr kF sF 0),(99,b5e f.bks),(100,I f.bks.length),(101,I x.j)],x.H,x.nx⟩)
  (fun x=>x.j≤f.bks.length∧WC c q x.H (l0++a1n c 0 (f.bks.take x.j)) en bl∧x.H[kr]? = some ⟨sr,3,1,(a8e c l0.length f.bks x.j).map I⟩∧KeepR kr H0 x.H) (fun x=>f.bks.length-x.j) ⟨0,H0,nx0⟩
  (Wk.mk (by simp[a0a]) ⟨[],by simp⟩ (Nat.le_refl _)) ⟨Nat.zero_le _,by simpa [a1n] using h,hr,KeepR.refl _ _⟩ ?_
 rintro ⟨j,H,nx⟩ ⟨hj,hw0,hrow,hkeep⟩;simp only at hj hw0 hrow hkeep;have hrk:kr<H.length:=(List.getElem?_eq_some_iff.1 hrow).1;by_cases hlt:j<f.bks.length
 ·have hbm:f.bks.getD j default ∈ f.bks:=a0q hlt;obtain ⟨hi1,hi2,hi3⟩:=hins _ hbm;have hbl2:=hbd j;have hstj:=hst j hlt;have hblk:=b9v c (f.bks.getD j default) (j+1:Nat);have hcm:=b9q hbm;obtain ⟨cv,pv,hw,⟨k2,s2,rfl,hk2⟩,hp⟩:=hw0.w;have hbb:=hw0.b;have n1:=a2p hw;have n2:=a2p hbb;have n3:(H.length=kr)=False:=eq_false (by omega);have l1:=eq_true (show q.kW<H.length+1 by have:=(List.getElem?_eq_some_iff.1 hw).1;omega);have l2:=eq_true (show q.kB<H.length+1 by have:=(List.getElem?_eq_some_iff.1 hbb).1;omega);have l3:=eq_true (show kr<H.length+1 by omega);have n5:=a2p hk2;have n6:(kr=H.length)=False:=eq_false (by omega);have l4:=a1l hk2;have l5:(H.length<H.length+1)=True:=eq_true (by omega);have es:∀ x y:VObj,(H++[x]).set H.length y=H++[y]:=fun x y=>by simp
  have hset:((a8e c l0.length f.bks j).map I).set j (I ((l0.length+(a1n c 0 (f.bks.take j)).length:Nat):Int))=(a8e c l0.length f.bks (j+1)).map I:=by
   rw[← c3R c _ _ hlt,List.map_set]
  have o1:=a2L hrow hw (by simp);have o2:=a2L hrow hbb (by simp);have o3:=a2L hw hrow (by simp);have ecl:((l0++a1n c 0 (f.bks.take j)).map (·.1)).length=l0.length+(a1n c 0 (f.bks.take j)).length:=by simp
  have hcell:∀ {C:AV→Prop},a0D bl c.fn false 1 C .mk=C (.ref kr sr 0 f.bks.length):=fun {C}=>b9w hbn rfl hbl;have lB:=a1l hbb;have lW:=a1l hw;have lR:=eq_true hrk;generalize hg:f.bks.getD j default=g at *
  simp only[go_sem,eq_true (show (j:Int)<f.bks.length by omega),hg,hw,hbb,hp.one,hcell,hrow,lB,lW,lR,hk2,n1,n2,n3,n5,n6,l4,l5,es,l1,l2,l3,o1,o2,o3,List.getElem?_set,List.getElem?_append,List.length_set,List.length_append,Nat.lt_irrefl,Nat.sub_self,b5w]
  repeat ((with_reducible refine And.intro ?_ ?_);· first | omega | (simp;omega) | exact ⟨by omega,by omega,rfl,rfl⟩)
  rw[hset];have hY:(H++[(⟨nx,56,1,bkL g⟩:VObj)])[kr]? = some ⟨sr,3,1,(a8e c l0.length f.bks j).map I⟩:=a2r hrow _;have hWX:WC c q ((H++[(⟨nx,56,1,bkL g⟩:VObj)]).set kr ⟨sr,3,1,(a8e c l0.length f.bks (j+1)).map I⟩) (l0++a1n c 0 (f.bks.take j)) en bl:=(hw0.keep (KeepT.app _ _ _)).keepR hY hE hD;have hRX:((H++[(⟨nx,56,1,bkL g⟩:VObj)]).set kr ⟨sr,3,1,(a8e c l0.length f.bks (j+1)).map I⟩)[kr]? = some ⟨sr,3,1,(a8e c l0.length f.bks (j+1)).map I⟩:=a0N hY;have hBX:((H++[(⟨nx,56,1,bkL g⟩:VObj)]).set kr ⟨sr,3,1,(a8e c l0.length f.bks (j+1)).map I⟩)[H.length]? = some ⟨nx,56,1,bkL g⟩:=by rw[a0O (by omega)];simp
  have hKX:KeepR kr H ((H++[(⟨nx,56,1,bkL g⟩:VObj)]).set kr ⟨sr,3,1,(a8e c l0.length f.bks (j+1)).map I⟩):=(KeepR.of (KeepT.app _ _ _)).trans (KeepR.set _ _ _);generalize (H++[(⟨nx,56,1,bkL g⟩:VObj)]).set kr ⟨sr,3,1,(a8e c l0.length f.bks (j+1)).map I⟩=HX at *
  have him:∀ i,((g.ins.take i).flatMap (a2e c)).length≤4*g.ins.length:=fun i=>by
   have:=a5P (a2e c) 4 (b9u c) (g.ins.take i);have:(g.ins.take i).length≤g.ins.length:=by rw[List.length_take];exact Nat.min_le_right _ _
   omega
  have htk:∀ i,i<g.ins.length→(g.ins.take (i+1)).flatMap (a2e c)=(g.ins.take i).flatMap (a2e c)++a2e c (g.ins.getD i default):=fun i hi=>by
   have e:g.ins.take (i+1)=g.ins.take i++[g.ins.getD i default]:=by rw[List.take_add_one];simp[List.getD,List.getElem?_eq_getElem hi]
   rw[e];simp
  refine a0r (fun x:LQ=>⟨[(0,.ptr q.kW q.sW 0),(1,I c.fn),(6,.ptr kF sF 0),(10,I j),(11,.ptr H.length nx 0),(99,b5e f.bks),(100,I f.bks.length),(101,I j),(121,inA g.ins),(122,I g.ins.length),(123,I x.j)],x.H,x.nx⟩)
   (fun x=>x.j≤g.ins.length∧WC c q x.H (l0++a1n c 0 (f.bks.take j)++(g.ins.take x.j).flatMap (a2e c)) en bl∧KeepT wT HX x.H) (fun x=>g.ins.length-x.j) ⟨0,HX,nx+1⟩
   (Wk.mk (by simp[a0a]) ⟨[],by simp⟩ (Nat.le_refl _)) ⟨Nat.zero_le _,by simpa using hWX,KeepT.refl _ _⟩ ?_
  rintro ⟨i,H1,nx1⟩ ⟨hi,hw1,hk1⟩;simp only at hi hw1 hk1;have hB1:=hk1 _ _ hBX (by simp);by_cases hil:i<g.ins.length
  ·have htm:=hi1 _ (a0q hil);have hb3:=him i;have hti:=htk i hil;have l6:(H1.length<H1.length+1)=True:=eq_true (by omega);have es1:∀ x y:VObj,(H1++[x]).set H1.length y=H1++[y]:=fun x y=>by simp
   have hg1:WC c q (H1++[⟨nx1,95,1,a8s (g.ins.getD i default)⟩]) (l0++a1n c 0 (f.bks.take j)++(g.ins.take i).flatMap (a2e c)) en bl:=hw1.keep (KeepT.app _ _ _);generalize hgt:g.ins.getD i default=t at *
   simp only[go_sem,eq_true (show (i:Int)<g.ins.length by omega),l6,es1,hgt,List.getElem?_set,List.getElem?_append,List.length_set,List.length_append,Nat.lt_irrefl,Nat.sub_self]
   repeat ((with_reducible refine And.intro ?_ ?_);· first | omega | (simp;omega) | exact ⟨by omega,by omega,rfl,rfl⟩)
   refine b5v hg1 hk (by simp only[List.length_append];omega) _ htm _ fun x H2 nx2 h2 k2=>?_;simp only[go_sem];rw[a0e (n:=(i:Int)+1) (by omega) (by omega)];exact ⟨⟨i+1,H2,nx2⟩,⟨by simp only;omega,by simp only;rw[hti,← List.append_assoc];exact h2,(hk1.trans (KeepT.app _ _ _)).trans k2⟩,by simp only;omega,Wk.mk (by simp[a0a]) ⟨[],by simp⟩ (Nat.le_refl _)⟩
  ·obtain rfl:i=g.ins.length:=by omega
   rw[List.take_of_length_le (Nat.le_refl _)]at hw1;have hb3:=him g.ins.length;rw[List.take_of_length_le (Nat.le_refl _)]at hb3;simp only[go_sem,eq_false (show ¬ (g.ins.length:Int)<g.ins.length by omega),hB1];have wj:IntKind.i64.wrap ((j:Int)+1)=((j+1:Nat):Int):=by rw[a0e (by omega) (by omega)];omega
   rw[wj];refine c9m hw1 hk (by simp only[List.length_append];omega) _ _ (by omega) hi2 hi3 _ fun x H2 nx2 h2 k2=>?_;simp only[go_sem];rw[wj];refine ⟨⟨j+1,H2,nx2⟩,⟨by simp only;omega,?_,k2 _ _ (hk1 _ _ hRX (by simp)) (by simp),(hkeep.trans hKX).trans (KeepR.of (hk1.trans k2))⟩,by simp only;omega,Wk.mk (by simp[a0a]) ⟨[],by simp⟩ (Nat.le_refl _)⟩;simp only;rw[hstj];unfold c0t;simpa only [List.append_assoc] using h2
 ·obtain rfl:j=f.bks.length:=by omega
  rw[List.take_of_length_le (Nat.le_refl _)]at hw0;simp only[go_sem,eq_false (show ¬ (f.bks.length:Int)<f.bks.length by omega)];exact hC _ _ _ hw0 hrow hkeep
set_option maxRecDepth 10000
open Go.V
theorem c5Y (bs:ByteArray):∀ (n i:Nat) (r:List UInt8),bs.size-i=n→ByteArray.toList.loop bs i r=r.reverse++bs.data.toList.drop i:=by
 intro n
 induction n with
 | zero =>
  intro i r h;rw[ByteArray.toList.loop,if_neg (by omega),List.drop_eq_nil_of_le (by simp;omega)];simp
 | succ n ih =>
  intro i r h;have hi:i<bs.data.toList.length:=by simp;omega
  rw[ByteArray.toList.loop,if_pos (by omega),ih (i+1) _ (by omega),List.drop_eq_getElem_cons hi];have:bs.get! i=bs.data.toList[i]:=by
   have hi2:i<bs.data.size:=by simpa using hi
   rw[Array.getElem_toList hi2];simp only[ByteArray.get!];exact getElem!_pos bs.data i hi2
  rw[this];simp
theorem b3p (bs:ByteArray):bs.toList=bs.data.toList:=by
 rw[ByteArray.toList,c5Y bs bs.size 0 [] (by omega)];simp
def vOp (op:Int):Bool:=decide (1≤op) && decide (op≤27)
def hA (op:Int):Bool:=vOp op && !(decide (op=18) || decide (op=26))
def hB (op:Int):Bool:=decide (op=3) || (decide (4≤op) && decide (op≤17)) || decide (op=27)
def cK (op:Int):Int:=if 4≤op∧op≤15 then 2 else if op=1∨op=2∨(16≤op∧op≤21)∨op=25∨op=27 then 1 else 0
def b1M (v most:Int) (named:Bool):Bool:=if named then decide (0≤v) && decide (v≤most) else decide (v=0)
def okI (op a b c:Int):Bool:=vOp op && b1M a 15 (hA op) && b1M b 15 (hB op) && b1M c (if cK op=2 then 15 else 65535) (decide (cK op≠0))
abbrev shp (nm:ByteArray) (op:Int):AV:=.agg [a2W nm,B (hA op),B (hB op),I (cK op)]
abbrev c2X (op a b c:Int):AV:=.agg [I op,I a,I b,I c]
theorem b3q (v most:Int) (named:Bool):Contract Tryz.prog 85 [I v,I most,B named] (fun r=>r=B (b1M v most named)):=by
 refine Contract.of_call (VCall.of_body a1g b5a (by simp) ?_);cases named with
 | false =>
  simp only[go_sem,a3U];exact ⟨_,Frz.pure rfl,by simp[b1M];rfl⟩
 | true =>
  by_cases h:0≤v
  ·simp only[go_sem,a3U,eq_true h];exact ⟨_,Frz.pure rfl,by simp[b1M,h]⟩
  ·simp only[go_sem,a3U,eq_false h];exact ⟨_,Frz.pure rfl,by simp[b1M,h]⟩
theorem b7o (op:Int):Contract Tryz.prog 84 [I op] (fun r=>∃ nm:ByteArray,r=shp nm op∧(nm.toList == ByteArray.toList ⟨#[]⟩) = !(vOp op)):=by
 refine Contract.of_call (VCall.of_body a1g b3L (by simp) ?_);simp only[go_sem,a8o]
 iterate 27 (refine ⟨fun h=>by subst h;exact ⟨_,Frz.pure rfl,_,rfl,by simp only[b3p];rfl⟩,fun _=>?_⟩)
 have h1:vOp op=false:=by simp[vOp];omega
 have h2:hA op=false:=by simp[hA,h1]
 have h3:hB op=false:=by simp[hB];omega
 have h4:cK op=0:=by unfold cK;rw[if_neg (by omega),if_neg (by omega)]
 exact ⟨_,Frz.pure rfl,⟨#[]⟩,by rw[shp,h2,h3,h4],by rw[h1];simp⟩
theorem c5Z (op:Int):Contract Tryz.prog 83 [I op] (fun r=>r=B (vOp op)):=by
 refine Contract.of_call (VCall.of_body a1g b6I (by simp) ?_);simp only[go_sem,b1G];refine VCall.of_contract (b7o op) (SleL.pure rfl) fun x hx=>?_;obtain ⟨nm,rfl,hn⟩:=hx;simp only[go_sem,hn];exact ⟨_,Frz.pure rfl,by simp⟩
theorem c2k (op a b c:Int):Contract Tryz.prog 69 [c2X op a b c] (fun r=>r=B (okI op a b c)):=by
 refine Contract.of_call (VCall.of_body a1g b6G (by simp) ?_);simp only[go_sem,b1E];refine VCall.of_contract (c5Z op) (SleL.pure rfl) fun x hx=>?_;subst hx;cases hv:vOp op
 ·simp only[go_sem];exact ⟨_,Frz.pure rfl,by simp[okI,hv]⟩
 simp only[go_sem];refine VCall.of_contract (b7o op) (SleL.pure rfl) fun x hx=>?_;obtain ⟨nm,rfl,hn⟩:=hx;by_cases hk:cK op=2;have hk':=eq_true hk
 rotate_left
 have hk':=eq_false hk
 all_goals
  simp only[go_sem,hk'];refine VCall.of_contract (b3q a 15 (hA op)) (SleL.pure rfl) fun x hx=>?_;subst hx;cases h1:b1M a 15 (hA op)
  ·simp only[go_sem];exact ⟨_,Frz.pure rfl,by simp[okI,h1]⟩
  simp only[go_sem];refine VCall.of_contract (b3q b 15 (hB op)) (SleL.pure rfl) fun x hx=>?_;subst hx;cases h2:b1M b 15 (hB op)
  ·simp only[go_sem];exact ⟨_,Frz.pure rfl,by simp[okI,h2]⟩
  simp only[go_sem];refine VCall.of_contract (b3q c _ _) (SleL.pure rfl) fun x hx=>?_;subst hx;simp only[go_sem];refine ⟨_,Frz.pure rfl,?_⟩;have hn:(cK op != 0)=decide (cK op≠0):=by simp[bne];rfl
  simp[okI,h1,h2,hv,hk,hn]
set_option maxRecDepth 10000
open Go.V
theorem c7V (b:Bool):Contract Tryz.prog 99 [B b] (fun r=>r=U32 (if b then 1 else 0)):=by
 refine Contract.of_call (VCall.of_body a1g b3N (by simp) ?_);cases b<;>simp only[go_sem,a8q]<;>exact ⟨_,Frz.pure rfl,by simp⟩
section
variable {α:Type}
theorem c6a (H:List α) (o:α) (tl:List α):(H++o::tl)[H.length]? = some o:=by simp
theorem c3S (H:List α) (o t:α) (tl:List α):(H++o::t::tl)[H.length+1]? = some t:=by
 rw[List.getElem?_append_right (by omega)];simp
theorem c6b (H:List α) (o x:α) (tl:List α):(H++o::tl).set H.length x=H++x::tl:=by
 rw[List.set_append_right _ _ (by omega)];simp
end
theorem c4S (a:Int) (ha:a1b a) (H:List VObj) (nx:Nat) (C:AV→List VObj→Nat→Prop)
 (hC:∀ s nx' tl,nx≤s→s<nx'→C (.ref H.length s 0 32) (H++⟨s,3,1,(a3C a.toNat 32).map I⟩::tl) nx'):VCall Tryz.prog 104 [U32 a] H nx C:=by
 refine VCall.of_body a1g b3O (by simp) ?_;simp only[go_sem,a8r];have hmx:(2000000:Nat)≤maxLen:=by decide
 refine a0r (fun q:Nat × Nat × Nat=>⟨[(0,U32 ((a.toNat / 2 ^ q.1:Nat):Int)),(3,.ref H.length q.2.1 0 q.1),(4,I q.1)],H++[⟨q.2.1,3,1,(a3C a.toNat q.1).map I⟩],q.2.2⟩)
  (fun q=>q.1≤32∧nx≤q.2.1∧q.2.1<q.2.2) (fun q=>32-q.1) (0,nx,nx+1)
  (Wk.virt 3 1 (by decide) ?_ ⟨H,rfl,rfl,fun j ob' ho=>⟨ob',ho,rfl,rfl,rfl,rfl,fun _=>rfl,fun i x y hx hy=>.inl (by rw[hx]at hy;exact Option.some.inj hy)⟩⟩ rfl) ⟨by simp,Nat.le_refl _,by simp⟩ ?_
 ·have:=ha.1;simp[a0a];omega
 rintro ⟨k,s,n⟩ ⟨hk,hs,hsn⟩;simp only at hk hs hsn;by_cases h1:k<32
 case neg =>
  have h1':=eq_false (show ¬ (k:Int)<32 by omega);have:k=32:=by omega
  subst this;simp only[go_sem,h1'];exact hC s n [] hs hsn
 have h1':=eq_true (show (k:Int)<32 by omega);have hl:=a1q a.toNat k;have hsu:((a.toNat / 2 ^ (k+1):Nat):Int)=((a.toNat / 2 ^ k / 2:Nat):Int):=by rw[Nat.pow_succ,Nat.div_div_eq_div_mul]
 have hqa:a.toNat / 2 ^ k≤a.toNat:=Nat.div_le_self _ _;have hbs:=b4r a.toNat k;have ha2:=ha.2;have ha1:=ha.1;generalize a.toNat / 2 ^ k=q at hsu hqa hbs;have hw1:IntKind.i64.wrap ((q:Int).tmod 2)=((q % 2:Nat):Int):=by
  rw[Int.tmod_eq_emod_of_nonneg (by omega),a0e (by omega) (by omega)];omega
 have hw2:IntKind.u32.wrap ((q:Int).tdiv 2)=((q / 2:Nat):Int):=by
  rw[Int.tdiv_eq_ediv_of_nonneg (by omega),a1I ⟨by omega,by omega⟩];omega
 simp only[go_sem,h1',List.append_assoc,c6a,c3S,c6b,List.length_append,hw1,hw2]
 repeat (refine And.intro (by omega) ?_)
 rw[a0e (by omega) (by omega)];refine ⟨(k+1,n+1,n+1+1),⟨by simp only;omega,by simp only;omega,by simp only;omega⟩,by simp only;omega,Wk.mk (by simp only[hsu];simp[a0a]) ⟨[⟨n,3,1,[I ((q % 2:Nat):Int)]⟩],?_⟩ (Nat.le_refl _)⟩;rw[List.take_of_length_le (by simp[hl]),hbs,List.map_append];simp
theorem b8s:∀ (l:List Int),(∀ b ∈ l,b=0∨b=1)→b7X l<2 ^ l.length
 | [],_=>by simp[b7X]
 | b::l,h=>by
  have:=b8s l fun c hc=>h c (by simp[hc]);have:=h b (by simp);simp only[b7X,List.length_cons,Nat.pow_succ];omega
theorem c9o (l:List Int) (hl:l.length≤32) (hb:∀ b ∈ l,b=0∨b=1):ContractN Tryz.prog 105 [a2t l] (fun r=>r=U32 ((b7X l:Nat):Int)):=by
 refine ContractN.of_call (VCall.of_body a1g b6J (by simp) ?_);simp only[go_sem,b1H];rw[a0e (by omega) (by omega)];refine a0r (fun j:Nat=>⟨[(0,a2t l),(3,.val (.int .u64 (b7X (l.drop j):Nat))),(4,I ((j:Int)-1))],[],0⟩) (fun j=>j≤l.length) (fun j=>j) l.length
  (Wk.mk (by simp[a0a,b7X]) ⟨[],rfl⟩ (Nat.le_refl _)) (Nat.le_refl _) ?_
 intro j hj;have hlt:=b8s (l.drop j) fun b hx=>hb b (List.mem_of_mem_drop hx);have hp:2 ^ (l.drop j).length≤2 ^ 32:=Nat.pow_le_pow_right (by omega) (by simp;omega);by_cases h1:j=0
 ·subst h1;simp only[go_sem];rw[List.drop_zero]at hlt hp;refine ⟨fun h=>by omega,fun _=>?_⟩;have hm:IntKind.u32.wrap (((b7X l:Nat):Int).tmod 4294967296)=((b7X l:Nat):Int):=by
   rw[Int.tmod_eq_emod_of_nonneg (by omega),IntKind.wrap_u32];omega
  rw[hm];exact ⟨by omega,_,FrzN.val,rfl⟩
 ·have h1':=eq_true (show (0:Int)≤(j:Int)-1 by omega);have e1:((j:Int)-1).toNat=j-1:=by omega
  obtain ⟨i,rfl⟩:∃ i,j=i+1:=⟨j-1,by omega⟩
  have hi:i<l.length:=by omega
  have hd:=List.drop_eq_getElem_cons hi;have hbit:=hb l[i] (List.getElem_mem hi);have eg:l.getD i default=l[i]:=by simp[List.getD,List.getElem?_eq_getElem hi]
  have hlt2:=b8s (l.drop (i+1)) fun b hx=>hb b (List.mem_of_mem_drop hx);simp only[go_sem,h1',e1,Nat.add_sub_cancel,eg]
  repeat (refine And.intro (by omega) ?_)
  have hw:IntKind.u64.wrap (IntKind.u64.wrap (2*((b7X (l.drop (i+1)):Nat):Int))+IntKind.u64.wrap l[i])=((b7X (l.drop i):Nat):Int):=by
   rw[hd,b7X];simp only[IntKind.wrap_u64];omega
  rw[hw,a0e (by omega) (by omega)];exact ⟨i,by omega,by omega,Wk.mk (by simp[a0a]<;>omega) ⟨[],rfl⟩ (Nat.le_refl _)⟩
def shN (op a:Int) (k:Nat):Int:=if op=12 then ((a.toNat*2 ^ k % 4294967296:Nat):Int) else ((a.toNat / 2 ^ k:Nat):Int)
theorem b4B (op a b:Int) (ha:a1b a) (hb:a1b b):Contract Tryz.prog 98 [I op,U32 a,U32 b] (fun r=>r=U32 (if 31<b then 0 else shN op a b.toNat)):=by
 refine Contract.of_call (VCall.of_body a1g b2W (by simp) ?_);obtain ⟨ha1,ha2⟩:=ha;obtain ⟨hb1,hb2⟩:=hb;by_cases h0:32≤b
 ·simp only[go_sem,a4l,eq_true h0];exact ⟨_,Frz.pure rfl,by rw[if_pos (by omega)]⟩
 simp only[go_sem,a4l,eq_false h0];have hshl:∀ k,shN op a k≤4294967295∧0≤shN op a k:=fun k=>by
  unfold shN;split
  ·omega
  ·have:=Nat.div_le_self a.toNat (2 ^ k);generalize a.toNat / 2 ^ k=q at *
   omega
 have hs:∀ k,shN op a (k+1)=if op=12 then (2*shN op a k) % 4294967296 else shN op a k / 2:=fun k=>by
  unfold shN;by_cases e:op=12
  ·simp only[if_pos e];rw[Nat.pow_succ,← Nat.mul_assoc];generalize a.toNat*2 ^ k=q;omega
  ·simp only[if_neg e];rw[Nat.pow_succ,← Nat.div_div_eq_div_mul];generalize a.toNat / 2 ^ k=q;omega
 have hz:shN op a 0=a:=by unfold shN;split<;>simp<;>omega
 refine a0r (fun k:Nat=>⟨[(0,I op),(2,U32 b),(7,.val (.int .u64 (shN op a k))),(8,U32 k)],[],0⟩) (fun k=>k≤b.toNat) (fun k=>b.toNat-k) 0
  (Wk.mk ?_ ⟨[],rfl⟩ (Nat.le_refl _)) (by omega) ?_
 ·have:IntKind.u64.wrap a=a:=by rw[IntKind.wrap_u64];omega
  simp[a0a,hz,this]
 intro k hk;have hk1:=hshl k;by_cases h1:k<b.toNat
 case neg =>
  have h1':=eq_false (show ¬ (k:Int)<b by omega);simp only[go_sem,h1'];have:k=b.toNat:=by omega
  subst this;rw[a1I ⟨hk1.2,by omega⟩];exact ⟨_,Frz.pure rfl,by rw[if_neg (by omega)]⟩
 have h1':=eq_true (show (k:Int)<b by omega);by_cases e:op=12
 case pos =>
  simp only[go_sem,h1',eq_true e];have hw:(IntKind.u64.wrap (2*shN op a k)).tmod 4294967296=shN op a (k+1):=by
   rw[hs,if_pos e,IntKind.wrap_u64,Int.tmod_eq_emod_of_nonneg (by omega)];omega
  refine ⟨by omega,?_⟩;rw[hw,a1I ⟨by omega,by omega⟩];exact ⟨k+1,by omega,by omega,Wk.mk (by simp[a0a,e]) ⟨[],rfl⟩ (Nat.le_refl _)⟩
 case neg =>
  simp only[go_sem,h1',eq_false e];have hw:IntKind.u64.wrap ((shN op a k).tdiv 2)=shN op a (k+1):=by
   rw[hs,if_neg e,Int.tdiv_eq_ediv_of_nonneg (by omega),IntKind.wrap_u64];omega
  refine ⟨by omega,?_⟩;rw[hw,a1I ⟨by omega,by omega⟩];exact ⟨k+1,by omega,by omega,Wk.mk (by simp[a0a]) ⟨[],rfl⟩ (Nat.le_refl _)⟩
def zL (x a k:Nat):List Int:=a3C x k++(a3C a 32).drop k
theorem c2l {x a k:Nat} (h:k≤32):(zL x a k).length=32:=by simp[zL,a1q];omega
theorem c7W {x a k:Nat} (h:k<32):(zL x a k).getD k default=((a / 2 ^ k % 2:Nat):Int):=by
 have:(zL x a k).getD k default=(a3C a 32).getD k default:=by
  unfold zL;simp only[List.getD];rw[List.getElem?_append_right (by rw[a1q];exact Nat.le_refl _),a1q,Nat.sub_self,List.getElem?_drop,Nat.add_zero]
 rw[this,b6K h]
theorem c7X {x a k:Nat} (h:k<32):(zL x a k).set k ((x / 2 ^ k % 2:Nat):Int)=zL x a (k+1):=by
 have hk:k<(a3C a 32).length:=by rw[a1q];exact h
 unfold zL;rw[b4r x k];generalize a3C a 32=l at hk;rw[List.set_append_right _ _ (by rw[a1q];exact Nat.le_refl _),a1q,Nat.sub_self,List.drop_eq_getElem_cons hk,List.set_cons_zero,List.append_assoc];rfl
theorem c6c (op a b:Int) (ho:op=9∨op=10∨op=11) (ha:a1b a) (hb:a1b b):Contract Tryz.prog 97 [I op,U32 a,U32 b] (fun r=>r=U32 (a0R op a b).1):=by
 refine Contract.of_call (VCall.of_body a1g b3M (by simp) ?_);simp only[go_sem,a8p];refine c4S a ha _ _ _ fun s1 nx1 tl1 hs1 hn1=>?_;simp only[go_sem];refine c4S b hb _ _ _ fun s2 nx2 tl2 hs2 hn2=>?_;simp only[go_sem];obtain ⟨_,hin,hbit⟩:=b6M ha hb ho;obtain ⟨x,hx⟩:∃ x,(a0R op a b).1.toNat=x:=⟨_,rfl⟩
 rw[hx]at hbit;have hx2:(a0R op a b).1=(x:Int):=by have:=hin.1;omega
 rw[hx2];refine a0r (fun k:Nat=>⟨[(0,I op),(7,.ref 0 s1 0 32),(8,a2t (a3C b.toNat 32)),(9,I k)],[⟨s1,3,1,(zL x a.toNat k).map I⟩],nx2⟩) (fun k=>k≤32) (fun k=>32-k) 0
  (Wk.give ?_ ?_ (Nat.le_refl _)) (by omega) ?_
 ·intro p hp;simp only[List.mem_cons,List.not_mem_nil,or_false]at hp;rcases hp with rfl | rfl | rfl | rfl
  ·exact .inl rfl
  ·exact .inl rfl
  ·exact .inr (a3R (ty:=3) (by simp) (by simp) (a1q _ _).symm)
  ·exact .inl rfl
 ·refine ⟨rfl,rfl,rfl,by simp,?_,by simp[OW]⟩;simp only[zL,List.drop_zero];exact CW.refl _
 intro k hk;have hzl:=c2l (x:=x) (a:=a.toNat) hk;have hbl:=a1q b.toNat 32;by_cases h1:k<32
 case neg =>
  have h1':=eq_false (show ¬ (k:Int)<32 by omega);have:k=32:=by omega
  subst this;simp only[go_sem,h1'];have ez:zL x a.toNat 32=a3C x 32:=by simp[zL,a1q]
  rw[ez]at hzl ⊢;refine VCall.of_contractN (c9o (a3C x 32) (by omega) fun b hb=>?_) ?_ fun r hr=>?_
  ·obtain ⟨i,_,rfl⟩:=List.mem_map.1 hb;have:=Nat.mod_two_eq_zero_or_one (x / 2 ^ i);omega
  ·exact ⟨_,_,rfl,a3R (by omega) rfl hzl.symm,rfl⟩
  ·subst hr;simp only[go_sem];refine ⟨_,Frz.pure rfl,?_⟩;have:=hin.2;rw[b6L,Nat.mod_eq_of_lt (by omega)]
 have h1':=eq_true (show (k:Int)<32 by omega);have g1:=c7W (x:=x) (a:=a.toNat) h1;have g2:=b6K (x:=b.toNat) h1;have hset:=c7X (x:=x) (a:=a.toNat) h1;have hb1:=hbit k;have hxb:=Nat.mod_two_eq_zero_or_one (a.toNat / 2 ^ k);have hyb:=Nat.mod_two_eq_zero_or_one (b.toNat / 2 ^ k);generalize a.toNat / 2 ^ k % 2=u at *
 generalize b.toNat / 2 ^ k % 2=v at *
 have hw:IntKind.i64.wrap ((u:Int)+(v:Int))=((u+v:Nat):Int):=by rw[a0e (by omega) (by omega)];omega
 by_cases hc:(u+v=2∧op≠11)∨(u+v=1∧op≠9)
 case pos =>
  rw[if_pos hc]at hb1;rw[hb1]at hset;have fin:∀ e,(∀ p ∈ [(0,I op),(7,AV.ref 0 s1 0 32),(8,a2t (a3C b.toNat 32)),(9,I ((k+1:Nat):Int))],get e p.1=p.2)→∃ q:Nat,q≤32∧32-q<32-k∧Wk ⟨e,[⟨s1,3,1,(((zL x a.toNat k).set k 0).set k 1).map I⟩],nx2⟩ ⟨[(0,I op),(7,.ref 0 s1 0 32),(8,a2t (a3C b.toNat 32)),(9,I q)],[⟨s1,3,1,(zL x a.toNat q).map I⟩],nx2⟩:=fun e he =>
   ⟨k+1,by omega,by omega,Wk.mk he ⟨[],by rw[List.set_set,show (1:Int)=((1:Nat):Int) from rfl,hset];simp⟩ (Nat.le_refl _)⟩
  rcases hc with ⟨hc1,hc2⟩ | ⟨hc1,hc2⟩
  ·have q1:=eq_true (show (((u+v:Nat):Int))=2 by omega);have q2:(op != 11)=true:=by simp[hc2]
   simp only[go_sem,undef,h1',Int.toNat_natCast,g1,g2,hw,q1,q2,a0I,hzl,List.length_set,hbl]
   repeat (refine And.intro (by omega) ?_)
   rw[a0e (by omega) (by omega)];exact fin _ (by simp[a0a])
  ·have q1:=eq_false (show ¬ (((u+v:Nat):Int))=2 by omega);have q3:=eq_true (show (((u+v:Nat):Int))=1 by omega);have q2:(op != 9)=true:=by simp[hc2]
   simp only[go_sem,undef,h1',Int.toNat_natCast,g1,g2,hw,q1,q2,q3,a0I,hzl,List.length_set,hbl]
   repeat (refine And.intro (by omega) ?_)
   rw[a0e (by omega) (by omega)];exact fin _ (by simp[a0a])
 case neg =>
  rw[if_neg hc]at hb1;rw[hb1]at hset;have fin:∀ e,(∀ p ∈ [(0,I op),(7,AV.ref 0 s1 0 32),(8,a2t (a3C b.toNat 32)),(9,I ((k+1:Nat):Int))],get e p.1=p.2)→∃ q:Nat,q≤32∧32-q<32-k∧Wk ⟨e,[⟨s1,3,1,((zL x a.toNat k).set k 0).map I⟩],nx2⟩ ⟨[(0,I op),(7,.ref 0 s1 0 32),(8,a2t (a3C b.toNat 32)),(9,I q)],[⟨s1,3,1,(zL x a.toNat q).map I⟩],nx2⟩:=fun e he =>
   ⟨k+1,by omega,by omega,Wk.mk he ⟨[],by rw[show (0:Int)=((0:Nat):Int) from rfl,hset];simp⟩ (Nat.le_refl _)⟩
  have hsum:u+v=0∨(u+v=1∧op=9)∨(u+v=2∧op=11):=by omega
  rcases hsum with hc1 | ⟨hc1,hc2⟩ | ⟨hc1,hc2⟩
  ·have q1:=eq_false (show ¬ (((u+v:Nat):Int))=2 by omega);have q3:=eq_false (show ¬ (((u+v:Nat):Int))=1 by omega);simp only[go_sem,undef,h1',Int.toNat_natCast,g1,g2,hw,q1,q3,a0I,hzl,List.length_set,hbl]
   repeat (refine And.intro (by omega) ?_)
   rw[a0e (by omega) (by omega)];exact fin _ (by simp[a0a])
  ·have q1:=eq_false (show ¬ (((u+v:Nat):Int))=2 by omega);have q3:=eq_true (show (((u+v:Nat):Int))=1 by omega);have q2:(op != 9)=false:=by simp[hc2]
   simp only[go_sem,undef,h1',Int.toNat_natCast,g1,g2,hw,q1,q2,q3,a0I,hzl,List.length_set,hbl]
   repeat (refine And.intro (by omega) ?_)
   rw[a0e (by omega) (by omega)];exact fin _ (by simp[a0a])
  ·have q1:=eq_true (show (((u+v:Nat):Int))=2 by omega);have q3:=eq_false (show ¬ (((u+v:Nat):Int))=1 by omega);have q2:(op != 11)=false:=by simp[hc2]
   simp only[go_sem,undef,h1',Int.toNat_natCast,g1,g2,hw,q1,q2,q3,a0I,hzl,List.length_set,hbl]
   repeat (refine And.intro (by omega) ?_)
   rw[a0e (by omega) (by omega)];exact fin _ (by simp[a0a])
set_option maxRecDepth 10000
open Go.V
theorem c0v (op a b:Int) (ha:a1b a) (hb:a1b b):Contract Tryz.prog 92 [I op,U32 a,U32 b] (fun r=>r=b7B (a0R op a b)):=by
 refine Contract.of_call (VCall.of_body a1g b2U (by simp) ?_);have ha':=ha;have hb':=hb;obtain ⟨ha1,ha2⟩:=ha;obtain ⟨hb1,hb2⟩:=hb;have ea:IntKind.u64.wrap a=a:=by rw[IntKind.wrap_u64];omega
 have eb:IntKind.u64.wrap b=b:=by rw[IntKind.wrap_u64];omega
 have hop:op=4∨op=5∨op=6∨op=7∨op=8∨op=9∨op=10∨op=11∨op=12∨op=13∨op=14∨op=15∨(op≠4∧op≠5∧op≠6∧op≠7∧op≠8∧op≠9∧op≠10∧op≠11∧op≠12∧op≠13∧op≠14∧op≠15):=by omega
 rcases hop with rfl | rfl | rfl | rfl | rfl | rfl | rfl | rfl | rfl | rfl | rfl | rfl | ⟨h1,h2,h3,h4,h5,h6,h7,h8,h9,h10,h11,h12⟩
 ·simp only[go_sem,a0Q,Int.reduceEq,Int.reduceBEq,ea,eb];have e:IntKind.u32.wrap ((IntKind.u64.wrap (a+b)).tmod 4294967296)=w32 (a+b):=by
   rw[IntKind.wrap_u64,Int.tmod_eq_emod_of_nonneg (by omega),IntKind.wrap_u32,w32,IntKind.wrap_u32];omega
  exact ⟨_,Frz.pure rfl,by rw[e];rfl⟩
 ·simp only[go_sem,a0Q,Int.reduceEq,Int.reduceBEq,ea,eb];have e:IntKind.u32.wrap ((IntKind.u64.wrap (IntKind.u64.wrap (a+4294967296)-b)).tmod 4294967296)=w32 (a-b):=by
   rw[IntKind.wrap_u64,IntKind.wrap_u64,Int.tmod_eq_emod_of_nonneg (by omega),IntKind.wrap_u32,w32,IntKind.wrap_u32];omega
  exact ⟨_,Frz.pure rfl,by rw[e];rfl⟩
 ·simp only[go_sem,a0Q,Int.reduceEq,Int.reduceBEq,ea,eb];have hp:=Int.mul_nonneg ha1 hb1;have e:∀ p:Int,0≤p→IntKind.u32.wrap ((IntKind.u64.wrap p).tmod 4294967296)=w32 p:=fun p hp=>by
   rw[IntKind.wrap_u64,Int.tmod_eq_emod_of_nonneg (by omega),IntKind.wrap_u32,w32,IntKind.wrap_u32];omega
  exact ⟨_,Frz.pure rfl,by rw[e _ hp];rfl⟩
 ·simp only[go_sem,a0Q,Int.reduceEq,Int.reduceBEq,ea,eb];refine ⟨fun h0=>⟨_,Frz.pure rfl,?_⟩,fun h0=>⟨h0,_,Frz.pure rfl,?_⟩⟩
  ·show _=b7B (if b=0 then (0,14) else _);rw[if_pos h0]
  ·show _=b7B (if b=0 then (0,14) else (IntKind.u32.wrap (a.tdiv b),0));rw[if_neg h0,Int.tdiv_eq_ediv_of_nonneg ha1];have h1:0≤a / b:=Int.ediv_nonneg ha1 hb1;have h2:a / b≤a:=Int.ediv_le_self _ ha1;rw[IntKind.wrap_u64,show (a / b) % 18446744073709551616=a / b by omega]
 ·simp only[go_sem,a0Q,Int.reduceEq,Int.reduceBEq,ea,eb];refine ⟨fun h0=>⟨_,Frz.pure rfl,?_⟩,fun h0=>⟨h0,_,Frz.pure rfl,?_⟩⟩
  ·show _=b7B (if b=0 then (0,14) else _);rw[if_pos h0]
  ·show _=b7B (if b=0 then (0,14) else (a.tmod b,0));rw[if_neg h0,Int.tmod_eq_emod_of_nonneg ha1];have h1:0≤a % b:=Int.emod_nonneg _ h0;have h2:a % b<b:=Int.emod_lt_of_pos _ (by omega);rw[a1I ⟨h1,by omega⟩]
 iterate 3
  ·simp only[go_sem,a0Q,Int.reduceEq,Int.reduceBEq,ea,eb];refine VCall.of_contract (c6c _ a b (by simp) ha' hb') (SleL.pure rfl) fun x hx=>?_;subst hx;simp only[go_sem];refine ⟨_,Frz.pure rfl,?_⟩;have:=(b6M (op:=_) ha' hb' (by first | exact .inl rfl | exact .inr (.inl rfl) | exact .inr (.inr rfl))).1;rfl
 ·simp only[go_sem,a0Q,Int.reduceEq,Int.reduceBEq,ea,eb];refine VCall.of_contract (b4B _ a b ha' hb') (SleL.pure rfl) fun x hx=>?_;subst hx;simp only[go_sem];have e:(if 31<b then 0 else shN 12 a b.toNat)=if 31<b then 0 else c7o a b:=by
   by_cases h:31<b
   ·rw[if_pos h,if_pos h]
   ·rw[if_neg h,if_neg h];unfold c7o shN;rw[if_pos rfl,show min b.toNat IntKind.u32.bits=b.toNat from Nat.min_eq_left (by show b.toNat≤32;omega),w32,IntKind.wrap_u32]
    conv=>rhs;rw[show a=((a.toNat:Nat):Int) by omega]
    simp
  exact ⟨_,Frz.pure rfl,by rw[e];rfl⟩
 ·simp only[go_sem,a0Q,Int.reduceEq,Int.reduceBEq,ea,eb];refine VCall.of_contract (b4B _ a b ha' hb') (SleL.pure rfl) fun x hx=>?_;subst hx;simp only[go_sem];have e:(if 31<b then 0 else shN 13 a b.toNat)=if 31<b then 0 else c4I a b:=by
   by_cases h:31<b
   ·rw[if_pos h,if_pos h]
   ·rw[if_neg h,if_neg h];unfold shN;rw[if_neg (by decide)];have:=b7Y ha' b.toNat (by omega);rw[show ((b.toNat:Nat):Int)=b by omega]at this;rw[this]
  exact ⟨_,Frz.pure rfl,by rw[e];rfl⟩
 iterate 2
  ·simp only[go_sem,a0Q,Int.reduceEq,Int.reduceBEq,ea,eb];refine VCall.of_contract (c7V _) (SleL.pure rfl) fun x hx=>?_;subst hx;simp only[go_sem];exact ⟨_,Frz.pure rfl,by simp[a0R,b7B]⟩
 ·simp only[go_sem,a0Q,eq_false h1,eq_false h2,eq_false h3,eq_false h4,eq_false h5,eq_false h6,eq_false h7,eq_false h8,eq_false h9,eq_false h10,eq_false h11,eq_false h12];exact ⟨_,Frz.pure rfl,by simp[a0R,b7B,h1,h2,h3,h4,h5,h6,h7,h8,h9,h10,h11,h12]⟩
set_option maxRecDepth 10000
open Go.V
abbrev Y8M (n:Int):AV:=.val (.int .u8 n)
def c2m (s:ByteArray) (c:Int):Bool:=s.data.toList.any fun b=>((b.toNat:Nat):Int) == c
theorem b7p (s:ByteArray) (c:Int) {k:Nat} (h:k<s.size):(s.data.toList.drop k).any (fun b=>((b.toNat:Nat):Int) == c)=((a1v s k == c) || (s.data.toList.drop (k+1)).any fun b=>((b.toNat:Nat):Int) == c):=by
 have hk:k<s.data.toList.length:=by simpa using h
 rw[List.drop_eq_getElem_cons hk,List.any_cons];congr 1;simp only[a1v,List.getD,List.getElem?_eq_getElem hk,Option.getD_some]
theorem c2n (s:ByteArray) (c:Int) (hs:s.size≤1000):Contract Tryz.prog 102 [a2W s,Y8M c] (fun r=>r=B (c2m s c)):=by
 refine Contract.of_call (VCall.of_body a1g b5c (by simp) ?_);simp only[go_sem,a9w];refine a0r (fun k:Nat=>⟨[(0,a2W s),(1,Y8M c),(5,I k)],[],0⟩) (fun k=>k≤s.size∧c2m s c=(s.data.toList.drop k).any fun b=>((b.toNat:Nat):Int) == c) (fun k=>s.size-k) 0
  (Wk.mk (by simp[a0a]) ⟨[],rfl⟩ (Nat.le_refl _)) ⟨by omega,rfl⟩ ?_
 rintro k ⟨hk,he⟩;simp only[go_sem];refine ⟨fun h=>⟨by omega,fun h2=>?_,fun h2=>?_⟩,fun h=>?_⟩
 ·refine ⟨_,Frz.pure rfl,?_⟩;rw[he,b7p s c (by omega)];simp[h2]
 ·rw[a0e (by omega) (by omega)];refine ⟨k+1,⟨by omega,?_⟩,by omega,Wk.mk (by simp[a0a]) ⟨[],rfl⟩ (Nat.le_refl _)⟩;rw[he,b7p s c (by omega)];simp[h2]
 ·refine ⟨_,Frz.pure rfl,?_⟩;rw[he,List.drop_eq_nil_of_le (by simp;omega)];rfl
def PS (op:Int):ByteArray :=
 if op=1∨op=2∨op=19∨op=20∨op=21∨op=25 then ⟨#[97,99]⟩ else if op=3 then ⟨#[97,98]⟩ else if op=16∨op=17∨op=27 then ⟨#[97,98,99]⟩
 else if op=18 then ⟨#[99]⟩ else if op=22∨op=23∨op=24 then ⟨#[97]⟩ else if op=26 then ⟨#[]⟩ else if 4≤op∧op≤15 then ⟨#[97,98,114]⟩ else ⟨#[63]⟩
theorem c6d (op:Int):(PS op).size≤3:=by
 unfold PS
 repeat' split
 all_goals decide
theorem c6e (op:Int):Contract Tryz.prog 101 [I op] (fun r=>r=a2W (PS op)):=by
 refine Contract.of_call (VCall.of_body a1g b2X (by simp) ?_);by_cases hv:1≤op∧op≤27
 ·have hop:op=1∨op=2∨op=3∨op=4∨op=5∨op=6∨op=7∨op=8∨op=9∨op=10∨op=11∨op=12∨op=13∨op=14∨op=15∨op=16∨op=17∨op=18∨op=19∨op=20∨op=21∨op=22∨op=23∨op=24∨op=25∨op=26∨op=27:=by omega
  rcases hop with rfl | rfl | rfl | rfl | rfl | rfl | rfl | rfl | rfl | rfl | rfl | rfl | rfl | rfl | rfl | rfl | rfl | rfl | rfl | rfl | rfl | rfl | rfl | rfl | rfl | rfl | rfl
  all_goals
   simp only[go_sem,a2S,Int.reduceEq,Int.reduceBEq];exact ⟨_,Frz.pure rfl,rfl⟩
 ·have n:∀ k:Int,1≤k→k≤27→(op=k)=False:=fun k h1 h2=>eq_false (by omega);have n1:=n 1 (by omega) (by omega);have n2:=n 2 (by omega) (by omega);have n3:=n 3 (by omega) (by omega);have n16:=n 16 (by omega) (by omega);have n17:=n 17 (by omega) (by omega);have n18:=n 18 (by omega) (by omega);have n19:=n 19 (by omega) (by omega);have n20:=n 20 (by omega) (by omega);have n21:=n 21 (by omega) (by omega);have n22:=n 22 (by omega) (by omega);have n23:=n 23 (by omega) (by omega);have n24:=n 24 (by omega) (by omega);have n25:=n 25 (by omega) (by omega);have n26:=n 26 (by omega) (by omega);have n27:=n 27 (by omega) (by omega);have e:PS op=⟨#[63]⟩:=by
   unfold PS;rw[if_neg (by omega),if_neg (by omega),if_neg (by omega),if_neg (by omega),if_neg (by omega),if_neg (by omega),if_neg (by omega)]
  rw[e];by_cases h4:4≤op
  ·simp only[go_sem,a2S,n1,n2,n3,n16,n17,n18,n19,n20,n21,n22,n23,n24,n25,n26,n27,eq_true h4,eq_false (show ¬ op≤15 by omega)];exact ⟨_,Frz.pure rfl,rfl⟩
  ·simp only[go_sem,a2S,n1,n2,n3,n16,n17,n18,n19,n20,n21,n22,n23,n24,n25,n26,n27,eq_false h4];exact ⟨_,Frz.pure rfl,rfl⟩
theorem a8V (v most:Int) (named:Bool):Contract Tryz.prog 103 [B named,I v,I most] (fun r=>r=B (b1M v most named)):=by
 refine Contract.of_call (VCall.of_body a1g b1X (by simp) ?_);cases named with
 | false =>
  simp only[go_sem,a2s];exact ⟨_,Frz.pure rfl,by simp[b1M];rfl⟩
 | true =>
  by_cases h:0≤v
  ·simp only[go_sem,a2s,eq_true h];exact ⟨_,Frz.pure rfl,by simp[b1M,h]⟩
  ·simp only[go_sem,a2s,eq_false h];exact ⟨_,Frz.pure rfl,by simp[b1M,h]⟩
def b9x (op a b c:Int):Bool:=!((PS op).toList == ByteArray.toList ⟨#[63]⟩) && b1M a 15 (c2m (PS op) 97) && b1M b 15 (c2m (PS op) 98) && b1M c (if c2m (PS op) 114 then 15 else 65535) (c2m (PS op) 99 || c2m (PS op) 114)
theorem c2o (op a b c:Int):b9x op a b c=okI op a b c:=by
 by_cases hv:1≤op∧op≤27
 ·have hop:op=1∨op=2∨op=3∨op=4∨op=5∨op=6∨op=7∨op=8∨op=9∨op=10∨op=11∨op=12∨op=13∨op=14∨op=15∨op=16∨op=17∨op=18∨op=19∨op=20∨op=21∨op=22∨op=23∨op=24∨op=25∨op=26∨op=27:=by omega
  unfold b9x;rw[b3p,b3p];rcases hop with rfl | rfl | rfl | rfl | rfl | rfl | rfl | rfl | rfl | rfl | rfl | rfl | rfl | rfl | rfl | rfl | rfl | rfl | rfl | rfl | rfl | rfl | rfl | rfl | rfl | rfl | rfl
  all_goals rfl
 ·have e:PS op=⟨#[63]⟩:=by
   unfold PS;rw[if_neg (by omega),if_neg (by omega),if_neg (by omega),if_neg (by omega),if_neg (by omega),if_neg (by omega),if_neg (by omega)]
  have h1:vOp op=false:=by simp[vOp];omega
  unfold b9x okI;rw[e,h1];simp
set_option maxRecDepth 10000
open Go.V
theorem c0w (op a b c:Int):Contract Tryz.prog 96 [c2X op a b c] (fun r=>r=B (okI op a b c)):=by
 refine Contract.of_call (VCall.of_body a1g b2V (by simp) ?_);have hps:(PS op).size≤1000:=by have:=c6d op;omega
 rw[← c2o];unfold b9x;simp only[go_sem,a7B];refine VCall.of_contract (c6e op) (SleL.pure rfl) fun x hx=>?_;subst hx;generalize PS op=p at *
 simp only[go_sem];refine VCall.of_contract (c2n p 114 hps) (SleL.pure rfl) fun x hx=>?_;subst hx;cases h1:c2m p 114
 all_goals
  cases h2:(p.toList == ByteArray.toList ⟨#[63]⟩)
  rotate_left
  ·simp only[go_sem,h2];exact ⟨_,Frz.pure rfl,by simp⟩
  simp only[go_sem,h2];refine ECall.of (c2n p 97 hps) (SleL.pure rfl) ⟨_,fun _=>Iff.rfl⟩ fun x hx=>?_;subst hx;simp only[go_sem];refine ECall.of (a8V a 15 _) (SleL.pure rfl) ⟨_,fun _=>Iff.rfl⟩ fun x hx=>?_;subst hx;cases h3:b1M a 15 (c2m p 97)
  ·simp only[go_sem];exact ⟨_,Frz.pure rfl,by simp⟩
  simp only[go_sem];refine ECall.of (c2n p 98 hps) (SleL.pure rfl) ⟨_,fun _=>Iff.rfl⟩ fun x hx=>?_;subst hx;simp only[go_sem];refine ECall.of (a8V b 15 _) (SleL.pure rfl) ⟨_,fun _=>Iff.rfl⟩ fun x hx=>?_;subst hx;cases h4:b1M b 15 (c2m p 98)
  ·simp only[go_sem];exact ⟨_,Frz.pure rfl,by simp⟩
  simp only[go_sem];refine ECall.of (c2n p 99 hps) (SleL.pure rfl) ⟨_,fun _=>Iff.rfl⟩ fun x hx=>?_;subst hx;cases h5:c2m p 99
  all_goals
   simp only[go_sem]
   try
    refine ECall.of (c2n p 114 hps) (SleL.pure rfl) ⟨_,fun _=>Iff.rfl⟩ fun x hx=>?_;subst hx;simp only[go_sem,h1]
   refine ECall.of (a8V c _ _) (SleL.pure rfl) ⟨_,fun _=>Iff.rfl⟩ fun x hx=>?_;subst hx;simp only[go_sem];exact ⟨_,Frz.pure rfl,by simp⟩
set_option maxRecDepth 10000
open Go.V
def opW (w:Int):Int:=w / 16777216
def raW (w:Int):Int:=w / 1048576 % 16
def rbW (w:Int):Int:=w / 65536 % 16
def kW (w:Int):Int:=w % 65536
def okW (w:Int):Bool:=okI (opW w) (raW w) (rbW w) (kW w)
def c7d (w:Int):AV:=if okW w then .tup [c2X (opW w) (raW w) (rbW w) (kW w),I 0] else .tup [c2X 0 0 0 0,I 7]
theorem Frz.ins {n:Nat} {H:List VObj} {nx:Nat} {op a b c e:Int}:Frz n H nx (.tup [.agg [I op,I a,I b,I c],I e]) (.tup [c2X op a b c,I e]):=Frz.pure rfl
theorem c3T (w:Int) (hw:a1b w):Contract Tryz.prog 86 [U32 w] (fun r=>r=c7d w):=by
 refine Contract.of_call (VCall.of_body a1g b5b (by simp) ?_);obtain ⟨h0,h1⟩:=hw;have hdiv:∀ k:Nat,k≤32→w.fdiv (2 ^ (min ((k:Int)).toNat IntKind.u32.bits))=w / 2 ^ k:=fun k hk=>by
  have:=b7Y ⟨h0,h1⟩ k hk;unfold c4I at this;rw[this]
  conv=>rhs;rw[show w=((w.toNat:Nat):Int) by omega]
  simp
 have e24:w.fdiv (2 ^ (min 24 IntKind.u32.bits))=w / 16777216:=hdiv 24 (by omega);have e20:w.fdiv (2 ^ (min 20 IntKind.u32.bits))=w / 1048576:=hdiv 20 (by omega);have e16:w.fdiv (2 ^ (min 16 IntKind.u32.bits))=w / 65536:=hdiv 16 (by omega);have m15:∀ x:Int,a1b x→IntKind.u32.wrap (((BitVec.ofInt IntKind.u32.bits x &&& BitVec.ofInt IntKind.u32.bits 15).toNat:Nat):Int)=x % 16:=fun x hx=>a9x hx 4 (by omega);have m65:IntKind.u32.wrap (((BitVec.ofInt IntKind.u32.bits w &&& BitVec.ofInt IntKind.u32.bits 65535).toNat:Nat):Int)=w % 65536:=a9x ⟨h0,h1⟩ 16 (by omega);have e1:IntKind.i64.wrap (w / 16777216)=opW w:=a0e (by omega) (by omega);have e2:IntKind.i64.wrap (w / 1048576 % 16)=raW w:=a0e (by omega) (by omega);have e3:IntKind.i64.wrap (w / 65536 % 16)=rbW w:=a0e (by omega) (by omega);have e4:IntKind.i64.wrap (w % 65536)=kW w:=a0e (by omega) (by omega)
 have x20:=m15 (w / 1048576) ⟨by omega,by omega⟩;have x16:=m15 (w / 65536) ⟨by omega,by omega⟩
 simp only[↓a6l,↓b0H,↓b0I,↓a6y,↓b0J,↓a4x,↓a6m,↓b0K,↓a6n,↓a4z,↓a2B,↓a2C,↓a4A,↓a6p,↓a2D,↓a4B,↓a6q,↓a6r,↓a0a,↓a4C,↓a4D,↓a3t,↓a3u,↓a3r,↓a4y,↓a6o,↓a3s,↓b0P,↓a4G,↓a3w,↓b0Q,↓a4H,↓b0R,↓a6z,↓a6A,↓a4I,↓a6B,↓a6C,↓a6D,↓a4J,↓a6E,↓a6F,↓b0S,↓a4K,↓b0T,↓a6G,↓b0U,↓a6H,↓a6I,↓a6J,↓a6K,↓a6L,↓a6M,↓a6N,↓a6O,↓a6P,↓a6Q,↓a6R,↓a6S,↓a4L,undef,K.xtra,EOp.adds,a2A,↓a8D,↓b7O,↓VR.wp,↓VRs,a6d,b3R,c0M,unR,c0L,b2r,b7H,a1f,a0F,a5w,a3m,a1i,evs,a0V,AV.cells,AV.one,AV.laid,Value.oneCell',Nat.reduceEqDiff,Nat.reduceAdd,Nat.reduceMul,↓reduceIte,↓dreduceIte,true_and,and_true,List.cons_append,List.nil_append,List.length_map,List.length_cons,List.length_nil,List.getElem?_cons_zero,List.getElem?_cons_succ,List.map_cons,List.map_nil,Bool.not_true,Bool.not_false,forall_const,reduceCtorEq,false_implies,List.all_cons,List.all_nil,Bool.and_true,Bool.and_self,↓a4F,↓a3v,↓a6s,↓a6t,↓a1j,↓a2E,decide_eq_true_eq,decide_eq_false_iff_not,Int.toNat_natCast,bne_iff_ne,ne_eq,Bool.not_eq_true',Bool.not_eq_false',bne_eq_false_iff_eq,beq_iff_eq,beq_eq_false_iff_ne,implies_true,List.getD_cons_zero,List.getD_cons_succ,Bool.false_eq_true,false_or,or_false,true_or,or_true,Int.natCast_nonneg,Int.toNat_zero,Int.toNat_one,List.set_cons_zero,List.set_cons_succ,List.take_zero,List.take_succ_cons,List.take_nil,List.drop_zero,List.drop_succ_cons,List.drop_nil,List.append_nil,Nat.zero_add,Nat.add_zero,Nat.mul_one,Nat.zero_mul,↓b6m,↓a6T,↓b6n,↓b0V,↓b0W,↓a6U,↓b0X,↓b0Y,↓b0Z,↓a6V,↓b1a,↓b1b,↓b6o,↓a6W,↓b6p,↓b1c,↓b6q,↓b1d,↓b1e,↓b1f,↓b1g,↓b1h,↓b1i,↓b1j,↓b1k,↓b1l,↓a6X,↓a4M,↓a4N,↓a6Y,↓a6Z,↓a7a,↓a3x,↓a4O,b1m,a7b,a4P,a3y,cv,Nat.reduceLeDiff,Nat.reduceLT,Nat.le_refl,Nat.reduceSub,Int.reduceToNat,Int.reduceLE,Int.reduceLT,not_true_eq_false,not_false_eq_true,decide_true,decide_false,Bool.true_eq_false,↓b0L,↓b0M,↓b0N,↓b0O,↓a6u,↓a6v,↓a6w,↓a6x,a2O,a0E,a0x,a8g,Old,b7M,↓a4Q,↓a7g,↓b1n,↓b1o,↓b1p,↓b6r,↓b6s,↓a7h,↓a7i,↓a7l,↓b1q,↓a7j,↓a7k,↓b1r,↓b1s,↓b1t,↓b1u,↓b1v,↓a7c,↓a7d,↓a4R,↓a7e,↓a7f,↓a3Q,↓a3z,↓a2F,b1w,a2G,a3A,a2H,a4S,c4H,Bool.not_eq_true,Bool.not_eq_false,Classical.not_not,a9u,e24,e20,e16,m65,x20,x16,e1,e2,e3,e4]
 refine VCall.of_contract (c2k _ _ _ _) (SleL.pure rfl) fun x hx=>?_;subst hx;unfold c7d okW;cases h:okI (opW w) (raW w) (rbW w) (kW w)
 ·simp only[go_sem];exact ⟨_,Frz.ins,rfl⟩
 ·simp only[go_sem];exact ⟨_,Frz.ins,rfl⟩
theorem b8t (w:Int) (hw:a1b w):Contract Tryz.prog 88 [U32 w] (fun r=>r=c7d w):=by
 refine Contract.of_call (VCall.of_body a1g b1W (by simp) ?_);obtain ⟨h0,h1⟩:=hw;have q:∀ k:Int,1≤k→IntKind.u32.wrap (w.tdiv k)=w / k:=fun k hk=>by
  rw[Int.tdiv_eq_ediv_of_nonneg h0];refine a1I ⟨Int.ediv_nonneg h0 (by omega),?_⟩;have:=Int.ediv_le_self k h0;omega
 have q24:=q 16777216 (by omega);have q20:=q 1048576 (by omega);have q16:=q 65536 (by omega);have r20:(w / 1048576).tmod 16=w / 1048576 % 16:=Int.tmod_eq_emod_of_nonneg (by omega);have r16:(w / 65536).tmod 16=w / 65536 % 16:=Int.tmod_eq_emod_of_nonneg (by omega);have r0:w.tmod 65536=w % 65536:=Int.tmod_eq_emod_of_nonneg h0;have e1:IntKind.i64.wrap (w / 16777216)=opW w:=a0e (by omega) (by omega);have e2:IntKind.i64.wrap (w / 1048576 % 16)=raW w:=a0e (by omega) (by omega);have e3:IntKind.i64.wrap (w / 65536 % 16)=rbW w:=a0e (by omega) (by omega);have e4:IntKind.i64.wrap (w % 65536)=kW w:=a0e (by omega) (by omega);simp only[go_sem,a5W,q24,q20,q16,r20,r16,r0,e1,e2,e3,e4,Int.reduceEq];refine VCall.of_contract (c0w _ _ _ _) (SleL.pure rfl) fun x hx=>?_;subst hx;unfold c7d okW;cases h:okI (opW w) (raW w) (rbW w) (kW w)
 ·simp only[go_sem];exact ⟨_,Frz.ins,rfl⟩
 ·simp only[go_sem];exact ⟨_,Frz.ins,rfl⟩
theorem b8u {v most:Int} {named:Bool} (h:b1M v most named=true) (hm:0≤most):0≤v∧v≤most:=by
 unfold b1M at h;split at h
 ·simp at h;exact h
 ·simp at h;omega
theorem b9y {op a b c:Int} (h:okI op a b c=true):1≤op∧op≤27∧0≤a∧a≤15∧0≤b∧b≤15∧0≤c∧c≤65535∧(cK op=2→c≤15):=by
 unfold okI at h;simp only[Bool.and_eq_true]at h;obtain ⟨⟨⟨h1,h2⟩,h3⟩,h4⟩:=h;have h2:=b8u h2 (by omega);have h3:=b8u h3 (by omega);have h5:=b8u h4 (by split<;>omega);simp[vOp]at h1;split at h5<;>omega
set_option maxRecDepth 10000
open Go.V
def b7G (op a b c:Int):Int:=op*16777216+a*1048576+b*65536+c
theorem c6f {x y:Int} (i:Nat) (hi:i≤24) (hx:0≤x) (hx2:x*((2 ^ i:Nat):Int)<4294967296) (hy:0≤y) (hy2:y<((2 ^ i:Nat):Int)) (hy3:y<4294967296) :
 IntKind.u32.wrap (((BitVec.ofInt 32 (x*((2 ^ i:Nat):Int)) ||| BitVec.ofInt 32 y).toNat:Nat):Int)=x*((2 ^ i:Nat):Int)+y:=by
 obtain ⟨a,rfl⟩:=Int.eq_ofNat_of_zero_le hx;obtain ⟨b,rfl⟩:=Int.eq_ofNat_of_zero_le hy;have e:(a:Int)*((2 ^ i:Nat):Int)=((a*2 ^ i:Nat):Int):=by simp
 rw[e]at hx2 ⊢;have h3:=c1v (a:=((a*2 ^ i:Nat):Int)) (b:=(b:Int)) ⟨by omega,by omega⟩ ⟨by omega,by omega⟩;unfold orW at h3;rw[w32]at h3;have h4:IntKind.u32.wrap (((BitVec.ofInt 32 ((a*2 ^ i:Nat):Int) ||| BitVec.ofInt 32 (b:Int)).toNat:Nat):Int)=_:=h3;rw[h4,Int.toNat_natCast,Int.toNat_natCast,Nat.mul_comm a,← Nat.two_pow_add_eq_or_of_lt (by omega) a];omega
theorem c7Y (op a b c:Int) (h:okI op a b c=true):Contract Tryz.prog 49 [c2X op a b c] (fun r=>r = .tup [U32 (b7G op a b c),I 0]):=by
 refine Contract.of_call (VCall.of_body a1g b4V (by simp) ?_);have hb:=b9y h;have c1:IntKind.u32.wrap op=op:=a1I ⟨by omega,by omega⟩;have c2:IntKind.u32.wrap a=a:=a1I ⟨by omega,by omega⟩;have c3:IntKind.u32.wrap b=b:=a1I ⟨by omega,by omega⟩;have c4:IntKind.u32.wrap c=c:=a1I ⟨by omega,by omega⟩;have s1:IntKind.u32.wrap (op*2 ^ min 24 32)=op*16777216:=a1I (n:=op*16777216) ⟨by omega,by omega⟩;have s2:IntKind.u32.wrap (a*2 ^ min 20 32)=a*1048576:=a1I (n:=a*1048576) ⟨by omega,by omega⟩;have s3:IntKind.u32.wrap (b*2 ^ min 16 32)=b*65536:=a1I (n:=b*65536) ⟨by omega,by omega⟩;have o1:IntKind.u32.wrap (((BitVec.ofInt 32 (op*16777216) ||| BitVec.ofInt 32 (a*1048576)).toNat:Nat):Int)=op*16777216+a*1048576:=c6f (x:=op) 24 (by omega) (by omega) (by omega) (by omega) (by omega) (by omega)
 have o2:IntKind.u32.wrap (((BitVec.ofInt 32 (op*16777216+a*1048576) ||| BitVec.ofInt 32 (b*65536)).toNat:Nat):Int)=op*16777216+a*1048576+b*65536:=by
  have:=c6f (x:=op*16+a) (y:=b*65536) 20 (by omega) (by omega) (by omega) (by omega) (by omega) (by omega);rw[show (op*16+a)*((2 ^ 20:Nat):Int)=op*16777216+a*1048576 by omega]at this;exact this
 have o3:IntKind.u32.wrap (((BitVec.ofInt 32 (op*16777216+a*1048576+b*65536) ||| BitVec.ofInt 32 c).toNat:Nat):Int)=op*16777216+a*1048576+b*65536+c:=by
  have:=c6f (x:=op*256+a*16+b) (y:=c) 16 (by omega) (by omega) (by omega) (by omega) (by omega) (by omega);rw[show (op*256+a*16+b)*((2 ^ 16:Nat):Int)=op*16777216+a*1048576+b*65536 by omega]at this;exact this
 simp only[go_sem,a9q];refine VCall.of_contract (c2k _ _ _ _) (SleL.pure rfl) fun x hx=>?_;subst hx;simp only[go_sem,h,c1,c2,c3,c4,s1,s2,s3];refine ⟨_,Frz.pure rfl,?_⟩;unfold b7G;rw[← o3,← o2,← o1];rfl
set_option maxRecDepth 10000
open Go.V
theorem c2p {α:Type} [Inhabited α] (f:α→List AV) (n:Nat) (hf:∀ a,(f a).length=n):∀ (l:List α) (k:Nat),k<l.length→(((l.map f).flatten).drop (k*n)).take n=f (l.getD k default)
 | [],k,h=>absurd h (Nat.not_lt_zero _)
 | a::l,0,_=>by simp[hf,List.take_append_of_le_length (Nat.le_of_eq (hf a).symm),List.take_of_length_le (Nat.le_of_eq (hf a))]
 | a::l,k+1,h=>by
  have:=c2p f n hf l k (by simpa using h);simp only[List.map_cons,List.flatten_cons,List.getD_cons_succ];rw[← this,List.drop_append,show (k+1)*n-(f a).length=k*n by rw[hf,Nat.add_mul];omega,List.drop_eq_nil_of_le (by rw[hf,Nat.add_mul];omega),List.nil_append]
theorem b4C {α:Type} [Inhabited α] {f:α→List AV} {n:Nat} (hf:∀ a,(f a).length=n) {l:List α} {k:Nat} {C:AV→Prop} (hk:k<l.length):a0D (l.map f).flatten (k*n) true n C .mk=C (.agg (f (l.getD k default))):=by
 show (a0F _ _ _ _∧C (a1f _ _ _ _))=_;have hl:(l.map f).flatten.length=l.length*n:=b3l f n hf l;have:a0F (l.map f).flatten (k*n) true n:=⟨by rw[hl];have:=Nat.mul_le_mul_right n (show k+1≤l.length by omega);rw[Nat.add_mul]at this;omega,.inl rfl⟩
 rw[show a1f (l.map f).flatten (k*n) true n = .agg (f (l.getD k default)) by unfold a1f;rw[if_pos rfl,c2p f n hf l k hk]];simp[this]
theorem c4T:∀ (l:List Ci) (k:Nat) (x:Int),k<l.length→((l.map ciL).flatten).set (k*4+3) (I x)=((l.set k { l.getD k default with c:=x }).map ciL).flatten
 | [],k,x,h=>absurd h (Nat.not_lt_zero _)
 | i::l,0,x,_=>by simp
 | i::l,k+1,x,h=>by
  have:=c4T l k x (by simpa using h);simp only[List.map_cons,List.flatten_cons,List.getD_cons_succ,List.set_cons_succ];rw[← this,List.set_append_right _ _ (by simp only[List.length_cons,List.length_nil];omega)];simp only[List.length_cons,List.length_nil];rw[show (k+1)*4+3-(0+1+1+1+1)=k*4+3 by omega]
def tgt (en:List Int) (rows:List (List Int)) (p:Int × Int):Int:=if 0≤p.2 then (rows.getD p.1.toNat []).getD p.2.toNat default else en.getD p.1.toNat default
def b8v (en:List Int) (rows:List (List Int)):List Ci→List Sp→List Ci
 | code,[]=>code
 | code,s::t=>b8v en rows (code.set s.1.toNat { code.getD s.1.toNat default with c:=tgt en rows s.2 }) t
def b3y (en:List Int) (rows:List (List Int)) (l:List Sy):List Ci:=l.map fun y=>match y.2 with
 | none=>y.1
 | some p=>{ y.1 with c:=tgt en rows p }
theorem b0t (en:List Int) (rows:List (List Int)):∀ (l:List Sy) (pre:List Ci),b8v en rows (pre++l.map (·.1)) (a1u pre.length l)=pre++b3y en rows l
 | [],pre=>by simp[a1u,b8v,b3y]
 | (i,none)::l,pre=>by
  have:=b0t en rows l (pre++[i]);simp only[List.length_append,List.length_cons,List.length_nil,List.append_assoc,List.cons_append,List.nil_append,Nat.zero_add]at this;simpa [a1u,b3y] using this
 | (i,some p)::l,pre=>by
  have:=b0t en rows l (pre++[{ i with c:=tgt en rows p }]);simp only[List.length_append,List.length_cons,List.length_nil,List.append_assoc,List.cons_append,List.nil_append,Nat.zero_add]at this;simp only[List.map_cons,a1u,b8v,b3y]at this ⊢;rw[Int.toNat_natCast,show (pre++i::l.map (·.1)).getD pre.length default=i by simp[List.getD],show (pre++i::l.map (·.1)).set pre.length { i with c:=tgt en rows (p.1,p.2) }=pre++{ i with c:=tgt en rows p }::l.map (·.1) by simp];exact this
theorem b3r:∀ (l:List Sy) (n:Nat) (s:Sp),s ∈ a1u n l→(n:Int)≤s.1∧s.1<((n+l.length:Nat):Int)∧∃ i,(i,some s.2) ∈ l
 | [],n,s,h=>by simp[a1u]at h
 | (i,none)::l,n,s,h=>by
  obtain ⟨h1,h2,j,h3⟩:=b3r l (n+1) s h;exact ⟨by omega,by simp only[List.length_cons];omega,j,List.mem_cons_of_mem _ h3⟩
 | (i,some p)::l,n,s,h=>by
  simp only[a1u,List.mem_cons]at h;rcases h with rfl | h
  ·exact ⟨by simp,by simp only[List.length_cons];omega,i,List.mem_cons_self⟩
  ·obtain ⟨h1,h2,j,h3⟩:=b3r l (n+1) s h;exact ⟨by omega,by simp only[List.length_cons];omega,j,List.mem_cons_of_mem _ h3⟩
structure RowsH (H:List VObj) (bl:List AV) (rows:List (List Int)):Prop where
 len:bl.length=rows.length
 row:∀ i<rows.length,∃ kr sr,bl.getD i .dead = .ref kr sr 0 (rows.getD i []).length∧H[kr]? = some ⟨sr,3,1,(rows.getD i []).map I⟩
structure FQ2 where
 k:Nat
 code:List Ci
 H:List VObj
 nx:Nat
def JOk (en:List Int) (rows:List (List Int)) (l:List Sy):Prop:=∀ i p,(i,some p) ∈ l→0≤p.1∧p.1<en.length∧p.1<rows.length∧p.2<(rows.getD p.1.toNat []).length
def wlJ (fx:List Ci) (i:Nat):List Int:=(List.range fx.length).map fun j=>if j<i then b7G (fx.getD j default).op (fx.getD j default).a (fx.getD j default).b (fx.getD j default).c else 0
theorem c3U (fx:List Ci):wlJ fx 0=List.replicate fx.length 0:=List.ext_getElem (by simp[wlJ]) fun i h1 h2=>by simp[wlJ]
theorem c6g (fx:List Ci) (i:Nat):(wlJ fx i).length=fx.length:=by simp[wlJ]
theorem c6h (fx:List Ci) {i:Nat} (hi:i<fx.length):(wlJ fx i).set i (b7G (fx.getD i default).op (fx.getD i default).a (fx.getD i default).b (fx.getD i default).c)=wlJ fx (i+1):=by
 refine List.ext_getElem (by simp[wlJ]) fun j h1 h2=>?_;rw[List.getElem_set];simp only[wlJ,List.getElem_map,List.getElem_range];by_cases e:i=j
 ·subst e;rw[if_pos rfl,if_pos (by omega)]
 ·rw[if_neg e];by_cases h:j<i
  ·rw[if_pos h,if_pos (by omega)]
  ·rw[if_neg h,if_neg (by omega)]
theorem c6i (fx:List Ci) {i:Nat} (hi:fx.length≤i):wlJ fx i=fx.map fun t=>b7G t.op t.a t.b t.c:=by
 refine List.ext_getElem (by simp[wlJ]) fun j h1 h2=>?_;have hj:j<fx.length:=by simpa [wlJ] using h1
 simp only[wlJ,List.getElem_map,List.getElem_range];rw[if_pos (by omega)];simp[List.getD,List.getElem?_eq_getElem hj]
abbrev fT:List Nat:=[121]
abbrev c9G (i:Ci):Int:=b7G i.op i.a i.b i.c
theorem WH.setC {b:BP} {ws:List Int} {back fn:Int} {plv:AV} {q:WI} {H:List VObj} {code code':List Ci} {sp:List Sp} {en:List Int} {bl:List AV} (h:WH b ws back fn plv q H code sp en bl) {k s:Nat} {pv:AV} (hw:H[q.kW]? = some ⟨q.sW,78,1,wrL b back fn plv q (.ref k s 0 code.length) pv⟩)
 (hk:H[k]? = some ⟨s,121,4,(code.map ciL).flatten⟩) (hl:code'.length=code.length):WH b ws back fn plv q (H.set k ⟨s,121,4,(code'.map ciL).flatten⟩) code' sp en bl:=by
 obtain ⟨cv',pv',hw',hc,⟨k2,s2,e2,hp⟩⟩:=h.w;rw[hw]at hw';simp only[Option.some.injEq,VObj.mk.injEq,List.cons.injEq,true_and,and_true]at hw';obtain ⟨rfl,rfl⟩:=hw';have t:∀ {i:Nat} {ob:VObj} {o:VObj},H[i]? = some ob→ob.ty≠121→(H.set k o)[i]? = some ob:=fun {i ob o} h1 h2=>by
  rw[a0O (fun e=>by subst e;rw[hk]at h1;cases h1;exact h2 rfl)];exact h1
 exact ⟨⟨_,_,t hw (by simp),⟨k,s,by rw[hl],a0N hk⟩,⟨k2,s2,e2,t hp (by simp)⟩⟩,t h.e (by simp),t h.b (by simp),t h.d (by simp)⟩
set_option maxHeartbeats 1000000 in
theorem c3V {b:BP} {ws:List Int} {back fn:Int} {plv:AV} {q:WI} {H0:List VObj} {l:List Sy} {en:List Int} {bl:List AV} {rows:List (List Int)} (hp1:plv.one=true) (h:WH b ws back fn plv q H0 (l.map (·.1)) (a1u 0 l) en bl) (hr:RowsH H0 bl rows) (hnf:bl.length=b.funcs.length) (hen:en.length=b.funcs.length) (h20:b.funcs.length≤20)
 (hj:JOk en rows l) (hl:l.length≤100000) (hok:∀ i ∈ b3y en rows l,okI i.op i.a i.b i.c=true) (nx0:Nat) (C:AV→List VObj→Nat→Prop)
 (hC:∀ H' nx' k s,H'[k]? = some ⟨s,93,1,((b3y en rows l).map c9G).map U32⟩→KeepT wT H0 H'→C (.tup [.ref k s 0 l.length,I 0]) H' nx') :
 VCall Tryz.prog 27 [.ptr q.kW q.sW 0] H0 nx0 C:=by
 refine VCall.of_body a1g a5Y (by simp) ?_;have hmx:(200000000:Nat)≤maxLen:=by decide
 have hsl:=a9G l 0;obtain ⟨cv,pv,hw,⟨kC,sC,rfl,hkC⟩,⟨kP,sP,rfl,hkP⟩⟩:=h.w;simp only[go_sem,a2Y,hw,hkP,hp1];refine a0r (fun x:FQ2=>⟨[(0,.ptr q.kW q.sW 0),(15,.ref kP sP 0 (a1u 0 l).length),(16,I (a1u 0 l).length),(17,I x.k)],x.H,x.nx⟩)
  (fun x=>x.k≤(a1u 0 l).length∧WH b ws back fn plv q x.H x.code (a1u 0 l) en bl∧x.H[kP]? = some ⟨sP,119,3,((a1u 0 l).map spL).flatten⟩∧b8v en rows x.code ((a1u 0 l).drop x.k)=b3y en rows l∧x.code.length=l.length∧KeepT fT H0 x.H) (fun x=>(a1u 0 l).length-x.k) ⟨0,l.map (·.1),H0,nx0⟩
  (Wk.mk (by simp[a0a]) ⟨[],by simp⟩ (Nat.le_refl _)) ⟨Nat.zero_le _,h,hkP,by simpa using b0t en rows l [],by simp,KeepT.refl _ _⟩ ?_
 rintro ⟨k,code,H,nx⟩ ⟨hk,hwh,hP,hpa,hcl,hkp⟩;simp only at hk hwh hP hpa hcl hkp;by_cases hlt:k<(a1u 0 l).length
 ·have hsm:(a1u 0 l).getD k default ∈ a1u 0 l:=a0q hlt;obtain ⟨a1,a2,i0,a3⟩:=b3r l 0 _ hsm;have hdrop:(a1u 0 l).drop k=(a1u 0 l).getD k default::(a1u 0 l).drop (k+1):=by
   rw[List.drop_eq_getElem_cons hlt];simp[List.getD,List.getElem?_eq_getElem hlt]
  rw[hdrop,b8v]at hpa;obtain ⟨b1,b2,b3,b4⟩:=hj _ _ a3;have hcF:∀ {C:AV→Prop},a0D ((a1u 0 l).map spL).flatten (k*3) true 3 C .mk=C (.agg (spL ((a1u 0 l).getD k default))):=fun {C}=>b4C (f:=spL) (n:=3) (fun _=>rfl) hlt;generalize hs:(a1u 0 l).getD k default=s at *
  obtain ⟨at',fn',to'⟩:=s;simp only at a1 a2 b1 b2 b3 b4;obtain ⟨cv2,pv2,hw2,⟨k2,s2,rfl,hk2⟩,hp2⟩:=hwh.w;have he:=hwh.e;have hb:=hwh.b;have n1:=a2p hP;have n2:=a2p hw2;have n3:=a2p he;have n4:=a2p hb;have n5:=a2p hk2;have l1:=a1l hP;have l2:=a1l hw2;have l3:=a1l he;have l4:=a1l hb;have l5:=a1l hk2;have l6:(H.length<H.length+1)=True:=eq_true (by omega);have es:∀ x y:VObj,(H++[x]).set H.length y=H++[y]:=fun x y=>by simp
  obtain ⟨kr,sr,hrow1,hrow0⟩:=hr.row fn'.toNat (by omega);have hrow2:=hkp _ _ hrow0 (by simp);have hcell:∀ {C:AV→Prop},a0D bl fn'.toNat false 1 C .mk=C (.ref kr sr 0 (rows.getD fn'.toNat []).length):=fun {C}=>b9w (by have:=hr.len;omega) rfl hrow1;have n6:=a2p hrow2;have l7:=a1l hrow2;have hci:∀ x:Int,((code.map ciL).flatten).set (at'.toNat*4+3) (I x)=((code.set at'.toNat { code.getD at'.toNat default with c:=x }).map ciL).flatten:=fun x=>c4T code _ x (by omega);have hla:(code.map ciL).flatten.length=code.length*4:=b3l ciL 4 (fun _=>rfl) code;by_cases h0:0≤to'
  ·have htg:tgt en rows (fn',to')=(rows.getD fn'.toNat []).getD to'.toNat default:=if_pos h0;simp only[go_sem,hp1,hp2.one,eq_true (show (k:Int)<(a1u 0 l).length by omega),hs,hP,hcF,hw2,he,hb,hk2,hrow2,hcell,n1,n2,n3,n4,n5,n6,l1,l2,l3,l4,l5,l6,l7,es,eq_true h0,List.getElem?_set,List.getElem?_append,List.length_set,List.length_append,Nat.lt_irrefl,Nat.sub_self]
   repeat ((with_reducible refine And.intro ?_ ?_);· first | omega | (simp;omega))
   rw[hci,← htg,a0e (n:=(k:Int)+1) (by omega) (by omega)];exact ⟨⟨k+1,code.set at'.toNat { code.getD at'.toNat default with c:=tgt en rows (fn',to') },(H++[(⟨nx,119,1,[I at',I fn',I to']⟩:VObj)]).set k2 ⟨s2,121,4,((code.set at'.toNat { code.getD at'.toNat default with c:=tgt en rows (fn',to') }).map ciL).flatten⟩,nx+1⟩,
    ⟨by simp only;omega,(hwh.keep (KeepT.app _ _ _)).setC (a2r hw2 _) (a2r hk2 _) (by simp),by simp only;rw[a0O (fun e=>by rw[e,hP]at hk2;simp at hk2)];exact a2r hP _,hpa,by simp[hcl],hkp.trans ((KeepT.app _ _ _).trans (KeepT.set (a2r hk2 _) (by simp)))⟩,by simp only;omega,Wk.mk (by simp[a0a]) ⟨[],by simp⟩ (Nat.le_refl _)⟩
  ·have htg:tgt en rows (fn',to')=en.getD fn'.toNat default:=if_neg h0;simp only[go_sem,hp1,hp2.one,eq_true (show (k:Int)<(a1u 0 l).length by omega),hs,hP,hcF,hw2,he,hb,hk2,hrow2,hcell,n1,n2,n3,n4,n5,n6,l1,l2,l3,l4,l5,l6,l7,es,eq_false h0,List.getElem?_set,List.getElem?_append,List.length_set,List.length_append,Nat.lt_irrefl,Nat.sub_self]
   repeat ((with_reducible refine And.intro ?_ ?_);· first | omega | (simp;omega))
   rw[hci,← htg,a0e (n:=(k:Int)+1) (by omega) (by omega)];exact ⟨⟨k+1,code.set at'.toNat { code.getD at'.toNat default with c:=tgt en rows (fn',to') },(H++[(⟨nx,119,1,[I at',I fn',I to']⟩:VObj)]).set k2 ⟨s2,121,4,((code.set at'.toNat { code.getD at'.toNat default with c:=tgt en rows (fn',to') }).map ciL).flatten⟩,nx+1⟩,
    ⟨by simp only;omega,(hwh.keep (KeepT.app _ _ _)).setC (a2r hw2 _) (a2r hk2 _) (by simp),by simp only;rw[a0O (fun e=>by rw[e,hP]at hk2;simp at hk2)];exact a2r hP _,hpa,by simp[hcl],hkp.trans ((KeepT.app _ _ _).trans (KeepT.set (a2r hk2 _) (by simp)))⟩,by simp only;omega,Wk.mk (by simp[a0a]) ⟨[],by simp⟩ (Nat.le_refl _)⟩
 ·obtain rfl:k=(a1u 0 l).length:=by omega
  rw[List.drop_length,b8v]at hpa;subst hpa;obtain ⟨cv2,pv2,hw2,⟨k2,s2,rfl,hk2⟩,hp2⟩:=hwh.w;have n2:=a2p hw2;have n5:=a2p hk2;have l2:=a1l hw2;have l5:=a1l hk2;rw[hcl]at hw2;simp only[go_sem,hp1,hp2.one,eq_false (show ¬ ((a1u 0 l).length:Int)<(a1u 0 l).length by omega),hw2,hk2,n2,n5,l2,l5,List.getElem?_set,List.getElem?_append,List.length_set,List.length_append,Nat.lt_irrefl,Nat.sub_self]
  repeat ((with_reducible refine And.intro ?_ ?_);· first | omega | (simp;omega))
  rw[a3S,show List.replicate l.length (AV.val (.int .u32 0))=(wlJ (b3y en rows l) 0).map U32 by rw[c3U,hcl,List.map_replicate]];refine a0r (fun x:LQ=>⟨[(7,.ref H.length nx 0 l.length),(63,.ref k2 s2 0 l.length),(64,I l.length),(65,I x.j)],x.H,x.nx⟩)
   (fun x=>x.j≤l.length∧x.H[k2]? = some ⟨s2,121,4,((b3y en rows l).map ciL).flatten⟩∧x.H[H.length]? = some ⟨nx,93,1,(wlJ (b3y en rows l) x.j).map U32⟩∧KeepR H.length H x.H) (fun x=>l.length-x.j) ⟨0,H++[⟨nx,93,1,(wlJ (b3y en rows l) 0).map U32⟩],nx+1⟩
   (Wk.mk (by simp[a0a]) ⟨[],by simp⟩ (Nat.le_refl _)) ⟨Nat.zero_le _,a2r hk2 _,by simp,KeepR.of (KeepT.app _ _ _)⟩ ?_
  rintro ⟨i,H1,nx1⟩ ⟨hi,hc1,hr1,hk1⟩;simp only at hi hc1 hr1 hk1;generalize hfx:b3y en rows l=fx at *
  by_cases hil:i<l.length
  ·have hm1:=hok _ (a0q (show i<fx.length by omega));have hcF:∀ {C:AV→Prop},a0D (fx.map ciL).flatten (i*4) true 4 C .mk=C (.agg (ciL (fx.getD i default))):=fun {C}=>b4C (f:=ciL) (n:=4) (fun _=>rfl) (by omega);have hsw:=c6h fx (show i<fx.length by omega);generalize hs:fx.getD i default=t at *
   have n6:=a2p hc1;have n7:=a2p hr1;have l6:=a1l hc1;have l7:=a1l hr1;have l8:(H1.length<H1.length+1)=True:=eq_true (by omega);have es:∀ x y:VObj,(H1++[x]).set H1.length y=H1++[y]:=fun x y=>by simp
   simp only[go_sem,eq_true (show (i:Int)<l.length by omega),hs,hc1,hcF,n6,n7,l6,l7,l8,es,List.getElem?_set,List.getElem?_append,List.length_set,List.length_append,Nat.lt_irrefl,Nat.sub_self]
   repeat ((with_reducible refine And.intro ?_ ?_);· first | omega | (simp;omega))
   refine VCall.of_contract (c7Y t.op t.a t.b t.c hm1) (SleL.pure rfl) fun x hx=>?_;subst hx;simp only[go_sem,hr1,n7,l7,List.getElem?_set,List.getElem?_append,List.length_append,Int.reduceEq,bne_self_eq_false];refine ⟨hil,by rw[c6g];omega,?_⟩;rw[show ((wlJ fx i).map U32).set i (U32 (b7G t.op t.a t.b t.c))=(wlJ fx (i+1)).map U32 by rw[← hsw,List.map_set],a0e (n:=(i:Int)+1) (by omega) (by omega)];exact ⟨⟨i+1,(H1++[(⟨nx1,121,1,ciL t⟩:VObj)]).set H.length ⟨nx,93,1,(wlJ fx (i+1)).map U32⟩,nx1+1⟩,⟨by simp only;omega,by simp only;rw[a0O (fun e=>by rw[← e,hr1]at hc1;simp at hc1)];exact a2r hc1 _,a0N (a2r hr1 _),(hk1.trans (KeepR.of (KeepT.app _ _ _))).trans (KeepR.set _ _ _)⟩,by simp only;omega,Wk.mk (by simp[a0a]) ⟨[],by simp⟩ (Nat.le_refl _)⟩
  ·obtain rfl:i=l.length:=by omega
   simp only[go_sem,eq_false (show ¬ (l.length:Int)<l.length by omega)];rw[c6i fx (by omega)]at hr1;exact hC _ _ _ _ hr1 fun a ob g1 g2=>by
    have g3:=hkp a ob g1 (fun e=>g2 (by simp at e;simp[e]));exact hk1 a ob g3 g2 (by have:=(List.getElem?_eq_some_iff.1 g3).1;omega)
set_option maxRecDepth 10000
open Go.V
theorem c3W {f:BF} {number words:Int} (h:b5H f number words=true):∀ b ∈ f.bks,a3F b f.bks.length f.regs∧∀ t ∈ b.ins,FitsT t number f.regs words:=by
 unfold b5H at h;simp only[Bool.and_eq_true,decide_eq_true_eq,List.all_eq_true]at h;intro b hb;have h5:=h.2 b hb;unfold c0J b8a c7b a3d at h5;simp only[Bool.and_eq_true,decide_eq_true_eq,List.all_eq_true]at h5;exact h5
section
variable {op a b c:Int}
theorem b1N (ho:op=16∨op=17) (ha:0≤a∧a≤15) (hb:0≤b∧b≤15) (hc:0≤c∧c≤65535):okI op a b c=true:=by
 rcases ho with rfl | rfl<;>simp[okI,vOp,b1M,hA,hB,cK]<;>omega
theorem b1O (ho:op=1∨op=2∨op=19∨op=20∨op=21∨op=25) (ha:0≤a∧a≤15) (hc:0≤c∧c≤65535):okI op a 0 c=true:=by
 rcases ho with rfl | rfl | rfl | rfl | rfl | rfl<;>simp[okI,vOp,b1M,hA,hB,cK]<;>omega
theorem c7Z (hc:0≤c∧c≤65535):okI 18 0 0 c=true:=by simp[okI,vOp,b1M,hA,hB,cK];omega
theorem c2q (ho:op=22∨op=23∨op=24) (ha:0≤a∧a≤15):okI op a 0 0=true:=by
 rcases ho with rfl | rfl | rfl<;>simp[okI,vOp,b1M,hA,hB,cK]<;>omega
theorem c8a (ha:0≤a∧a≤15) (hb:0≤b∧b≤15):okI 3 a b 0=true:=by simp[okI,vOp,b1M,hA,hB,cK];omega
theorem c6j:okI 26 0 0 0=true:=by decide
theorem c9p (ho:4≤op∧op≤15) (ha:0≤a∧a≤15) (hb:0≤b∧b≤15) (hc:0≤c∧c≤15):okI op a b c=true:=by
 have h1:op≠18:=by omega
 have h2:op≠26:=by omega
 have e1:vOp op=true:=by simp[vOp];omega
 have e2:hA op=true:=by simp[hA,e1,h1,h2]
 have e3:hB op=true:=by simp[hB];omega
 have e4:cK op=2:=by unfold cK;rw[if_pos ho]
 simp[okI,e1,e2,e3,e4,b1M];omega
end
def SyOk (b:BP) (y:Sy):Prop:=(y.2=none→okI y.1.op y.1.a y.1.b y.1.c=true) ∧
 ∀ p,y.2=some p→(∀ x,0≤x∧x≤65535→okI y.1.op y.1.a y.1.b x=true)∧0≤p.1∧p.1<b.funcs.length∧p.2<((b.funcs.getD p.1.toNat default).bks.length:Int)
theorem SyOk.p {b:BP} {op a bb c:Int} (h:okI op a bb c=true):SyOk b (pY op a bb c):=⟨fun _=>h,fun p hp=>by simp[pY]at hp⟩
theorem SyOk.j {b:BP} {op a f to:Int} (h:∀ x,0≤x∧x≤65535→okI op a 0 x=true) (h0:0≤f) (h1:f<b.funcs.length) (h2:to<((b.funcs.getD f.toNat default).bks.length:Int)):SyOk b (jY op a f to) :=
 ⟨fun e=>by simp[jY]at e,fun p hp=>by simp only[jY,Option.some.injEq]at hp;subst hp;exact ⟨h,h0,h1,h2⟩⟩
structure CxS (c:Cx):Prop where
 ok:CxOk c
 ws:gP c.ws c.fn≤60000
 bk:c.back+c.fn≤65535
section
variable {c:Cx}
theorem CxS.own (h:CxS c) {p:Int} (hp : -4000≤p∧p≤-1):0≤c.own p∧c.own p≤65535:=by
 have h1:=h.ok.wv c.fn (by rw[h.ok.wl];exact h.ok.fl);have h2:=h.ws;unfold Cx.own;omega
theorem CxS.reg (h:CxS c) {v s:Int} (hv:0≤v∧v<c.pl.length) (hs:0≤s∧s≤15):0≤a0B c v s∧a0B c v s≤15:=by
 have:=h.ok.p hv.1 hv.2;unfold a0B;split<;>omega
theorem CxS.int (h:CxS c) {v:Int} (hv:0≤v∧v<c.pl.length):0≤a0S c v∧a0S c v≤15:=by
 have:=h.ok.p hv.1 hv.2;unfold a0S;split<;>omega
theorem a2V (h:CxS c) {v s:Int} (hv:0≤v∧v<c.pl.length) (hs:0≤s∧s≤15):∀ y ∈ a0K c v s,SyOk c.b y:=by
 have:=h.ok.p hv.1 hv.2;intro y hy;unfold a0K at hy;split at hy
 ·simp at hy
 ·simp only[List.mem_singleton]at hy;subst hy;exact SyOk.p (b1N (.inl rfl) hs ⟨by omega,by omega⟩ (h.own (by omega)))
theorem a7J (h:CxS c) {v r:Int} (hv:0≤v∧v<c.pl.length) (hr:0≤r∧r≤15):∀ y ∈ a1z c v r,SyOk c.b y:=by
 have:=h.ok.p hv.1 hv.2;intro y hy;unfold a1z at hy;split at hy
 ·simp only[List.mem_singleton]at hy;subst hy;exact SyOk.p (b1N (.inr rfl) hr ⟨by omega,by omega⟩ (h.own (by omega)))
 ·simp at hy
theorem a1m {P:Sy→Prop} {l m:List Sy} (h1:∀ y ∈ l,P y) (h2:∀ y ∈ m,P y):∀ y ∈ l++m,P y:=fun y hy=>(List.mem_append.1 hy).elim (h1 y) (h2 y)
theorem a1x {P:Sy→Prop} {x:Sy} (h:P x):∀ y ∈ [x],P y:=fun y hy=>by rw[List.mem_singleton.1 hy];exact h
theorem all_nil {P:Sy→Prop}:∀ y ∈ ([]:List Sy),P y:=fun y hy=>by cases hy
theorem c3X (h:CxS c) {v n:Int} (hv:0≤v∧v<c.pl.length) (hn:a1b n):∀ y ∈ a2K c v n,SyOk c.b y:=by
 obtain ⟨h0,h1⟩:=hn;have hi:=h.int hv;unfold a2K;split
 ·exact a7J h hv ⟨by omega,by omega⟩
 ·refine a1m (l:=[_]) (a1x (SyOk.p (b1O (.inl rfl) hi ⟨by omega,by omega⟩))) (a1m ?_ (a7J h hv hi));split
  ·exact all_nil
  ·exact a1x (SyOk.p (b1O (.inr (.inl rfl)) hi ⟨by omega,by omega⟩))
theorem c6k (h:CxS c) {d a:Int} (hd:0≤d∧d<c.pl.length) (ha:0≤a∧a<c.pl.length):∀ y ∈ b0r c d a,SyOk c.b y:=by
 have hp:=h.ok.p hd.1 hd.2;unfold b0r;split
 ·exact all_nil
 split
 ·refine a1m (a2V h ha ⟨by omega,by omega⟩) ?_;split
  ·exact all_nil
  ·exact a1x (SyOk.p (c8a ⟨by omega,by omega⟩ (h.reg ha ⟨by omega,by omega⟩)))
 ·exact a1m (a2V h ha ⟨by omega,by omega⟩) (a7J h hd (h.reg ha ⟨by omega,by omega⟩))
theorem c8b (h:CxS c) {t:Tac} (ht:InsOk c t) {words regs:Int} (hf:FitsT t c.fn regs words) (hw:words≤60000) (hb:∀ i<c.b.funcs.length,0<(c.b.funcs.getD i default).bks.length):∀ y ∈ a2e c t,SyOk c.b y:=by
 obtain ⟨_,_,_,_,_,_,_,hr⟩:=hf;have ho:=ht.o;have hfl:=h.ok.fl;obtain ⟨op,d,a,b,k,base,size,n⟩:=t;have hd:=ht.d;have ha:=ht.a;have hbb:=ht.b;have hn:=ht.n;simp only[a0m,a3L]at ho hd ha hbb hn hr;have r9:(0:Int)≤9∧(9:Int)≤15:=⟨by omega,by omega⟩
 have r10:(0:Int)≤10∧(10:Int)≤15:=⟨by omega,by omega⟩
 have r0:(0:Int)≤0∧(0:Int)≤15:=⟨by omega,by omega⟩
 have hcs:op=1∨op=2∨op=3∨op=4∨op=5∨op=6∨op=7∨op=8∨op=9∨op=10:=by omega
 rcases hcs with rfl | rfl | rfl | rfl | rfl | rfl | rfl | rfl | rfl | rfl<;>simp only[Int.reduceEq,or_false,or_true,false_or,true_or,or_self,↓reduceIte,forall_const,false_implies,and_true]at hd ha hbb hr
 ·exact c3X h hd hn
 ·exact c6k h hd ha
 ·exact a1m (a1m (a1m (a2V h ha r9) (a2V h hbb r10)) (a1x (SyOk.p (c9p ⟨hr.1,hr.2.1⟩ (h.int hd) (h.reg ha r9) (h.reg hbb r10))))) (a7J h hd (h.int hd))
 ·exact a1m (a1x (SyOk.p (b1N (.inl rfl) (h.int hd) r0 ⟨by first | omega | (dsimp only;omega),by first | omega | (dsimp only;omega)⟩))) (a7J h hd (h.int hd))
 ·exact a1m (a2V h ha r9) (a1x (SyOk.p (b1N (.inr rfl) (h.reg ha r9) r0 ⟨by first | omega | (dsimp only;omega),by first | omega | (dsimp only;omega)⟩)))
 ·exact a1m (a1m (a1m (a2V h ha r9) (a1x (SyOk.p (b1O (by omega) (h.reg ha r9) ⟨by first | omega | (dsimp only;omega),by first | omega | (dsimp only;omega)⟩)))) (a1x (SyOk.p (b1N (.inl rfl) (h.int hd) (h.reg ha r9) ⟨by first | omega | (dsimp only;omega),by first | omega | (dsimp only;omega)⟩)))) (a7J h hd (h.int hd))
 ·exact a1m (a1m (a1m (a2V h ha r9) (a1x (SyOk.p (b1O (by omega) (h.reg ha r9) ⟨by first | omega | (dsimp only;omega),by first | omega | (dsimp only;omega)⟩)))) (a2V h hbb r10)) (a1x (SyOk.p (b1N (.inr rfl) (h.reg hbb r10) (h.reg ha r9) ⟨by first | omega | (dsimp only;omega),by first | omega | (dsimp only;omega)⟩)))
 ·exact a1m (a1x (SyOk.p (c2q (by omega) (h.int hd)))) (a7J h hd (h.int hd))
 ·exact a1m (a2V h ha r9) (a1x (SyOk.p (c2q (by omega) (h.reg ha r9))))
 ·exact a1x (SyOk.j (fun x hx=>b1O (by omega) ⟨by first | omega | (dsimp only;omega),by first | omega | (dsimp only;omega)⟩ hx) hr.2.1 (by dsimp only;omega) (by have:=hb base.toNat (by omega);dsimp only;omega))
theorem c6l (h:CxS c) {f:BF} (hf:c.b.funcs.getD c.fn default=f) {b:Bk} (hE:a3F b f.bks.length f.regs) (hr:f.regs≤c.pl.length) (n:Int):∀ y ∈ b2m c b n,SyOk c.b y:=by
 have hfl:=h.ok.fl;have hbk:=h.ok.bk;have hbk2:=h.bk;have e:(c.b.funcs.getD ((c.fn:Int)).toNat default).bks.length=f.bks.length:=by rw[Int.toNat_natCast,hf]
 have jm:∀ to:Int,to<f.bks.length→SyOk c.b (jY 18 0 c.fn to):=fun to hto=>SyOk.j (fun x hx=>c7Z hx) (by omega) (by omega) (by rw[e];exact hto);unfold a3F at hE;unfold b2m;split
 ·rename_i h1;rw[if_pos h1]at hE;split
  ·exact all_nil
  ·exact a1x (jm _ hE.2.1)
 split
 ·rename_i h1 h2;rw[if_neg h1,if_pos h2]at hE;have hv:0≤b.v∧b.v<c.pl.length:=⟨hE.2.2.2.2.1,by omega⟩
  have r9:(0:Int)≤9∧(9:Int)≤15:=⟨by omega,by omega⟩
  split
  ·exact a1m (a2V h hv r9) (a1x (SyOk.j (fun x hx=>b1O (by omega) (h.reg hv r9) hx) (by omega) (by omega) (by rw[e];exact hE.2.2.2.1)))
  ·refine a1m (a1m (a2V h hv r9) (a1x (SyOk.j (fun x hx=>b1O (by omega) (h.reg hv r9) hx) (by omega) (by omega) (by rw[e];exact hE.2.1)))) ?_;split
   ·exact all_nil
   ·exact a1x (jm _ hE.2.2.2.1)
 split
 ·split
  ·exact a1x (SyOk.p c6j)
  ·exact a1m (l:=[_]) (a1x (SyOk.p (b1N (.inl rfl) ⟨by omega,by omega⟩ ⟨by omega,by omega⟩ ⟨by omega,by omega⟩))) (a1x (SyOk.p (c2q (by omega) ⟨by omega,by omega⟩)))
 ·exact all_nil
end
set_option maxRecDepth 10000
open Go.V
def wsO (b:BP) (ls:List (List Int)):List Int:=(List.range b.funcs.length).map fun i=>b.words+a2J (ls.take i)
def cxO (b:BP) (ls:List (List Int)) (i:Nat):Cx:=⟨b,wsO b ls,b.words+a2J ls,i,ls.getD i default⟩
def fO (b:BP) (i:Nat):BF:=b.funcs.getD i default
structure S3 where
 l:List Sy
 en:List Int
 rows:List (List Int)
def a4w (b:BP) (ls:List (List Int)) (rw:Nat→List Bool) (S:S3) (i:Nat):S3 :=
 ⟨S.l++b5u (cxO b ls i) (rw i) (fO b i),S.en.set i (S.l.length:Nat),S.rows.set i (a8e (cxO b ls i) (S.l++a3M (cxO b ls i) (rw i)).length (fO b i).bks (fO b i).bks.length)⟩
def b2n (b:BP) (ls:List (List Int)) (rw:Nat→List Bool) (ord:List Nat):S3:=ord.foldl (a4w b ls rw) ⟨[],List.replicate b.funcs.length 0,List.replicate b.funcs.length []⟩
def b3Q (n j:Nat):List Nat:=(n-1)::List.range j
def a3I (b:BP) (ls:List (List Int)) (rw:Nat→List Bool):S3:=b2n b ls rw (b3Q b.funcs.length (b.funcs.length-1))
def a9I (b:BP) (ls:List (List Int)) (rw:Nat→List Bool):List Int:=(b3y (a3I b ls rw).en (a3I b ls rw).rows (a3I b ls rw).l).map c9G
def a1M (b:BP) (ls:List (List Int)):Int:=b.words+a2J ls+((b.funcs.length:Int)-1)
theorem a9J (b:BP) (ls:List (List Int)) (rw:Nat→List Bool) (o:List Nat) (i:Nat):b2n b ls rw (o++[i])=a4w b ls rw (b2n b ls rw o) i:=by unfold b2n;rw[List.foldl_append];rfl
theorem b3s (n j:Nat):b3Q n (j+1)=b3Q n j++[j]:=by unfold b3Q;rw[List.range_succ];rfl
theorem c2r {ls:List (List Int)} (hw:∀ i<ls.length,0≤a8x (ls.getD i default)∧a8x (ls.getD i default)≤4000):∀ k,k≤ls.length→0≤a2J (ls.take k)∧a2J (ls.take k)≤4000*k
 | 0,_=>by simp[a2J]
 | k+1,hk=>by
  have h1:=c2r hw k (by omega);have h2:=hw k (by omega);rw[a7I ls (by omega)];omega
theorem a9K {ls:List (List Int)} (hw:∀ i<ls.length,0≤a8x (ls.getD i default)∧a8x (ls.getD i default)≤4000):∀ k d,k+d≤ls.length→a2J (ls.take k)≤a2J (ls.take (k+d))
 | k,0,_=>Int.le_refl _
 | k,d+1,h=>by
  have h1:=a9K hw k d (by omega);have h2:=hw (k+d) (by omega);rw[← Nat.add_assoc,a7I ls (by omega)];omega
section
variable {b:BP} {ls:List (List Int)}
theorem FairP.words (h:FairP b ls):0≤b.words∧b.words≤8000∧0<b.funcs.length:=by
 have hr:=h.few.r;unfold a7D at hr;simp only[Bool.and_eq_true,decide_eq_true_eq]at hr;have:=h.few.w;exact ⟨hr.1.1,this,List.length_pos_iff.2 hr.1.2.2⟩
theorem FairP.tot (h:FairP b ls) (k:Nat) (hk:k≤ls.length):0≤a2J (ls.take k)∧a2J (ls.take k)≤600:=by
 have h1:=c2r h.hold.wds k hk;have h2:=a9K h.hold.wds k (ls.length-k) (by omega);rw[show k+(ls.length-k)=ls.length by omega,List.take_of_length_le (Nat.le_refl _)]at h2;have:=h.wds;omega
theorem FairP.cx (h:FairP b ls) {i:Nat} (hi:i<b.funcs.length):CxS (cxO b ls i):=by
 have hw:=h.words;have hl:=h.hold.len;have h20:=h.few.l;obtain ⟨hf,hr,ho⟩:=h.few.fine hi;obtain ⟨L,hL,hA⟩:=h.hold.al i hi;have hT:=h.tot ls.length (Nat.le_refl _);rw[List.take_of_length_le (Nat.le_refl _)]at hT;have hwl:(wsO b ls).length=b.funcs.length:=by simp[wsO]
 have hg:∀ k<b.funcs.length,gP (wsO b ls) k=b.words+a2J (ls.take k):=fun k hk=>by simp[gP,wsO,List.getD,hk]
 have hpl:(ls.getD i default).length=(b.funcs.getD i default).r:=hA.len;refine ⟨⟨hi,h20,hwl,fun k hk=>?_,?_,?_,fun v hv=>?_⟩,?_,?_⟩
 ·rw[show (cxO b ls i).ws=wsO b ls from rfl]at hk ⊢;rw[hwl]at hk;have:=h.tot k (by omega);rw[hg k hk];omega
 ·show 0≤b.words+a2J ls∧b.words+a2J ls≤100000;omega
 ·show (ls.getD i default).length≤4000;omega
 ·exact hA.ok v (by rw[← hpl];exact hv)
 ·show gP (wsO b ls) i≤60000;have:=h.tot i (by omega);rw[hg i hi];omega
 ·show b.words+a2J ls+(i:Int)≤65535;omega
theorem FairP.parts (h:FairP b ls) {i:Nat} (hi:i<b.funcs.length):∀ k ∈ (fO b i).bks,a3F k (fO b i).bks.length (fO b i).regs∧∀ t ∈ k.ins,FitsT t i (fO b i).regs b.words:=c3W (h.few.fine hi).2.2
theorem FairP.pl (h:FairP b ls) {i:Nat} (hi:i<b.funcs.length):((cxO b ls i).pl.length:Int)=(fO b i).regs∧(cxO b ls i).pl.length=(fO b i).r:=by
 obtain ⟨hf,hr,ho⟩:=h.few.fine hi;obtain ⟨L,hL,hA⟩:=h.hold.al i hi;have h0:=hf.r0;have e:(cxO b ls i).pl.length=(fO b i).r:=hA.len;refine ⟨?_,e⟩;rw[e];unfold fO BF.r;omega
theorem FairP.insOk (h:FairP b ls) (hn:∀ f ∈ b.funcs,∀ k ∈ f.bks,∀ t ∈ k.ins,a1b t.n) {i:Nat} (hi:i<b.funcs.length) {k:Bk} (hk:k ∈ (fO b i).bks) {t:Tac} (ht:t ∈ k.ins):InsOk (cxO b ls i) t:=by
 obtain ⟨o1,o2,hd,hu,_,_,_,_⟩:=(h.parts hi k hk).2 t ht;have hp:=(h.pl hi).1;refine ⟨⟨o1,o2⟩,fun hs=>?_,fun ha=>?_,fun hb=>?_,hn _ (a0q hi) k hk t ht⟩
 ·rw[if_pos hs]at hd;rw[hp];exact hd
 ·rw[hp];refine hu t.a ?_;unfold a0l;by_cases c1:t.op=2∨t.op=5∨t.op=6∨t.op=9
  ·rw[if_pos c1];simp
  ·rw[if_neg c1,if_pos (by omega)];simp
 ·rw[hp];refine hu t.b ?_;unfold a0l;rw[if_neg (by omega),if_pos (by omega)];simp
theorem FairP.fn (h:FairP b ls) (hn:∀ f ∈ b.funcs,∀ k ∈ f.bks,∀ t ∈ k.ins,a1b t.n) {i:Nat} (hi:i<b.funcs.length):FnOk (cxO b ls i) (fO b i):=by
 have hp:=(h.pl hi).1;have htot:=h.few.n;have hm:=b9r (a0q hi);refine ⟨rfl,(h.few.fine hi).1,(h.pl hi).2,by unfold fO;omega,fun k hk=>?_⟩;have hE:=(h.parts hi k hk).1;unfold a3F at hE;refine ⟨fun t ht=>h.insOk hn hi hk ht,?_,fun e2=>?_⟩
 ·by_cases e1:k.e=1
  ·exact .inl e1
  ·rw[if_neg e1]at hE;by_cases e2:k.e=2
   ·exact .inr (.inl e2)
   ·rw[if_neg e2]at hE;exact .inr (.inr hE.1)
 ·rw[if_neg (by omega),if_pos e2]at hE;rw[hp];exact ⟨hE.2.2.2.2.1,hE.2.2.2.2.2⟩
theorem c2s {c:Cx}:∀ (l:List Bk) (j:Nat),(∀ k ∈ l,(∀ t ∈ k.ins,∀ y ∈ a2e c t,SyOk c.b y)∧∀ n,∀ y ∈ b2m c k n,SyOk c.b y)→∀ y ∈ a1n c j l,SyOk c.b y
 | [],_,_=>all_nil
 | k::l,j,h=>by
  refine a1m (a1m (fun y hy=>?_) ((h k (List.mem_cons_self)).2 _)) (c2s l (j+1) fun x hx=>h x (List.mem_cons_of_mem _ hx));obtain ⟨t,ht,hy⟩:=List.mem_flatMap.1 hy;exact (h k List.mem_cons_self).1 t ht y hy
theorem c6m {c:Cx} (h:CxS c) {row:List Bool} (hrow:row.length≤c.pl.length):∀ y ∈ a3M c row,SyOk c.b y:=by
 have hbk:=h.ok.bk;have hbk2:=h.bk;unfold a3M;refine a1m ?_ fun y hy=>?_
 ·split
  ·exact all_nil
  ·exact a1x (SyOk.p (b1N (.inr rfl) ⟨by omega,by omega⟩ ⟨by omega,by omega⟩ ⟨by omega,by omega⟩))
 ·obtain ⟨v,hv,hy⟩:=List.mem_flatMap.1 hy;have hv':=List.mem_range.1 hv;have hvp:0≤(v:Int)∧(v:Int)<c.pl.length:=⟨by omega,by omega⟩
  have hp:=h.ok.p hvp.1 hvp.2;unfold a9H at hy;split at hy
  ·split at hy
   ·exact a1x (SyOk.p (b1O (.inl rfl) ⟨by omega,by omega⟩ ⟨by omega,by omega⟩)) y hy
   ·exact a7J h hvp ⟨by omega,by omega⟩ y hy
  ·cases hy
theorem FairP.funOk (h:FairP b ls) (hn:∀ f ∈ b.funcs,∀ k ∈ f.bks,∀ t ∈ k.ins,a1b t.n) {i:Nat} (hi:i<b.funcs.length) {row:List Bool} (hrow:row.length≤(fO b i).r):∀ y ∈ b5u (cxO b ls i) row (fO b i),SyOk b y:=by
 have hc:=h.cx hi;have hp:=h.pl hi;have hw:=h.words;refine a1m (c6m hc (by rw[hp.2];exact hrow)) (c2s (c:=cxO b ls i) _ 0 fun k hk=>⟨fun t ht=>?_,fun n=>?_⟩)
 ·refine c8b hc (h.insOk hn hi hk ht) ((h.parts hi k hk).2 t ht) (by omega) fun j hj=>?_;have:=(h.few.fine hj).1.b0;exact List.length_pos_iff.2 this
 ·exact c6l hc rfl (h.parts hi k hk).1 (by rw[hp.1];exact Int.le_refl _) n
structure RunP (b:BP) (S:S3) (o:List Nat) (N:Nat):Prop where
 en:S.en.length=b.funcs.length
 rows:S.rows.length=b.funcs.length
 ok:∀ y ∈ S.l,SyOk b y
 len:S.l.length≤N
 env:∀ x ∈ S.en,0≤x∧x≤(S.l.length:Int)
 rwv:∀ r ∈ S.rows,∀ x ∈ r,0≤x∧x≤(S.l.length:Int)
 rwl:∀ i ∈ o,(S.rows.getD i []).length=(fO b i).bks.length
theorem c3Y (c:Cx) (row:List Bool) (f:BF):(b5u c row f).length≤row.length+1+4*a8y f.bks:=by
 have h1:=c2i c row;have h2:=b3o c f.bks 0;unfold b5u;rw[List.length_append];omega
theorem RunP.step (h:FairP b ls) (hn:∀ f ∈ b.funcs,∀ k ∈ f.bks,∀ t ∈ k.ins,a1b t.n) {rw:Nat→List Bool} (hrw:∀ i<b.funcs.length,(rw i).length≤(fO b i).r) {S:S3} {o:List Nat} {N i:Nat} (hS:RunP b S o N) (hi:i<b.funcs.length) :
 RunP b (a4w b ls rw S i) (o++[i]) (N+(31+4*a8y (fO b i).bks)):=by
 have hfl:=c3Y (cxO b ls i) (rw i) (fO b i);have hr:=hrw i hi;have hr2:(fO b i).r≤30:=(h.few.fine hi).2.1;have hSl:=hS.len;have hrow:∀ x ∈ a8e (cxO b ls i) (S.l++a3M (cxO b ls i) (rw i)).length (fO b i).bks (fO b i).bks.length,0≤x∧x≤((S.l++b5u (cxO b ls i) (rw i) (fO b i)).length:Int):=fun x hx=>by
  unfold a8e at hx;obtain ⟨k,hk,rfl⟩:=List.mem_map.1 hx;have hk':=List.mem_range.1 hk;rw[if_pos hk'];have e:a1n (cxO b ls i) 0 (fO b i).bks=a1n (cxO b ls i) 0 ((fO b i).bks.take k)++a1n (cxO b ls i) (0+((fO b i).bks.take k).length) ((fO b i).bks.drop k):=by
   have:∀ (l m:List Bk) (j:Nat),a1n (cxO b ls i) j (l++m)=a1n (cxO b ls i) j l++a1n (cxO b ls i) (j+l.length) m:=by
    intro l
    induction l with
    | nil=>intro m j;simp[a1n]
    | cons a l ih=>intro m j;simp only[List.cons_append,a1n,ih,List.append_assoc,List.length_cons];rw[show j+1+l.length=j+(l.length+1) by omega]
   rw[← this,List.take_append_drop]
  unfold b5u;rw[e];simp only[List.length_append];omega
 refine ⟨by simp[a4w,hS.en],by simp[a4w,hS.rows],a1m hS.ok (h.funOk hn hi hr),?_,fun x hx=>?_,fun r hr x hx=>?_,fun k hk=>?_⟩
 ·simp only[a4w,List.length_append];omega
 ·simp only[a4w]at hx ⊢;rw[List.length_append];rcases List.mem_or_eq_of_mem_set hx with hx | rfl
  ·have:=hS.env x hx;omega
  ·omega
 ·simp only[a4w]at hr ⊢;rcases List.mem_or_eq_of_mem_set hr with hr | rfl
  ·have:=hS.rwv r hr x hx;rw[List.length_append];omega
  ·exact hrow x hx
 ·simp only[a4w];by_cases e:i=k
  ·subst e;rw[List.getD,List.getElem?_set_self (by rw[hS.rows];exact hi)];exact b5w _ _ _ _
  ·rw[List.getD,List.getElem?_set_ne e];rcases List.mem_append.1 hk with hk | hk
   ·exact hS.rwl k hk
   ·exact absurd (List.mem_singleton.1 hk).symm e
theorem RunP.all (h:FairP b ls) (hn:∀ f ∈ b.funcs,∀ k ∈ f.bks,∀ t ∈ k.ins,a1b t.n) {rw:Nat→List Bool} (hrw:∀ i<b.funcs.length,(rw i).length≤(fO b i).r):∀ j,j≤b.funcs.length-1 →
 RunP b (b2n b ls rw (b3Q b.funcs.length j)) (b3Q b.funcs.length j) (31*(j+1)+4*(a8y (fO b (b.funcs.length-1)).bks+b2c (b.funcs.take j)))
 | 0,_=>by
  have hw:=h.words;have h0:RunP b ⟨[],List.replicate b.funcs.length 0,List.replicate b.funcs.length []⟩ [] 0:=⟨by simp,by simp,fun y hy=>(by cases hy),by simp,fun x hx=>(by rw[(List.mem_replicate.1 hx).2];simp),fun r hr x hx=>(by rw[(List.mem_replicate.1 hr).2]at hx;cases hx),fun i hi=>(by cases hi)⟩
  have:=RunP.step h hn hrw h0 (i:=b.funcs.length-1) (by omega);simpa [b3Q,b2n,b2c] using this
 | j+1,hj=>by
  have h1:=RunP.all h hn hrw j (by omega);have h2:=RunP.step h hn hrw h1 (i:=j) (by omega);rw[b3s,a9J];have e:=b3k b.funcs (show j<b.funcs.length by omega);rw[e];have:31*(j+1)+4*(a8y (fO b (b.funcs.length-1)).bks+b2c (b.funcs.take j))+(31+4*a8y (fO b j).bks)=31*(j+1+1)+4*(a8y (fO b (b.funcs.length-1)).bks+(b2c (b.funcs.take j)+a8y (b.funcs.getD j default).bks)):=by unfold fO;omega
  rw[← this];exact h2
theorem b5x {n i:Nat} (hi:i<n):i ∈ b3Q n (n-1):=by
 unfold b3Q;by_cases e:i=n-1
 ·subst e;exact List.mem_cons_self
 ·exact List.mem_cons_of_mem _ (List.mem_range.2 (by omega))
theorem a5s (h:FairP b ls) (j:Nat) (hj:j≤b.funcs.length-1):31*(j+1)+4*(a8y (fO b (b.funcs.length-1)).bks+b2c (b.funcs.take j))≤6000:=by
 have hw:=h.words;have h20:=h.few.l;have hn:=h.few.n;have e:=b3k b.funcs (show b.funcs.length-1<b.funcs.length by omega);rw[show b.funcs.length-1+1=b.funcs.length by omega,List.take_of_length_le (Nat.le_refl _)]at e;have hm:b2c (b.funcs.take j)≤b2c (b.funcs.take (b.funcs.length-1)):=by
  have:b.funcs.take (b.funcs.length-1)=b.funcs.take j++(b.funcs.take (b.funcs.length-1)).drop j:=by
   conv=>lhs;rw[← List.take_append_drop j (b.funcs.take (b.funcs.length-1))]
   rw[List.take_take,Nat.min_eq_left hj]
  rw[this];unfold b2c;rw[List.map_append,List.sum_append];omega
 unfold fO;omega
theorem c2t (h:FairP b ls) (hn:∀ f ∈ b.funcs,∀ k ∈ f.bks,∀ t ∈ k.ins,a1b t.n) {rw:Nat→List Bool} (hrw:∀ i<b.funcs.length,(rw i).length≤(fO b i).r) :
 JOk (a3I b ls rw).en (a3I b ls rw).rows (a3I b ls rw).l∧∀ i ∈ b3y (a3I b ls rw).en (a3I b ls rw).rows (a3I b ls rw).l,okI i.op i.a i.b i.c=true:=by
 have hR:RunP b (a3I b ls rw) _ _:=RunP.all h hn hrw (b.funcs.length-1) (Nat.le_refl _);have hB:=a5s h (b.funcs.length-1) (Nat.le_refl _);have hlen:=hR.len;have hj:JOk (a3I b ls rw).en (a3I b ls rw).rows (a3I b ls rw).l:=fun i p hp=>by
  obtain ⟨_,h1⟩:=hR.ok _ hp;obtain ⟨_,a1,a2,a3⟩:=h1 p rfl;refine ⟨a1,by rw[show (a3I b ls rw).en.length=_ from hR.en];exact a2,by rw[show (a3I b ls rw).rows.length=_ from hR.rows];exact a2,?_⟩;rw[show ((a3I b ls rw).rows.getD p.1.toNat []).length=_ from hR.rwl p.1.toNat (b5x (by omega))];exact a3
 refine ⟨hj,fun i hi=>?_⟩;unfold b3y at hi;obtain ⟨⟨ci,o⟩,hy,rfl⟩:=List.mem_map.1 hi;obtain ⟨k1,k2⟩:=hR.ok _ hy;cases o with
 | none=>exact k1 rfl
 | some p =>
  obtain ⟨g1,g2,g3,g4⟩:=k2 p rfl;obtain ⟨j1,j2,j3,j4⟩:=hj ci p hy;have key:0≤tgt (a3I b ls rw).en (a3I b ls rw).rows p∧tgt (a3I b ls rw).en (a3I b ls rw).rows p≤65535:=by
   unfold tgt;by_cases h0:0≤p.2
   ·rw[if_pos h0];have hr:=hR.rwv ((a3I b ls rw).rows.getD p.1.toNat []) (by rw[List.getD,List.getElem?_eq_getElem (by omega)];exact List.getElem_mem _) (((a3I b ls rw).rows.getD p.1.toNat []).getD p.2.toNat default) (a0q (by omega));omega
   ·rw[if_neg h0];have hr:=hR.env ((a3I b ls rw).en.getD p.1.toNat default) (a0q (by omega));omega
  exact g1 _ key
end
set_option maxRecDepth 10000
open Go.V
theorem WH.setB {b:BP} {ws:List Int} {back fn:Int} {plv:AV} {q:WI} {H:List VObj} {code:List Ci} {sp:List Sp} {en:List Int} {bl:List AV} (h:WH b ws back fn plv q H code sp en bl) (bl':List AV):WH b ws back fn plv q (H.set q.kB ⟨q.sB,28,1,bl'⟩) code sp en bl':=by
 obtain ⟨cv,pv,hw,⟨k1,s1,e1,hc⟩,⟨k2,s2,e2,hp⟩⟩:=h.w;have hb:=h.b;have t:∀ {i:Nat} {ob:VObj},H[i]? = some ob→ob.ty≠28→(H.set q.kB ⟨q.sB,28,1,bl'⟩)[i]? = some ob:=fun {i ob} h1 h2=>by
  rw[a0O (fun e=>by subst e;rw[hb]at h1;cases h1;exact h2 rfl)];exact h1
 exact ⟨⟨cv,pv,t hw (by simp),⟨k1,s1,e1,t hc (by simp)⟩,⟨k2,s2,e2,t hp (by simp)⟩⟩,t h.e (by simp),a0N hb,t h.d (by simp)⟩
theorem c2u (c:Cx) (n0:Nat) (bks:List Bk):a8e c n0 bks 0=List.replicate bks.length 0:=by
 unfold a8e;refine List.ext_getElem (by simp) fun i h1 h2=>by simp
theorem c9q {c:Cx} {q:WI} {H:List VObj} {l:List Sy} {en:List Int} {bl:List AV} {f:BF} (h:WC c q H l en bl) (hk:CxOk c) (hf:FnOk c f) (hl:l.length≤200000) (hbl:bl.length=c.b.funcs.length) (hb1:∀ x ∈ bl,x.one=true)
 {kF sF:Nat} (hF:H[kF]? = some ⟨sF,34,1,bfL f⟩) (nx:Nat) (C:AV→List VObj→Nat→Prop)
 (hC:∀ r H' nx' kr sr,WC c q H' (l++a1n c 0 f.bks) en (bl.set c.fn (.ref kr sr 0 f.bks.length))→H'[kr]? = some ⟨sr,3,1,(a8e c l.length f.bks f.bks.length).map I⟩→kr≠q.kE→KeepF q H H'→C r H' nx') :
 VWs Tryz.prog (a2y 6 a0g) (a8D Tryz.prog [] C) ⟨[(0,.ptr q.kW q.sW 0),(1,I c.fn),(6,.ptr kF sF 0)],H,nx⟩:=by
 have hmx:(200000:Nat)≤maxLen:=by decide
 have hfb:=hf.fi.b1;have hfl:=hk.fl;obtain ⟨cv,pv,hw,⟨k2,s2,rfl,hk2⟩,hp⟩:=h.w;have hbb:=h.b;have n1:=a2p hw;have n2:=a2p hbb;have n3:=a2p hF;have l1:=a1l hw;have l2:=a1l hbb;have l3:=a1l hF;simp only[a2y,a0g,go_sem,a0i,a0j,a0k,a0f,hF,hw,hbb,hp.one,n1,n2,n3,l1,l2,l3,List.getElem?_set,List.getElem?_append,List.length_set,List.length_append,Nat.lt_irrefl,Nat.sub_self]
 repeat ((with_reducible refine And.intro ?_ ?_);· first | omega | (simp;omega) | exact ⟨by omega,by omega,rfl,rfl⟩)
 have hfx:bl.length=c.b.funcs.length:=hbl;have eR:(List.replicate f.bks.length [AV.val (.int .i64 0)]).flatten=(a8e c l.length f.bks 0).map I:=by rw[a3S,c2u,List.map_replicate]
 rw[eR];have hfin:=c9n (kr:=H.length) (sr:=nx) (kF:=kF) (sF:=sF) (f:=f) (H0:=(H++[(⟨nx,3,1,(a8e c l.length f.bks 0).map I⟩:VObj)]).set q.kB ⟨q.sB,28,1,bl.set c.fn (.ref H.length nx 0 f.bks.length)⟩) ((h.keep (KeepT.app _ _ _)).setB (bl.set c.fn (.ref H.length nx 0 f.bks.length))) hk hf hl
  (by rw[List.getD,List.getElem?_set_self (by omega)];rfl) (by rw[List.length_set];omega) (fun x hx=>by rcases List.mem_or_eq_of_mem_set hx with hx | rfl;exact hb1 x hx;rfl) (by rw[a0O (by have:=of_eq_true l2;omega)];simp) (by have:=(List.getElem?_eq_some_iff.1 h.e).1;omega) (by have:=(List.getElem?_eq_some_iff.1 h.d).1;omega)
  (by rw[a0O (fun e=>by rw[e]at hbb;rw[hF]at hbb;cases hbb)];exact a2r hF _) (nx+1) C (fun r H' nx' h1 h2 h3=>hC r H' nx' H.length nx h1 h2 (by have:=(List.getElem?_eq_some_iff.1 h.e).1;omega) fun i ob i1 i2 i3 i4=>h3 i ob (by rw[a0O (fun e=>i4 e.symm)];exact a2r i1 _) i2 (by have:=(List.getElem?_eq_some_iff.1 i1).1;omega))
 simp only[a2y,a0g]at hfin;refine ⟨_,?_,hfin⟩;exact Wk.mk (by simp[a0a]) ⟨[],by simp⟩ (Nat.le_refl _)
theorem c8c {c:Cx} {q:WI} {H0:List VObj} {l:List Sy} {en:List Int} {bl:List AV} {f:BF} (h:WC c q H0 l en bl) (hk:CxOk c) (hf:FnOk c f) (hr:f.r≤64) {L:LD} (hL:Least f L) (hl:l.length≤110000) (hbl:bl.length=c.b.funcs.length) (hb1:∀ x ∈ bl,x.one=true)
 {kF sF:Nat} (hF:H0[kF]? = some ⟨sF,34,1,bfL f⟩) (nx0:Nat) (C:AV→List VObj→Nat→Prop)
 (hC:∀ r H' nx' kr sr,WC c q H' (l++a2f c (L.inn.getD 0 default) (L.inn.getD 0 default).length++a1n c 0 f.bks) en (bl.set c.fn (.ref kr sr 0 f.bks.length))→H'[kr]? = some ⟨sr,3,1,(a8e c (l++a2f c (L.inn.getD 0 default) (L.inn.getD 0 default).length).length f.bks f.bks.length).map I⟩→kr≠q.kE→KeepF q H0 H'→C r H' nx') :
 VWs Tryz.prog (a2y 5 a0g) (a8D Tryz.prog [] C) ⟨[(0,.ptr q.kW q.sW 0),(1,I c.fn),(6,.ptr kF sF 0)],H0,nx0⟩:=by
 have hfi:=hf.fi;have hn0:0<f.n:=List.length_pos_iff.2 hfi.b0;have hil:L.inn.length=f.n:=hL.cl.sz.i;have hrow:(L.inn.getD 0 default).length=f.r:=hL.cl.sz.il hn0;have hpl:=hf.pl;have h40:=hk.pl;simp only[a2y,a0g,go_sem,a0i,a0j,a0k,a0f,hF];refine VCall.of_contract (b7k f hfi hr L hL) (SleL.pure rfl) fun x hx=>?_;subst hx;simp only[go_sem,a0i,a0j,a0k,a0f];refine ⟨by omega,?_⟩;generalize L.inn.getD 0 default=row at *
 refine a0r (fun x:LQ=>⟨[(0,.ptr q.kW q.sW 0),(1,I c.fn),(6,.ptr kF sF 0),(63,a7m row),(64,I row.length),(65,I x.j)],x.H,x.nx⟩)
  (fun x=>x.j≤row.length∧WC c q x.H (l++a2f c row x.j) en bl∧KeepT wT H0 x.H) (fun x=>row.length-x.j) ⟨0,H0,nx0⟩
  (Wk.mk (by simp[a0a]) ⟨[],by simp⟩ (Nat.le_refl _)) ⟨Nat.zero_le _,by simpa [a2f] using h,KeepT.refl _ _⟩ ?_
 rintro ⟨j,H,nx⟩ ⟨hj,hw0,hkp⟩;simp only at hj hw0 hkp;have hzl:=b4A c row j;by_cases hlt:j<row.length
 ·have hzs:=a8U c row j;have hz1:=b7n c row j;obtain ⟨cv,pv,hw,⟨k2,s2,rfl,hk2⟩,hp⟩:=hw0.w;have hpv:=hk.pv j (by omega);have g:c.pl.getD j default=gP c.pl j:=rfl;have wj:IntKind.i64.wrap ((j:Int)+1)=(j:Int)+1:=a0e (by omega) (by omega);have hvj:0≤(j:Int)∧(j:Int)<c.pl.length:=⟨by omega,by omega⟩
  have next:∀ H' nx',WC c q H' (l++a2f c row j++a9H c row j) en bl→KeepT wT H H'→∃ s':LQ,(s'.j≤row.length∧WC c q s'.H (l++a2f c row s'.j) en bl∧KeepT wT H0 s'.H)∧row.length-s'.j<row.length-j∧s'=⟨j+1,H',nx'⟩:=fun H' nx' h1 h2 =>
   ⟨⟨j+1,H',nx'⟩,⟨by simp only;omega,by simp only;rw[hzs,← List.append_assoc];exact h1,hkp.trans h2⟩,by simp only;omega,rfl⟩
  by_cases hb:gB row j=true
  ·have hzy:a9H c row j=if 0<gP c.pl j then [pY 1 (gP c.pl j) 0 0] else a1z c j 0:=by unfold a9H;rw[if_pos hb,b7l]
   by_cases h0:0<gP c.pl j
   ·rw[if_pos h0]at hzy;simp only[go_sem,eq_true (show (j:Int)<row.length by omega),hw,hp.one,b0p,hb,g,eq_true h0]
    repeat ((with_reducible refine And.intro ?_ ?_);· first | omega | (simp;omega))
    refine a2g hw0 (by rw[List.length_append];omega) _ _ _ _ _ _ fun r H2 nx2 h2 k2=>?_;simp only[go_sem,wj];obtain ⟨s',a1,a2,rfl⟩:=next H2 nx2 (by rw[hzy];exact h2) k2
    exact ⟨_,a1,a2,Wk.mk (by simp[a0a]) ⟨[],by simp⟩ (Nat.le_refl _)⟩
   ·rw[if_neg h0]at hzy;simp only[go_sem,eq_true (show (j:Int)<row.length by omega),hw,hp.one,b0p,hb,g,eq_false h0]
    repeat ((with_reducible refine And.intro ?_ ?_);· first | omega | (simp;omega))
    refine b1L hw0 hk (by rw[List.length_append];omega) _ _ hvj _ fun r H2 nx2 h2 k2=>?_;simp only[go_sem,wj];obtain ⟨s',a1,a2,rfl⟩:=next H2 nx2 (by rw[hzy];exact h2) k2
    exact ⟨_,a1,a2,Wk.mk (by simp[a0a]) ⟨[],by simp⟩ (Nat.le_refl _)⟩
  ·have hzy:a9H c row j=[]:=by unfold a9H;rw[if_neg hb]
   have hbf:gB row j=false:=by simpa using hb
   simp only[go_sem,eq_true (show (j:Int)<row.length by omega),hw,hp.one,b0p,hbf,g]
   repeat ((with_reducible refine And.intro ?_ ?_);· first | omega | (simp;omega))
   rw[wj];obtain ⟨s',a1,a2,rfl⟩:=next H nx (by rw[hzy,List.append_nil];exact hw0) (KeepT.refl _ _)
   exact ⟨_,a1,a2,Wk.mk (by simp[a0a]) ⟨[],by simp⟩ (Nat.le_refl _)⟩
 ·obtain rfl:j=row.length:=by omega
  simp only[go_sem,a0i,a0j,a0k,a0f,eq_false (show ¬ (row.length:Int)<row.length by omega)];have hfin:=c9q hw0 hk hf (by rw[List.length_append];omega) hbl hb1 (hkp _ _ hF (by simp)) nx C (fun r H' nx' kr sr h1 h2 h3 h4=>hC r H' nx' kr sr h1 h2 h3 ((KeepF.of hkp).trans h4));simp only[a2y,a0g]at hfin;refine ⟨_,?_,hfin⟩;exact Wk.mk (by simp[a0a]) ⟨[],by simp⟩ (Nat.le_refl _)
theorem c9r {c:Cx} {q:WI} {H0:List VObj} {l:List Sy} {en:List Int} {bl:List AV} {f:BF} (h:WC c q H0 l en bl) (hk:CxOk c) (hf:FnOk c f) (hr:f.r≤64) {L:LD} (hL:Least f L) (hl:l.length≤100000) (hbl:bl.length=c.b.funcs.length) (hb1:∀ x ∈ bl,x.one=true)
 {kF sF:Nat} (hF:H0[kF]? = some ⟨sF,34,1,bfL f⟩) (nx0:Nat) (C:AV→List VObj→Nat→Prop)
 (hC:∀ r H' nx' kr sr,WC c q H' (l++b5u c (L.inn.getD 0 default) f) en (bl.set c.fn (.ref kr sr 0 f.bks.length))→H'[kr]? = some ⟨sr,3,1,(a8e c (l++a3M c (L.inn.getD 0 default)).length f.bks f.bks.length).map I⟩→kr≠q.kE→KeepF q H0 H'→C r H' nx') :
 VWs Tryz.prog (a2y 4 a0g) (a8D Tryz.prog [] C) ⟨[(0,.ptr q.kW q.sW 0),(1,I c.fn),(6,.ptr kF sF 0)],H0,nx0⟩:=by
 have h20:=hk.fs;have hfl:=hk.fl;have hbk:=hk.bk;have w1:IntKind.i64.wrap ((c.b.funcs.length:Int)-1)=(c.b.funcs.length:Int)-1:=a0e (by omega) (by omega);have w2:IntKind.i64.wrap (c.back+c.fn)=c.back+c.fn:=a0e (by omega) (by omega);obtain ⟨cv,pv,hw,hcc,hp⟩:=h.w;generalize hrow:L.inn.getD 0 default=row at *
 by_cases hlast:(c.fn:Int)=(c.b.funcs.length:Int)-1
 ·have eh:a3M c row=a2f c row row.length:=by unfold a3M;rw[if_pos hlast];rfl
  simp only[a2y,a0g,go_sem,a0i,a0j,a0k,a0f,hF,hw,hcc.one,hp.one,w1,w2,eq_true hlast,show ((c.fn:Int) != (c.b.funcs.length:Int)-1)=false from by simp[hlast]];have hfin:=c8c h hk hf hr hL (by omega) hbl hb1 hF nx0 C (fun r H' nx' kr sr h1 h2 h3 h4=>by
   rw[hrow]at h1 h2;rw[← eh]at h1 h2;exact hC r H' nx' kr sr (by unfold b5u;rw[← List.append_assoc];exact h1) h2 h3 h4)
  simp only[a2y,a0g]at hfin;refine ⟨_,?_,hfin⟩;exact Wk.mk (by simp[a0a]) ⟨[],by simp⟩ (Nat.le_refl _)
 ·have eh:a3M c row=[pY 17 12 0 (c.back+c.fn)]++a2f c row row.length:=by unfold a3M;rw[if_neg hlast]
  simp only[a2y,a0g,go_sem,a0i,a0j,a0k,a0f,hF,hw,hcc.one,hp.one,w1,w2,eq_false hlast,beq_false_of_ne hlast];refine a2g h (by omega) _ _ _ _ _ _ fun r H2 nx2 h2 k2=>?_;simp only[go_sem,a0i,a0j,a0k,a0f];have hfin:=c8c h2 hk hf hr hL (by simp;omega) hbl hb1 (k2 _ _ hF (by simp)) nx2 C (fun r H' nx' kr sr h1 h2 h3 h4=>by
   rw[hrow]at h1 h2;rw[List.append_assoc l,← eh]at h1 h2;exact hC r H' nx' kr sr (by unfold b5u;rw[← List.append_assoc];exact h1) h2 h3 ((KeepF.of k2).trans h4))
  simp only[a2y,a0g]at hfin;refine ⟨_,?_,hfin⟩;exact Wk.mk (by simp[a0a]) ⟨[],by simp⟩ (Nat.le_refl _)
theorem WH.setW {b:BP} {ws:List Int} {back fn fn':Int} {plv plv':AV} {q:WI} {H:List VObj} {code:List Ci} {sp:List Sp} {en:List Int} {bl:List AV} (h:WH b ws back fn plv q H code sp en bl) {cv pv:AV} (hw:H[q.kW]? = some ⟨q.sW,78,1,wrL b back fn plv q cv pv⟩) :
 WH b ws back fn' plv' q (H.set q.kW ⟨q.sW,78,1,wrL b back fn' plv' q cv pv⟩) code sp en bl:=by
 obtain ⟨cv',pv',hw',⟨k1,s1,e1,hc⟩,⟨k2,s2,e2,hp⟩⟩:=h.w;rw[hw]at hw';simp only[Option.some.injEq,VObj.mk.injEq,List.cons.injEq,true_and,and_true]at hw';obtain ⟨rfl,rfl⟩:=hw';have t:∀ {i:Nat} {ob:VObj} {o:VObj},H[i]? = some ob→ob.ty≠78→(H.set q.kW o)[i]? = some ob:=fun {i ob o} h1 h2=>by
  rw[a0O (fun e=>by subst e;rw[hw]at h1;cases h1;exact h2 rfl)];exact h1
 exact ⟨⟨cv,pv,a0N hw,⟨k1,s1,e1,t hc (by simp)⟩,⟨k2,s2,e2,t hp (by simp)⟩⟩,t h.e (by simp),t h.b (by simp),t h.d (by simp)⟩
theorem WH.setE {b:BP} {ws:List Int} {back fn:Int} {plv:AV} {q:WI} {H:List VObj} {code:List Ci} {sp:List Sp} {en:List Int} {bl:List AV} (h:WH b ws back fn plv q H code sp en bl) (hD:q.kE≠q.kD) (en':List Int) :
 WH b ws back fn plv q (H.set q.kE ⟨q.sE,3,1,en'.map I⟩) code sp en' bl:=by
 obtain ⟨cv,pv,hw,⟨k1,s1,e1,hc⟩,⟨k2,s2,e2,hp⟩⟩:=h.w;have he:=h.e;have t:∀ {i:Nat} {ob:VObj} {o:VObj},H[i]? = some ob→ob.ty≠3→(H.set q.kE o)[i]? = some ob:=fun {i ob o} h1 h2=>by
  rw[a0O (fun e=>by subst e;rw[he]at h1;cases h1;exact h2 rfl)];exact h1
 exact ⟨⟨cv,pv,t hw (by simp),⟨k1,s1,e1,t hc (by simp)⟩,⟨k2,s2,e2,t hp (by simp)⟩⟩,a0N he,t h.b (by simp),by rw[a0O hD];exact h.d⟩
theorem c0x {fn0:Int} {plv0:AV} {c:Cx} {q:WI} {H:List VObj} {l:List Sy} {en:List Int} {bl:List AV} {f:BF} (h0:plv0.one=true) (h:WH c.b c.ws c.back fn0 plv0 q H (l.map (·.1)) (a1u 0 l) en bl) (hk:CxOk c) (hf:FnOk c f) (hr:f.r≤64) {L:LD} (hL:Least f L) (hl:l.length≤100000)
 (hen:en.length=c.b.funcs.length) (hbl:bl.length=c.b.funcs.length) (hb1:∀ x ∈ bl,x.one=true) (hED:q.kE≠q.kD) (nx:Nat) (C:AV→List VObj→Nat→Prop)
 (hC:∀ r H' nx' kr sr,WC c q H' (l++b5u c (L.inn.getD 0 default) f) (en.set c.fn (l.length:Nat)) (bl.set c.fn (.ref kr sr 0 f.bks.length))→H'[kr]? = some ⟨sr,3,1,(a8e c (l++a3M c (L.inn.getD 0 default)).length f.bks f.bks.length).map I⟩→kr≠q.kE→KeepF q H H'→C r H' nx') :
 VCall Tryz.prog 26 [.ptr q.kW q.sW 0,I c.fn,alA c.pl] H nx C:=by
 have hq:=a5j;unfold a0z b2z at hq;refine VCall.of_bodyS (pt:=false) (pf:=false) a1g hq (by simp) ?_;have hfl:=hk.fl;obtain ⟨cv,pv,hw,hcc,hp⟩:=h.w;have n1:=a2p hw;have n2:=b5p hw;have l1:=a1l hw;simp only[a0g,go_sem,a0i,a0j,a0k,a0f];refine ⟨_,Wk.refl _,?_⟩;simp only[go_sem,a0i,a0j,a0k,a0f,n1,l1,hw,hcc.one,hp.one,h0,hf.fe,List.getElem?_set,List.getElem?_append,List.length_set,List.length_append,Nat.lt_irrefl,Nat.sub_self];refine ⟨hfl,?_⟩;have eH:∀ x y z:VObj,(H++[x]++[y]).set (H.length+1) z=H++[x]++[z]:=fun x y z=>by simp
 rw[eH];have hA:(H++[(⟨nx,30,1,[a2t c.pl]⟩:VObj)]++[⟨nx+1,34,1,bfL f⟩])[H.length]? = some ⟨nx,30,1,[a2t c.pl]⟩:=a2r (by simp) _;have hF:(H++[(⟨nx,30,1,[a2t c.pl]⟩:VObj)]++[⟨nx+1,34,1,bfL f⟩])[H.length+1]? = some ⟨nx+1,34,1,bfL f⟩:=c7R _ _ _;have hK:KeepT [] H (H++[(⟨nx,30,1,[a2t c.pl]⟩:VObj)]++[⟨nx+1,34,1,bfL f⟩]):=(KeepT.app _ _ _).trans (KeepT.app _ _ _);have hW1:=h.keep hK;have hw1:=hK _ _ hw (by simp);generalize (H++[(⟨nx,30,1,[a2t c.pl]⟩:VObj)]++[⟨nx+1,34,1,bfL f⟩])=H1 at *
 refine ⟨⟨[(0,.ptr q.kW q.sW 0),(1,I c.fn),(5,.ptr H.length nx 0),(6,.ptr (H.length+1) (nx+1) 0)],H1,nx+1+1⟩,Wk.mk (by simp[a0a]) ⟨[],by simp⟩ (Nat.le_refl _),?_⟩;generalize H.length=kA at *
 have l2:=a1l hw1;have o1:=a2L hw1 hA (by simp);have o2:=a2L hA hw1 (by simp);simp only[go_sem,a0i,a0j,a0k,a0f,l2,o1,o2,hw1,hA,hcc.one,hp.one,h0,List.getElem?_set,List.length_set];have hW2:WC c q (H1.set q.kW ⟨q.sW,78,1,wrL c.b c.back c.fn (a2t c.pl) q cv pv⟩) l en bl:=hW1.setW hw1;have hF2:(H1.set q.kW ⟨q.sW,78,1,wrL c.b c.back c.fn (a2t c.pl) q cv pv⟩)[kA+1]? = some ⟨nx+1,34,1,bfL f⟩:=by
  rw[a0O (fun e=>by rw[e]at hw1;rw[hF]at hw1;simp at hw1)];exact hF
 have hK2:KeepT wT H (H1.set q.kW ⟨q.sW,78,1,wrL c.b c.back c.fn (a2t c.pl) q cv pv⟩):=(hK.mono (by simp)).trans (KeepT.set hw1 (by simp));have fin:VWs Tryz.prog (a2y 3 a0g) (a8D Tryz.prog [] C) ⟨[(0,.ptr q.kW q.sW 0),(1,I c.fn),(6,.ptr (kA+1) (nx+1) 0)],H1.set q.kW ⟨q.sW,78,1,wrL c.b c.back c.fn (a2t c.pl) q cv pv⟩,nx+1+1⟩:=by
  generalize H1.set q.kW ⟨q.sW,78,1,wrL c.b c.back c.fn (a2t c.pl) q cv pv⟩=H2 at *
  obtain ⟨cw,pw,hw2,⟨k2,s2,rfl,hk2⟩,hp2⟩:=hW2.w;have he2:=hW2.e;have l3:=a1l he2;have l4:=a1l hw2;simp only[a2y,a0g,go_sem,a0i,a0j,a0k,a0f,l3,l4,he2,hw2,hp2.one,hk2,List.getElem?_set,List.length_set]
  repeat ((with_reducible refine And.intro ?_ ?_);· first | omega | (simp;omega) | exact ⟨by omega,by omega,rfl,rfl⟩)
  rw[← List.map_set];have hfin:=c9r (f:=f) (kF:=kA+1) (sF:=nx+1) (H0:=H2.set q.kE ⟨q.sE,3,1,(en.set c.fn (l.length:Nat)).map I⟩) (hW2.setE hED (en.set c.fn (l.length:Nat))) hk hf hr hL hl hbl hb1 (by rw[a0O (fun e=>by rw[e]at he2;rw[hF2]at he2;simp at he2)];exact hF2) (nx+1+1) C (fun r H' nx' kr sr h1 h2 h3 h4=>hC r H' nx' kr sr h1 h2 h3 fun i ob i1 i2 i3 i4=>h4 i ob (by rw[a0O (fun e=>i3 e.symm)];exact hK2 _ _ i1 i2) i2 i3 i4);simp only[a2y,a0g]at hfin;refine ⟨_,?_,hfin⟩;exact Wk.mk (by simp[a0a]) ⟨[],by simp⟩ (Nat.le_refl _)
 simp only[a2y,a0g]at fin;constructor
 all_goals
  rw[List.set_set];refine ⟨_,?_,fin⟩;exact Wk.mk (by simp[a0a]) ⟨[],by simp⟩ (Nat.le_refl _)
set_option maxRecDepth 10000
open Go.V
theorem c0y {H:List VObj} {nx id s ty:Nat} {l:List Int} {len:Nat} (ho:H[id]? = some ⟨s,ty,1,l.map U32⟩) (hlen:len=l.length):FrzN H nx (.ref id s 0 len) (.imm 1 (l.map U32)) :=
 a9k (f:=fun n=>.int .u32 n) ho hlen fun _=>rfl
abbrev c8R (code:List Int) (data:Int):AV:=.agg [.imm 1 (code.map U32),I data]
abbrev ofA (b:BP) (ls:List (List Int)) (rw:Nat→List Bool):AV:=.tup [c8R (a9I b ls rw) (a1M b ls),I 0]
abbrev ofC (b:BP) (ls:List (List Int)) (rw:Nat→List Bool):AV→List VObj→Nat→Prop:=fun r H nx=>∃ y,FrzN H nx r y∧y=ofA b ls rw
structure OfH (b:BP) (ls:List (List Int)) (rw:Nat→List Bool):Prop where
 f:FairP b ls
 n:∀ f ∈ b.funcs,∀ k ∈ f.bks,∀ t ∈ k.ins,a1b t.n
 r:∀ i<b.funcs.length,∃ L,Least (fO b i) L∧rw i=L.inn.getD 0 default
 p:∀ pl ∈ ls,pl.length≤140737488355328
theorem OfH.rl {b:BP} {ls:List (List Int)} {rw:Nat→List Bool} (h:OfH b ls rw):∀ i<b.funcs.length,(rw i).length≤(fO b i).r:=fun i hi=>by
 obtain ⟨L,hL,e⟩:=h.r i hi;rw[e,show (L.inn.getD 0 default).length=(fO b i).r from hL.cl.sz.il (List.length_pos_iff.2 (h.f.few.fine hi).1.b0)];exact Nat.le_refl _
structure OI (b:BP) (ls:List (List Int)) (rw:Nat→List Bool) (q:WI) (H:List VObj) (bl:List AV) (o:List Nat):Prop where
 w:∃ fn plv,plv.one=true∧WH b (wsO b ls) (b.words+a2J ls) fn plv q H ((b2n b ls rw o).l.map (·.1)) (a1u 0 (b2n b ls rw o).l) (b2n b ls rw o).en bl
 bln:bl.length=b.funcs.length
 one:∀ x ∈ bl,x.one=true
 rows:∀ i ∈ o,∃ kr sr,bl.getD i .dead = .ref kr sr 0 ((b2n b ls rw o).rows.getD i []).length∧H[kr]? = some ⟨sr,3,1,((b2n b ls rw o).rows.getD i []).map I⟩∧kr≠q.kE
 im:H[1]? = some ⟨1,42,1,[a0T,I 0]⟩
section
variable {b:BP} {ls:List (List Int)} {rw:Nat→List Bool}
set_option maxHeartbeats 1000000 in
theorem c9N (h:OfH b ls rw) {q:WI} {H:List VObj} {bl:List AV} (hO:OI b ls rw q H bl (b3Q b.funcs.length (b.funcs.length-1))) (nx:Nat) :
 VWs Tryz.prog (a2y 11 a1a) (a8D Tryz.prog [.cell 4 true 2,.tmp 5] (ofC b ls rw)) ⟨[(4,.ptr 1 1 0),(6,.ptr q.kW q.sW 0),(7,I (a1M b ls))],H,nx⟩:=by
 obtain ⟨hj,hok⟩:=c2t h.f h.n h.rl;obtain ⟨fn,plv,hp1,hw⟩:=hO.w;have hR:RunP b (a3I b ls rw) _ _:=RunP.all h.f h.n h.rl (b.funcs.length-1) (Nat.le_refl _);have hB:=a5s h.f (b.funcs.length-1) (Nat.le_refl _);have hlen:=hR.len;have hrows:RowsH H bl (a3I b ls rw).rows:=⟨by rw[hO.bln,hR.rows],fun i hi=>by
  obtain ⟨kr,sr,e1,e2,_⟩:=hO.rows i (b5x (by rw[← hR.rows];exact hi));exact ⟨kr,sr,e1,e2⟩⟩
 have him:=hO.im;simp only[a2y,a1a,go_sem,a0i,a0j,a0k,a0f];refine c3V (l:=(a3I b ls rw).l) (en:=(a3I b ls rw).en) (rows:=(a3I b ls rw).rows) hp1 hw hrows hO.bln hR.en h.f.few.l hj (by omega) hok nx _ fun H' nx' k s hk kp=>?_;have him':=kp _ _ him (by simp);simp only[go_sem,a0i,a0j,a0k,a0f];refine ⟨_,Wk.refl _,?_⟩;simp only[go_sem,a0i,a0j,a0k,a0f,Int.reduceEq,bne_self_eq_false];refine ⟨_,Wk.refl _,?_⟩;have l1:=a1l him';simp only[go_sem,a0i,a0j,a0k,a0f,him',l1,List.getElem?_set];have hk1:(H'.set 1 ⟨1,42,1,[.ref k s 0 (a3I b ls rw).l.length,I (a1M b ls)]⟩)[k]? = some ⟨s,93,1,(a9I b ls rw).map U32⟩:=by
  rw[a0O (fun e=>by rw[← e,him']at hk;simp at hk)];exact hk
 have hk2:(H'.set 1 ⟨1,42,1,[.ref k s 0 (a3I b ls rw).l.length,I (a1M b ls)]⟩)[1]? = some ⟨1,42,1,[.ref k s 0 (a3I b ls rw).l.length,I (a1M b ls)]⟩:=a0N him';have hcl:(a3I b ls rw).l.length=(a9I b ls rw).length:=by simp[a9I,b3y]
 generalize H'.set 1 ⟨1,42,1,[.ref k s 0 (a3I b ls rw).l.length,I (a1M b ls)]⟩=HX at *
 refine ⟨_,Wk.refl _,?_⟩;simp only[go_sem,a0i,a0j,a0k,a0f,hk2];exact ⟨_,FrzN.tup ⟨_,_,rfl,FrzN.agg ⟨_,_,rfl,c0y hk1 hcl,_,_,rfl,FrzN.val,rfl⟩,_,_,rfl,FrzN.val,rfl⟩,rfl⟩
structure OfQ where
 j:Nat
 H:List VObj
 nx:Nat
 bl:List AV
theorem OI.step (h:OfH b ls rw) {q:WI} {H:List VObj} {bl:List AV} {o:List Nat} (hO:OI b ls rw q H bl o) (hED:q.kE≠q.kD) (h1B:1≠q.kB) (h1E:1≠q.kE) {i:Nat} (hi:i<b.funcs.length) (hol:(b2n b ls rw o).l.length≤100000) (hoe:(b2n b ls rw o).en.length=b.funcs.length) (hor:(b2n b ls rw o).rows.length=b.funcs.length) (nx:Nat) (C:AV→List VObj→Nat→Prop)
 (hC:∀ r H' nx' bl',OI b ls rw q H' bl' (o++[i])→H'[0]? = H'[0]?→(∀ ob,H[0]? = some ob→ob.ty ∉ wT→0≠q.kE→0≠q.kB→H'[0]? = some ob)→C r H' nx') :
 VCall Tryz.prog 26 [.ptr q.kW q.sW 0,I (i:Nat),alA (ls.getD i default)] H nx C:=by
 obtain ⟨fn,plv,hp1,hw⟩:=hO.w;obtain ⟨L,hL,hrow⟩:=h.r i hi;have hcx:=h.f.cx hi;refine c0x (c:=cxO b ls i) hp1 hw hcx.ok (h.f.fn h.n hi) (by have:=(h.f.few.fine hi).2.1;show (b.funcs.getD i default).r≤64;omega) hL hol hoe hO.bln hO.one hED nx C fun r H' nx' kr sr w1 w2 w3 w4=>?_;rw[← hrow]at w1 w2;have hrowlen:(a8e (cxO b ls i) ((b2n b ls rw o).l++a3M (cxO b ls i) (rw i)).length (fO b i).bks (fO b i).bks.length).length=(fO b i).bks.length:=b5w _ _ _ _;refine hC r H' nx' _ ⟨⟨_,_,rfl,by rw[a9J];exact w1⟩,by rw[List.length_set];exact hO.bln,fun x hx=>?_,fun j hj=>?_,w4 _ _ hO.im (by simp) h1E h1B⟩ rfl fun ob g1 g2 g3 g4=>w4 _ _ g1 g2 g3 g4
 ·rcases List.mem_or_eq_of_mem_set hx with hx | rfl
  ·exact hO.one x hx
  ·rfl
 ·rw[a9J];simp only[a4w];by_cases e:i=j
  ·subst e;refine ⟨kr,sr,?_,?_,w3⟩
   ·have eb:(bl.set (cxO b ls i).fn (AV.ref kr sr 0 (fO b i).bks.length)).getD i .dead = .ref kr sr 0 (fO b i).bks.length:=by
     show ((bl.set i _)[i]?).getD _=_;rw[List.getElem?_set_self (by rw[hO.bln];exact hi)];rfl
    rw[eb,List.getD,List.getElem?_set_self (by rw[hor];exact hi),Option.getD_some,hrowlen]
   ·rw[List.getD,List.getElem?_set_self (by rw[hor];exact hi),Option.getD_some];exact w2
  ·have hj':j ∈ o:=by
    rcases List.mem_append.1 hj with hj | hj
    ·exact hj
    ·exact absurd (List.mem_singleton.1 hj).symm e
   obtain ⟨kr',sr',e1,e2,e3⟩:=hO.rows j hj';refine ⟨kr',sr',?_,?_,e3⟩
   ·have eb:(bl.set (cxO b ls i).fn (AV.ref kr sr 0 (fO b i).bks.length)).getD j .dead=bl.getD j .dead:=by
     show ((bl.set i _)[j]?).getD _=_;rw[List.getElem?_set_ne e];rfl
    rw[eb,e1,List.getD,List.getD,List.getElem?_set_ne e]
   ·rw[List.getD,List.getElem?_set_ne e];exact w4 _ _ e2 (by simp) e3 (fun eb=>by
     obtain ⟨_,_,_,hww⟩:=hO.w;have hb:=hww.b;rw[← eb,e2]at hb;simp at hb)
set_option maxHeartbeats 1000000 in
theorem c9O (h:OfH b ls rw) {q:WI} {H0:List VObj} {bl0:List AV} (hO:OI b ls rw q H0 bl0 (b3Q b.funcs.length 0)) (hED:q.kE≠q.kD) (h1B:1≠q.kB) (h1E:1≠q.kE) (nx0:Nat) :
 VWs Tryz.prog (a2y 9 a1a) (a8D Tryz.prog [.cell 4 true 2,.tmp 5] (ofC b ls rw)) ⟨[(1,b5I ls),(4,.ptr 1 1 0),(6,.ptr q.kW q.sW 0),(7,I (a1M b ls)),(9,I ((b.funcs.length:Int)-1))],H0,nx0⟩:=by
 have h20:=h.f.few.l;have hw0:=h.f.words;have hll:=h.f.hold.len;simp only[a2y,a1a,go_sem,a0i,a0j,a0k,a0f];refine a0r (fun x:OfQ=>⟨[(1,b5I ls),(4,.ptr 1 1 0),(6,.ptr q.kW q.sW 0),(7,I (a1M b ls)),(9,I ((b.funcs.length:Int)-1)),(10,I x.j)],x.H,x.nx⟩)
  (fun x=>x.j≤b.funcs.length-1∧OI b ls rw q x.H x.bl (b3Q b.funcs.length x.j)) (fun x=>b.funcs.length-1-x.j) ⟨0,H0,nx0,bl0⟩
  (Wk.mk (by simp[a0a]) ⟨[],by simp⟩ (Nat.le_refl _)) ⟨Nat.zero_le _,hO⟩ ?_
 rintro ⟨j,H,nx,bl⟩ ⟨hj,hO⟩;simp only at hj hO;have hR:=RunP.all h.f h.n h.rl j hj;have hB:=a5s h.f j hj;have hlen:=hR.len;by_cases hlt:j<b.funcs.length-1
 ·simp only[go_sem,eq_true (show (j:Int)<(b.funcs.length:Int)-1 by omega)]
  repeat ((with_reducible refine And.intro ?_ ?_);· first | omega | (simp;omega))
  refine hO.step h hED h1B h1E (by omega) (by omega) hR.en hR.rows _ _ fun r H' nx' bl' hO' _ _=>?_;have hR':=RunP.all h.f h.n h.rl (j+1) (by omega);have hB':=a5s h.f (j+1) (by omega);have hlen':=hR'.len;rw[← b3s]at hO';obtain ⟨fn,plv,hp1,hw⟩:=hO'.w;obtain ⟨cv,pv,hww,⟨kC,sC,rfl,hkC⟩,hp⟩:=hw.w;have hml:((b2n b ls rw (b3Q b.funcs.length (j+1))).l.map (·.1)).length=(b2n b ls rw (b3Q b.funcs.length (j+1))).l.length:=by simp
  simp only[go_sem,hww,hkC,hp1,hp.one,eq_false (show ¬ 16384<(((b2n b ls rw (b3Q b.funcs.length (j+1))).l.length:Nat):Int) by omega)];rw[a0e (n:=(j:Int)+1) (by omega) (by omega)];exact ⟨⟨j+1,H',nx',bl'⟩,⟨by simp only;omega,hO'⟩,by simp only;omega,Wk.mk (by simp[a0a]) ⟨[],by simp⟩ (Nat.le_refl _)⟩
 ·obtain rfl:j=b.funcs.length-1:=by omega
  simp only[go_sem,a0i,a0j,a0k,a0f,eq_false (show ¬ ((b.funcs.length-1:Nat):Int)<(b.funcs.length:Int)-1 by omega)];refine ⟨_,Wk.refl _,?_⟩;obtain ⟨fn,plv,hp1,hw⟩:=hO.w;obtain ⟨cv,pv,hww,⟨kC,sC,rfl,hkC⟩,hp⟩:=hw.w;simp only[go_sem,a0i,a0j,a0k,a0f,hww,hkC,hp1,hp.one,eq_false (show ¬ 16384<(((b2n b ls rw (b3Q b.funcs.length (b.funcs.length-1))).l.length:Nat):Int) by omega)];have hfin:=c9N h hO nx;simp only[a2y,a1a]at hfin;refine ⟨_,?_,hfin⟩;exact Wk.mk (by simp[a0a]) ⟨[],by simp⟩ (Nat.le_refl _)
end
set_option maxRecDepth 10000
open Go.V
section
variable {b:BP} {ls:List (List Int)} {rw:Nat→List Bool}
theorem c9P (h:OfH b ls rw) {q:WI} {H:List VObj} {bl:List AV} (hO:OI b ls rw q H bl []) (hED:q.kE≠q.kD) (h1B:1≠q.kB) (h1E:1≠q.kE) (h0:H[0]? = some ⟨0,24,1,[I b.words,.imm 2 (b.funcs.map bfA)]⟩) (nx:Nat) :
 VWs Tryz.prog (a2y 7 a1a) (a8D Tryz.prog [.cell 4 true 2,.tmp 5] (ofC b ls rw)) ⟨[(1,b5I ls),(2,.ptr 0 0 0),(4,.ptr 1 1 0),(6,.ptr q.kW q.sW 0),(7,I (a1M b ls))],H,nx⟩:=by
 have h20:=h.f.few.l;have hw0:=h.f.words;have hll:=h.f.hold.len;have w1:IntKind.i64.wrap ((b.funcs.length:Int)-1)=(b.funcs.length:Int)-1:=a0e (by omega) (by omega);have e1:((b.funcs.length:Int)-1).toNat=b.funcs.length-1:=by omega
 have e2:(b.funcs.length:Int)-1=((b.funcs.length-1:Nat):Int):=by omega
 simp only[a2y,a1a,go_sem,a0i,a0j,a0k,a0f,h0,w1];refine ⟨_,Wk.refl _,?_⟩;simp only[go_sem,a0i,a0j,a0k,a0f,w1,e1]
 repeat ((with_reducible refine And.intro ?_ ?_);· first | omega | (simp;omega))
 rw[e2];refine hO.step h hED h1B h1E (i:=b.funcs.length-1) (by omega) (by simp[b2n]) (by simp[b2n]) (by simp[b2n]) _ _ fun r H' nx' bl' hO' _ _=>?_;have hfin:=c9O h (show OI b ls rw q H' bl' (b3Q b.funcs.length 0) from hO') hED h1B h1E nx';rw[e2]at hfin;simp only[go_sem,a0i,a0j,a0k,a0f];simp only[a2y,a1a]at hfin;refine ⟨_,?_,hfin⟩;exact Wk.mk (by simp[a0a]) ⟨[],by simp⟩ (Nat.le_refl _)
def wsJ (b:BP) (ls:List (List Int)) (k:Nat):List Int:=(List.range b.funcs.length).map fun i=>if i<k then b.words+a2J (ls.take i) else 0
theorem c6n (k:Nat):(wsJ b ls k).length=b.funcs.length:=by simp[wsJ]
theorem c6o {k:Nat} (hk:k<b.funcs.length):(wsJ b ls k).set k (b.words+a2J (ls.take k))=wsJ b ls (k+1):=by
 refine List.ext_getElem (by simp[wsJ]) fun j h1 h2=>?_;rw[List.getElem_set];simp only[wsJ,List.getElem_map,List.getElem_range];by_cases e:k=j
 ·subst e;rw[if_pos rfl,if_pos (by omega)]
 ·rw[if_neg e];by_cases h:j<k
  ·rw[if_pos h,if_pos (by omega)]
  ·rw[if_neg h,if_neg (by omega)]
theorem c6p:wsJ b ls b.funcs.length=wsO b ls:=List.ext_getElem (by simp[wsJ,wsO]) fun j h1 h2=>by
 have hj:j<b.funcs.length:=by simpa [wsJ] using h1
 simp[wsJ,wsO,hj]
theorem c3Z:wsJ b ls 0=List.replicate b.funcs.length 0:=List.ext_getElem (by simp[wsJ]) fun j h1 h2=>by simp[wsJ]
theorem WH.setD {ws ws':List Int} {back fn:Int} {plv:AV} {q:WI} {H:List VObj} {code:List Ci} {sp:List Sp} {en:List Int} {bl:List AV} (h:WH b ws back fn plv q H code sp en bl) (hD:q.kE≠q.kD):WH b ws' back fn plv q (H.set q.kD ⟨q.sD,3,1,ws'.map I⟩) code sp en bl:=by
 obtain ⟨cv,pv,hw,⟨k1,s1,e1,hc⟩,⟨k2,s2,e2,hp⟩⟩:=h.w;have hd:=h.d;have t:∀ {i:Nat} {ob:VObj} {o:VObj},H[i]? = some ob→ob.ty≠3→(H.set q.kD o)[i]? = some ob:=fun {i ob o} h1 h2=>by
  rw[a0O (fun e=>by subst e;rw[hd]at h1;cases h1;exact h2 rfl)];exact h1
 exact ⟨⟨cv,pv,t hw (by simp),⟨k1,s1,e1,t hc (by simp)⟩,⟨k2,s2,e2,t hp (by simp)⟩⟩,by rw[a0O (fun e=>hD e.symm)];exact h.e,t h.b (by simp),a0N hd⟩
theorem WH.setBack {ws:List Int} {back back' fn:Int} {plv:AV} {q:WI} {H:List VObj} {code:List Ci} {sp:List Sp} {en:List Int} {bl:List AV} (h:WH b ws back fn plv q H code sp en bl) {cv pv:AV} (hw:H[q.kW]? = some ⟨q.sW,78,1,wrL b back fn plv q cv pv⟩) :
 WH b ws back' fn plv q (H.set q.kW ⟨q.sW,78,1,wrL b back' fn plv q cv pv⟩) code sp en bl:=by
 obtain ⟨cv',pv',hw',⟨k1,s1,e1,hc⟩,⟨k2,s2,e2,hp⟩⟩:=h.w;rw[hw]at hw';simp only[Option.some.injEq,VObj.mk.injEq,List.cons.injEq,true_and,and_true]at hw';obtain ⟨rfl,rfl⟩:=hw';have t:∀ {i:Nat} {ob:VObj} {o:VObj},H[i]? = some ob→ob.ty≠78→(H.set q.kW o)[i]? = some ob:=fun {i ob o} h1 h2=>by
  rw[a0O (fun e=>by subst e;rw[hw]at h1;cases h1;exact h2 rfl)];exact h1
 exact ⟨⟨cv,pv,a0N hw,⟨k1,s1,e1,t hc (by simp)⟩,⟨k2,s2,e2,t hp (by simp)⟩⟩,t h.e (by simp),t h.b (by simp),t h.d (by simp)⟩
set_option maxHeartbeats 1000000 in
theorem c9Q (h:OfH b ls rw) {q:WI} {H0:List VObj} (hW:WH b (List.replicate b.funcs.length 0) 0 0 a0T q H0 [] [] (List.replicate b.funcs.length 0) (List.replicate b.funcs.length a0T)) (hED:q.kE≠q.kD) (h1B:1≠q.kB) (h1E:1≠q.kE) (h1D:1≠q.kD) (h0D:0≠q.kD)
 (h0:H0[0]? = some ⟨0,24,1,[I b.words,.imm 2 (b.funcs.map bfA)]⟩) (h1:H0[1]? = some ⟨1,42,1,[a0T,I 0]⟩) (nx0:Nat) :
 VWs Tryz.prog (a2y 2 a1a) (a8D Tryz.prog [.cell 4 true 2,.tmp 5] (ofC b ls rw)) ⟨[(1,b5I ls),(2,.ptr 0 0 0),(4,.ptr 1 1 0),(6,.ptr q.kW q.sW 0)],H0,nx0⟩:=by
 have h20:=h.f.few.l;have hw0:=h.f.words;have hll:=h.f.hold.len;simp only[a2y,a1a,go_sem,a0i,a0j,a0k,a0f,h0];refine ⟨_,Wk.refl _,?_⟩;simp only[go_sem,a0i,a0j,a0k,a0f,h0];refine a0r (fun x:LQ=>⟨[(1,b5I ls),(2,.ptr 0 0 0),(4,.ptr 1 1 0),(6,.ptr q.kW q.sW 0),(7,I (b.words+a2J (ls.take x.j))),(31,I b.funcs.length),(32,I x.j)],x.H,x.nx⟩)
  (fun x=>x.j≤b.funcs.length∧WH b (wsJ b ls x.j) 0 0 a0T q x.H [] [] (List.replicate b.funcs.length 0) (List.replicate b.funcs.length a0T)∧x.H[0]? = some ⟨0,24,1,[I b.words,.imm 2 (b.funcs.map bfA)]⟩∧x.H[1]? = some ⟨1,42,1,[a0T,I 0]⟩) (fun x=>b.funcs.length-x.j) ⟨0,H0,nx0⟩
  (Wk.mk (by simp[a0a,a2J]) ⟨[],by simp⟩ (Nat.le_refl _)) ⟨Nat.zero_le _,by rw[c3Z];exact hW,h0,h1⟩ ?_
 rintro ⟨j,H,nx⟩ ⟨hj,hwj,g0,g1⟩;simp only at hj hwj g0 g1;obtain ⟨cv,pv,hw,hcc,hp⟩:=hwj.w;have hd:=hwj.d;have l1:=a1l hd;have ht:=h.f.tot j (by omega);by_cases hlt:j<b.funcs.length
 ·have hst:=a7I ls (show j<ls.length by omega);have ht':=h.f.tot (j+1) (by omega);have hwd:=h.f.hold.wds j (by omega);simp only[go_sem,eq_true (show (j:Int)<b.funcs.length by omega),hw,hd,l1,hcc.one,hp.one,c6n]
  repeat ((with_reducible refine And.intro ?_ ?_);· first | omega | (simp;omega) | exact ⟨by omega,by omega,rfl,rfl⟩)
  refine VCall.of_contract (c3N (ls.getD j default) (h.p _ (a0q (by omega)))) (SleL.pure rfl) fun x hx=>?_;subst hx;simp only[go_sem];rw[a0e (n:=(j:Int)+1) (by omega) (by omega),a0e (n:=b.words+a2J (ls.take j)+_) (by omega) (by omega),show ((wsJ b ls j).map I).set j (I (b.words+a2J (ls.take j)))=(wsJ b ls (j+1)).map I by rw[← c6o hlt,List.map_set]];refine ⟨⟨j+1,H.set q.kD ⟨q.sD,3,1,(wsJ b ls (j+1)).map I⟩,nx⟩,⟨by simp only;omega,hwj.setD hED,by simp only;rw[a0O (fun e=>h0D e.symm)];exact g0,by simp only;rw[a0O (fun e=>h1D e.symm)];exact g1⟩,by simp only;omega,?_⟩;exact Wk.mk (by simp[a0a,hst];omega) ⟨[],by simp⟩ (Nat.le_refl _)
 ·obtain rfl:j=b.funcs.length:=by omega
  rw[c6p]at hwj;have htT:a2J (ls.take b.funcs.length)=a2J ls:=by rw[List.take_of_length_le (by omega)]
  rw[htT]at ht;have lW:=a1l hw;have hwb:=hwj.setBack (back':=b.words+a2J ls) hw;have w1:IntKind.i64.wrap ((b.funcs.length:Int)-1)=(b.funcs.length:Int)-1:=a0e (by omega) (by omega);have w2:IntKind.i64.wrap (b.words+a2J ls+((b.funcs.length:Int)-1))=a1M b ls:=by unfold a1M;exact a0e (by omega) (by omega)
  have o0:(q.kW=0)=False:=eq_false (fun e=>by rw[e,g0]at hw;simp at hw);simp only[go_sem,a0i,a0j,a0k,a0f,eq_false (show ¬ (b.funcs.length:Int)<b.funcs.length by omega),hw,htT,hcc.one,hp.one,lW];refine ⟨_,Wk.refl _,?_⟩;simp only[go_sem,a0i,a0j,a0k,a0f,hw,htT,hcc.one,hp.one,lW];have hdO:a1M b ls=b.words+a2J ls+((b.funcs.length:Int)-1):=rfl;have g0':(H.set q.kW ⟨q.sW,78,1,wrL b (b.words+a2J ls) 0 a0T q cv pv⟩)[0]? = some ⟨0,24,1,[I b.words,.imm 2 (b.funcs.map bfA)]⟩:=by
   rw[a0O (fun e=>by rw[e,g0]at hw;simp at hw)];exact g0
  have g1':(H.set q.kW ⟨q.sW,78,1,wrL b (b.words+a2J ls) 0 a0T q cv pv⟩)[1]? = some ⟨1,42,1,[a0T,I 0]⟩:=by
   rw[a0O (fun e=>by rw[e,g1]at hw;simp at hw)];exact g1
  generalize H.set q.kW ⟨q.sW,78,1,wrL b (b.words+a2J ls) 0 a0T q cv pv⟩=HX at *
  refine ⟨_,Wk.refl _,?_⟩;simp only[go_sem,a0i,a0j,a0k,a0f,g0',w1,w2];refine ⟨_,Wk.refl _,?_⟩;simp only[go_sem,a0i,a0j,a0k,a0f,g0',w1,w2,eq_false (show ¬ 32768<a1M b ls by omega)];have hO:OI b ls rw q HX (List.replicate b.funcs.length a0T) []:=⟨⟨0,a0T,rfl,hwb⟩,by simp,fun x hx=>by rw[(List.mem_replicate.1 hx).2];rfl,fun i hi=>(by cases hi),g1'⟩
  have hfin:=c9P h hO hED h1B h1E g0' nx;simp only[a2y,a1a]at hfin;refine ⟨_,?_,hfin⟩;exact Wk.mk (by simp[a0a]) ⟨[],by simp⟩ (Nat.le_refl _)
end
set_option maxRecDepth 10000
open Go.V
section
variable {b:BP} {ls:List (List Int)} {rw:Nat→List Bool}
theorem c4a (b:BP) (q:WI) (r:AV):∀ (j:Nat) x y,(wrL b 0 0 a0T q a0T a0T)[j]? = some x→(wrL b 0 0 a0T q r a0T)[j]? = some y→x=y∨(x = .val (.slice none 0 0)∧y=r):=fun j x y hx hy=>by
 rcases j with _ | _ | _ | j
 ·simp at hx hy;left;rw[← hx,← hy]
 ·simp at hx hy;left;rw[← hx,← hy]
 ·simp at hx hy;right;exact ⟨hx.symm,hy.symm⟩
 ·simp only[List.getElem?_cons_succ]at hx hy;left;rw[hx]at hy;exact Option.some.inj hy
theorem c4b (b:BP) (q:WI) (r s:AV):∀ (j:Nat) x y,(wrL b 0 0 a0T q r a0T)[j]? = some x→(wrL b 0 0 a0T q r s)[j]? = some y→x=y∨(x = .val (.slice none 0 0)∧y=s):=fun j x y hx hy=>by
 rcases j with _ | _ | _ | _ | j
 ·simp at hx hy;left;rw[← hx,← hy]
 ·simp at hx hy;left;rw[← hx,← hy]
 ·simp at hx hy;left;rw[← hx,← hy]
 ·simp at hx hy;right;exact ⟨hx.symm,hy.symm⟩
 ·simp only[List.getElem?_cons_succ]at hx hy;left;rw[hx]at hy;exact Option.some.inj hy
theorem c9R (h:OfH b ls rw) {env:List (Nat × AV)} {H:List VObj} {kW kE kB kD:Nat} (g1:get env 1=b5I ls) (g2:get env 2 = .ptr 0 0 0) (g4:get env 4 = .ptr 1 1 0) (g6:get env 6 = .ptr kW kW 0)
 (h0:H[0]? = some ⟨0,24,1,[I b.words,.imm 2 (b.funcs.map bfA)]⟩) (h1:H[1]? = some ⟨1,42,1,[a0T,I 0]⟩) (hl:H.length=6)
 (hW:H[kW]? = some ⟨kW,78,1,wrL b 0 0 a0T ⟨kW,kW,kE,kE,kB,kB,kD,kD⟩ a0T a0T⟩)
 (hE:H[kE]? = some ⟨kE,3,1,List.replicate b.funcs.length (I 0)⟩) (hB:H[kB]? = some ⟨kB,28,1,List.replicate b.funcs.length a0T⟩) (hD:H[kD]? = some ⟨kD,3,1,List.replicate b.funcs.length (I 0)⟩)
 (hED:kE≠kD) (h1B:1≠kB) (h1E:1≠kE) (h1D:1≠kD) (h0D:0≠kD) :
 ∃ st'',Wk ⟨env,H,6⟩ st''∧VWs Tryz.prog (a2y 2 a1a) (a8D Tryz.prog [.cell 4 true 2,.tmp 5] (ofC b ls rw)) st'':=by
 have hkW:kW<H.length:=(List.getElem?_eq_some_iff.1 hW).1;have v1:=b3h (env:=[(1,b5I ls),(2,.ptr 0 0 0),(4,.ptr 1 1 0),(6,.ptr kW kW 0)]) (H:=H) (nx:=6) (i:=kW) (cs':=wrL b 0 0 a0T ⟨kW,kW,kE,kE,kB,kB,kD,kD⟩ (.ref H.length 6 0 0) a0T) 121 4 (by decide) (by simp[a0a]) hW (by simp) rfl (c4a b _ _);have hW1:(H.set kW ⟨kW,78,1,wrL b 0 0 a0T ⟨kW,kW,kE,kE,kB,kB,kD,kD⟩ (.ref H.length 6 0 0) a0T⟩++[(⟨6,121,4,[]⟩:VObj)])[kW]? = some ⟨kW,78,1,wrL b 0 0 a0T ⟨kW,kW,kE,kE,kB,kB,kD,kD⟩ (.ref H.length 6 0 0) a0T⟩:=a2r (a0N hW) _;have hL1:(H.set kW ⟨kW,78,1,wrL b 0 0 a0T ⟨kW,kW,kE,kE,kB,kB,kD,kD⟩ (.ref H.length 6 0 0) a0T⟩++[(⟨6,121,4,[]⟩:VObj)]).length=H.length+1:=by simp
 have hI1:(H.set kW ⟨kW,78,1,wrL b 0 0 a0T ⟨kW,kW,kE,kE,kB,kB,kD,kD⟩ (.ref H.length 6 0 0) a0T⟩++[(⟨6,121,4,[]⟩:VObj)])[H.length]? = some ⟨6,121,4,[]⟩:=by
  rw[List.getElem?_append_right (by simp)];simp
 have t1:∀ {i:Nat} {ob:VObj},H[i]? = some ob→i≠kW→(H.set kW ⟨kW,78,1,wrL b 0 0 a0T ⟨kW,kW,kE,kE,kB,kB,kD,kD⟩ (.ref H.length 6 0 0) a0T⟩++[(⟨6,121,4,[]⟩:VObj)])[i]? = some ob:=fun {i ob} a1 a2=>a2r (by rw[a0O (fun e=>a2 e.symm)];exact a1) _;generalize (H.set kW ⟨kW,78,1,wrL b 0 0 a0T ⟨kW,kW,kE,kE,kB,kB,kD,kD⟩ (.ref H.length 6 0 0) a0T⟩++[(⟨6,121,4,[]⟩:VObj)])=H1 at *
 have v2:=b3h (env:=[(1,b5I ls),(2,.ptr 0 0 0),(4,.ptr 1 1 0),(6,.ptr kW kW 0)]) (H:=H1) (nx:=7) (i:=kW) (cs':=wrL b 0 0 a0T ⟨kW,kW,kE,kE,kB,kB,kD,kD⟩ (.ref H.length 6 0 0) (.ref H1.length 7 0 0)) 119 3 (by decide) (by simp[a0a]) hW1 (by simp) rfl (c4b b _ _ _);have t2:∀ {i:Nat} {ob:VObj},H1[i]? = some ob→i≠kW→(H1.set kW ⟨kW,78,1,wrL b 0 0 a0T ⟨kW,kW,kE,kE,kB,kB,kD,kD⟩ (.ref H.length 6 0 0) (.ref H1.length 7 0 0)⟩++[(⟨7,119,3,[]⟩:VObj)])[i]? = some ob:=fun {i ob} a1 a2=>a2r (by rw[a0O (fun e=>a2 e.symm)];exact a1) _;have hW2:(H1.set kW ⟨kW,78,1,wrL b 0 0 a0T ⟨kW,kW,kE,kE,kB,kB,kD,kD⟩ (.ref H.length 6 0 0) (.ref H1.length 7 0 0)⟩++[(⟨7,119,3,[]⟩:VObj)])[kW]? = some ⟨kW,78,1,wrL b 0 0 a0T ⟨kW,kW,kE,kE,kB,kB,kD,kD⟩ (.ref H.length 6 0 0) (.ref H1.length 7 0 0)⟩:=a2r (a0N hW1) _
 have hI2:(H1.set kW ⟨kW,78,1,wrL b 0 0 a0T ⟨kW,kW,kE,kE,kB,kB,kD,kD⟩ (.ref H.length 6 0 0) (.ref H1.length 7 0 0)⟩++[(⟨7,119,3,[]⟩:VObj)])[H1.length]? = some ⟨7,119,3,[]⟩:=by
  rw[List.getElem?_append_right (by simp)];simp
 generalize (H1.set kW ⟨kW,78,1,wrL b 0 0 a0T ⟨kW,kW,kE,kE,kB,kB,kD,kD⟩ (.ref H.length 6 0 0) (.ref H1.length 7 0 0)⟩++[(⟨7,119,3,[]⟩:VObj)])=H2 at *
 have ne:∀ {i:Nat} {ob:VObj},H[i]? = some ob→ob.ty≠78→i≠kW:=fun {i ob} a1 a2 e=>by subst e;rw[hW]at a1;cases a1;exact a2 rfl
 have tt:∀ {i:Nat} {ob:VObj},H[i]? = some ob→ob.ty≠78→H2[i]? = some ob:=fun a1 a2=>t2 (t1 a1 (ne a1 a2)) (ne a1 a2);have er:List.replicate b.funcs.length (I 0)=(List.replicate b.funcs.length (0:Int)).map I:=by rw[List.map_replicate]
 rw[er]at hE hD;have hWH:WH b (List.replicate b.funcs.length 0) 0 0 a0T ⟨kW,kW,kE,kE,kB,kB,kD,kD⟩ H2 [] [] (List.replicate b.funcs.length 0) (List.replicate b.funcs.length a0T) :=
  ⟨⟨_,_,hW2,⟨H.length,6,rfl,t2 hI1 (by omega)⟩,⟨H1.length,7,rfl,hI2⟩⟩,tt hE (by simp),tt hB (by simp),tt hD (by simp)⟩
 have v0:Wk ⟨env,H,6⟩ ⟨[(1,b5I ls),(2,.ptr 0 0 0),(4,.ptr 1 1 0),(6,.ptr kW kW 0)],H,6⟩:=by
  refine Wk.mk (fun p hp=>?_) ⟨[],by simp⟩ (Nat.le_refl _);simp only[List.mem_cons,List.not_mem_nil,or_false]at hp;rcases hp with rfl | rfl | rfl | rfl
  ·exact g1
  ·exact g2
  ·exact g4
  ·exact g6
 exact ⟨_,v0.trans (v1.trans v2),c9Q h hWH hED h1B h1E h1D h0D (tt h0 (by simp)) (tt h1 (by simp)) _⟩
set_option maxHeartbeats 4000000 in
theorem c2v (h:OfH b ls rw):ContractN Tryz.prog 9 [bpA b,b5I ls] (fun r=>r=ofA b ls rw):=by
 have hq:=b7T;unfold a0z b2z at hq;refine ContractN.of_call (VCall.of_bodyS (pt:=false) (pf:=false) a1g hq (by simp) ?_);have h20:=h.f.few.l;have hmx:(200000:Nat)≤maxLen:=by decide
 have key:=fun env H kW kE kB kD=>c9R h (env:=env) (H:=H) (kW:=kW) (kE:=kE) (kB:=kB) (kD:=kD);simp only[a2y,a1a]at key;simp only[a1a,go_sem,a0i,a0j,a0k,a0f];refine ⟨⟨[(1,b5I ls),(2,.ptr 0 0 0),(4,.ptr 1 1 0)],[⟨0,24,1,[I b.words,.imm 2 (b.funcs.map bfA)]⟩,⟨1,42,1,[a0T,I 0]⟩],2⟩,Wk.mk (by simp[a0a]) ⟨[],by simp⟩ (Nat.le_refl _),?_⟩;simp only[go_sem,a0i,a0j,a0k,a0f,a3S]
 repeat' (with_reducible apply And.intro)
 all_goals try omega
 ·exact key _ _ 5 2 3 4 rfl rfl rfl rfl rfl rfl rfl rfl rfl rfl rfl (by decide) (by decide) (by decide) (by decide) (by decide)
 ·exact key _ _ 4 2 3 5 rfl rfl rfl rfl rfl rfl rfl rfl rfl rfl rfl (by decide) (by decide) (by decide) (by decide) (by decide)
 ·exact key _ _ 5 2 4 3 rfl rfl rfl rfl rfl rfl rfl rfl rfl rfl rfl (by decide) (by decide) (by decide) (by decide) (by decide)
 ·exact key _ _ 4 2 5 3 rfl rfl rfl rfl rfl rfl rfl rfl rfl rfl rfl (by decide) (by decide) (by decide) (by decide) (by decide)
 ·exact key _ _ 3 2 4 5 rfl rfl rfl rfl rfl rfl rfl rfl rfl rfl rfl (by decide) (by decide) (by decide) (by decide) (by decide)
 ·exact key _ _ 3 2 5 4 rfl rfl rfl rfl rfl rfl rfl rfl rfl rfl rfl (by decide) (by decide) (by decide) (by decide) (by decide)
 ·exact key _ _ 5 3 2 4 rfl rfl rfl rfl rfl rfl rfl rfl rfl rfl rfl (by decide) (by decide) (by decide) (by decide) (by decide)
 ·exact key _ _ 4 3 2 5 rfl rfl rfl rfl rfl rfl rfl rfl rfl rfl rfl (by decide) (by decide) (by decide) (by decide) (by decide)
 ·exact key _ _ 5 4 2 3 rfl rfl rfl rfl rfl rfl rfl rfl rfl rfl rfl (by decide) (by decide) (by decide) (by decide) (by decide)
 ·exact key _ _ 4 5 2 3 rfl rfl rfl rfl rfl rfl rfl rfl rfl rfl rfl (by decide) (by decide) (by decide) (by decide) (by decide)
 ·exact key _ _ 3 4 2 5 rfl rfl rfl rfl rfl rfl rfl rfl rfl rfl rfl (by decide) (by decide) (by decide) (by decide) (by decide)
 ·exact key _ _ 3 5 2 4 rfl rfl rfl rfl rfl rfl rfl rfl rfl rfl rfl (by decide) (by decide) (by decide) (by decide) (by decide)
 ·exact key _ _ 5 3 4 2 rfl rfl rfl rfl rfl rfl rfl rfl rfl rfl rfl (by decide) (by decide) (by decide) (by decide) (by decide)
 ·exact key _ _ 4 3 5 2 rfl rfl rfl rfl rfl rfl rfl rfl rfl rfl rfl (by decide) (by decide) (by decide) (by decide) (by decide)
 ·exact key _ _ 5 4 3 2 rfl rfl rfl rfl rfl rfl rfl rfl rfl rfl rfl (by decide) (by decide) (by decide) (by decide) (by decide)
 ·exact key _ _ 4 5 3 2 rfl rfl rfl rfl rfl rfl rfl rfl rfl rfl rfl (by decide) (by decide) (by decide) (by decide) (by decide)
 ·exact key _ _ 3 4 5 2 rfl rfl rfl rfl rfl rfl rfl rfl rfl rfl rfl (by decide) (by decide) (by decide) (by decide) (by decide)
 ·exact key _ _ 3 5 4 2 rfl rfl rfl rfl rfl rfl rfl rfl rfl rfl rfl (by decide) (by decide) (by decide) (by decide) (by decide)
 ·exact key _ _ 2 3 4 5 rfl rfl rfl rfl rfl rfl rfl rfl rfl rfl rfl (by decide) (by decide) (by decide) (by decide) (by decide)
 ·exact key _ _ 2 3 5 4 rfl rfl rfl rfl rfl rfl rfl rfl rfl rfl rfl (by decide) (by decide) (by decide) (by decide) (by decide)
 ·exact key _ _ 2 4 3 5 rfl rfl rfl rfl rfl rfl rfl rfl rfl rfl rfl (by decide) (by decide) (by decide) (by decide) (by decide)
 ·exact key _ _ 2 5 3 4 rfl rfl rfl rfl rfl rfl rfl rfl rfl rfl rfl (by decide) (by decide) (by decide) (by decide) (by decide)
 ·exact key _ _ 2 4 5 3 rfl rfl rfl rfl rfl rfl rfl rfl rfl rfl rfl (by decide) (by decide) (by decide) (by decide) (by decide)
 ·exact key _ _ 2 5 4 3 rfl rfl rfl rfl rfl rfl rfl rfl rfl rfl rfl (by decide) (by decide) (by decide) (by decide) (by decide)
theorem c8d (h:OfH b ls rw):Contract Tryz.prog 9 [bpA b,b5I ls] (fun r=>r=ofA b ls rw):=(c2v h).old
end
set_option maxRecDepth 10000
open Go.V
def exC:BF:=⟨1,[⟨[⟨1,0,0,0,0,0,0,65⟩,⟨9,0,0,0,0,0,0,0⟩],3,0,0,0⟩]⟩
def exCb:BP:=⟨0,[exC]⟩
def c7e:LD:=⟨[[false]],[[false]]⟩
abbrev c9H:Nat→List Bool:=fun _=>[false]
theorem b9z:Fine exC:=b8X (number:=0) (words:=0) (by decide) (by decide) (by decide)
theorem b7q:Least exC c7e:=by
 refine ⟨(b4s b9z c7e).1 (by decide),fun I O h b hb v hv=>?_⟩;have hb':b=0:=by have:exC.n=1:=rfl;omega
 have hv':v=0:=by have:exC.r=1:=rfl;omega
 subst hb';subst hv';exact ⟨fun e=>absurd e (by decide),fun e=>absurd e (by decide)⟩
theorem c6q:FewP exCb:=⟨by decide,by decide,by decide,by decide,by decide⟩
theorem c8e {p:Int} (hp:p=1∨p = -1):OfH exCb [[p]] c9H:=by
 have hA:AllocP exC c7e [p] 8:=(c0n b9z c7e [p] 8).1 (by rcases hp with rfl | rfl<;>decide);refine ⟨⟨c6q,⟨rfl,fun i hi=>?_⟩,by rcases hp with rfl | rfl<;>decide⟩,fun f hf k hk t ht=>?_,fun i hi=>?_,fun pl h=>?_⟩
 ·have:i=0:=by have:exCb.funcs.length=1:=rfl;omega
  subst this;exact ⟨c7e,b7q,hA⟩
 ·obtain rfl:=List.mem_singleton.1 hf;obtain rfl:=List.mem_singleton.1 hk;rcases List.mem_cons.1 ht with rfl | ht
  ·exact ⟨by decide,by decide⟩
  ·obtain rfl:=List.mem_singleton.1 ht;exact ⟨by decide,by decide⟩
 ·have:i=0:=by have:exCb.funcs.length=1:=rfl;omega
  subst this;exact ⟨c7e,b7q,rfl⟩
 ·rw[List.mem_singleton.1 h];simp
theorem c2w:Contract Tryz.prog 13 [] (fun r=>r=bpA exCb):=by
 refine Contract.of_call (VCall.of_body a1g b2I (by simp) ?_);simp only[go_sem,a7p];have hI:Frz 0 [⟨0,24,1,[I 0,.ref 3 3 0 1]⟩,⟨1,95,8,((exC.bks.getD 0 default).ins.map a8s).flatten⟩,⟨2,56,5,[.ref 1 1 0 2,I 3,I 0,I 0,I 0]⟩,⟨3,34,2,[I 1,.ref 2 2 0 1]⟩] 4 (.ref 1 1 0 2) (inA (exC.bks.getD 0 default).ins):=c5U _ rfl rfl rfl rfl rfl;have hB:=c5V (H:=[⟨0,24,1,[I 0,.ref 3 3 0 1]⟩,⟨1,95,8,((exC.bks.getD 0 default).ins.map a8s).flatten⟩,⟨2,56,5,[.ref 1 1 0 2,I 3,I 0,I 0,I 0]⟩,⟨3,34,2,[I 1,.ref 2 2 0 1]⟩]) (nx:=4) (id:=2) (s:=2) (len:=1) exC.bks [.ref 1 1 0 2] rfl (fun i hi=>by
  have:i=0:=by have:exC.bks.length=1:=rfl;omega
  subst this;exact hI) rfl rfl rfl rfl rfl
 have hF:=Frz.refT (n:=0) (H:=[⟨0,24,1,[I 0,.ref 3 3 0 1]⟩,⟨1,95,8,((exC.bks.getD 0 default).ins.map a8s).flatten⟩,⟨2,56,5,[.ref 1 1 0 2,I 3,I 0,I 0,I 0]⟩,⟨3,34,2,[I 1,.ref 2 2 0 1]⟩]) (nx:=4) (id:=3) (s:=3) (len:=1) (z:=2) (yss:=[[I 1,.ref 2 2 0 1]]) (zss:=[bfL exC]) (Nat.zero_le _) rfl rfl rfl rfl (by simp) rfl ⟨_,_,rfl,⟨_,_,rfl,Frz.pure rfl,_,_,rfl,hB,rfl⟩,rfl⟩;exact ⟨_,Frz.agg ⟨_,_,rfl,Frz.pure rfl,_,_,rfl,hF,rfl⟩,rfl⟩
theorem c8f (a b:Int) (s t:ByteArray) (m n:Int):Contract Tryz.prog 14 [.agg [I a,.val (.string s),I m],.agg [I b,.val (.string t),I n]] (fun r=>r=B (decide (a=b) && (s.toList == t.toList))):=by
 refine Contract.of_call (VCall.of_body a1g b3D (by simp) ?_);by_cases h:a=b
 ·simp only[go_sem,a5a,eq_true h];exact ⟨_,Frz.pure rfl,by simp[h]⟩
 ·simp only[go_sem,a5a,eq_false h];exact ⟨_,Frz.pure rfl,by simp[h]⟩
abbrev c9s:Sh:=.agg [.int .i64,.sl 2 32 c9e]
theorem c9t {x:AV} (h:Sh.fit c9s x):∃ b:BP,x=bpA b∧a8H b.words∧b.funcs.length≤140737488355328∧∀ f ∈ b.funcs,BfOk f:=by
 simp only[c9s,Sh.fit.eq_5,Sh.fitL]at h;obtain ⟨ys,rfl,a,_,rfl,ha,e,_,rfl,he,rfl⟩:=h;obtain ⟨r,rfl,k1⟩:=a3c ha;simp only[Sh.fit.eq_4]at he;obtain ⟨xs,rfl,_,h1,h2⟩:=he;obtain ⟨l,rfl,h3⟩:=b4P (f:=bfA) (p:=BfOk) (fun y hy=>c9h hy) xs h2;exact ⟨⟨r,l⟩,rfl,k1,by simp[reachBytes]at h1 ⊢;omega,h3⟩
theorem c6r {b:BP} {ls:List (List Int)} (h:FairP b ls) (hf:∀ f ∈ b.funcs,BfOk f) (hp:∀ pl ∈ ls,pl.length≤140737488355328):∃ rw,OfH b ls rw:=by
 have hex:∀ i,∃ row:List Bool,i<b.funcs.length→∃ L,Least (fO b i) L∧row=L.inn.getD 0 default:=fun i=>by
  by_cases hi:i<b.funcs.length
  ·obtain ⟨L,hL,_⟩:=h.hold.al i hi;exact ⟨_,fun _=>⟨L,hL,rfl⟩⟩
  ·exact ⟨[],fun h=>absurd h hi⟩
 obtain ⟨rw,hrw⟩:=Classical.axiomOfChoice hex;exact ⟨rw,h,fun f hf' k hk t ht=>((hf f hf').bk k hk).ins t ht |>.n,fun i hi=>hrw i hi,hp⟩
structure Mc where
 pc:Int
 rg:Nat→Int
 me:List Int
 rd:Nat
 out:List UInt8
def c8g (r:Int):UInt8:=UInt8.ofNat (IntKind.u8.wrap r).toNat
def upM (f:Nat→Int) (j:Nat) (v:Int):Nat→Int:=fun k=>if k=j then v else f k
def stM (s:Mc) (a v:Int):Mc:={ s with rg:=upM s.rg a.toNat v,pc:=s.pc+1 }
def adM (s:Mc) (b c:Int):Int:=w32 (s.rg b.toNat+c)
def mI (inp:ByteArray) (s:Mc) (i:Ci):Mc × Int :=
 if i.op=18 then ({ s with pc:=i.c },0)
 else if i.op=19 then ({ s with pc:=if s.rg i.a.toNat=0 then i.c else s.pc+1 },0)
 else if i.op=20 then ({ s with pc:=if s.rg i.a.toNat=0 then s.pc+1 else i.c },0)
 else if i.op=21 then ({ s with rg:=upM s.rg i.a.toNat (s.pc+1),pc:=i.c },0)
 else if i.op=22 then ({ s with pc:=s.rg i.a.toNat },0)
 else if i.op=1 then (stM s i.a i.c,0)
 else if i.op=2 then (stM s i.a (s.rg i.a.toNat % 65536+i.c*65536),0)
 else if i.op=3 then (stM s i.a (s.rg i.b.toNat),0)
 else if i.op=16 then (if adM s i.b i.c<s.me.length then (stM s i.a (s.me.getD (adM s i.b i.c).toNat default),0) else (s,8))
 else if i.op=17 then (if adM s i.b i.c<s.me.length then ({ s with me:=s.me.set (adM s i.b i.c).toNat (s.rg i.a.toNat),pc:=s.pc+1 },0) else (s,8))
 else if i.op=23 then (if s.rd<inp.size then ({ stM s i.a (a1v inp s.rd) with rd:=s.rd+1 },0) else (stM s i.a 256,0))
 else if i.op=24 then (if 65536≤s.out.length then (s,4) else ({ s with out:=s.out++[c8g (s.rg i.a.toNat)],pc:=s.pc+1 },0))
 else if i.op=25 then (if s.rg i.a.toNat<i.c then ({ s with pc:=s.pc+1 },0) else (s,3))
 else if i.op=26 then (s,1)
 else if (a0R i.op (s.rg i.b.toNat) (s.rg i.c.toNat)).2=0 then (stM s i.a (a0R i.op (s.rg i.b.toNat) (s.rg i.c.toNat)).1,0) else (s,2)
def Mx (code:List Ci) (inp:ByteArray):Nat→Mc→Mc→Prop
 | 0,s,s'=>s=s'
 | n+1,s,s'=>0≤s.pc∧s.pc<code.length∧(mI inp s (code.getD s.pc.toNat default)).2=0∧Mx code inp n (mI inp s (code.getD s.pc.toNat default)).1 s'
def Mn (code:List Ci) (inp:ByteArray) (n:Nat) (s:Mc) (e:Int) (s':Mc):Prop:=∃ s1,Mx code inp n s s1∧0≤s1.pc∧s1.pc<code.length∧mI inp s1 (code.getD s1.pc.toNat default)=(s',e)∧e≠0
theorem Mx.trans {code:List Ci} {inp:ByteArray}:∀ {n m:Nat} {a b c:Mc},Mx code inp n a b→Mx code inp m b c→Mx code inp (n+m) a c
 | 0,m,a,b,c,h,k=>by rw[show a=b from h,Nat.zero_add];exact k
 | n+1,m,a,b,c,h,k=>by
  rw[show n+1+m=(n+m)+1 by omega];exact ⟨h.1,h.2.1,h.2.2.1,Mx.trans h.2.2.2 k⟩
theorem Mx.end_ {code:List Ci} {inp:ByteArray} {n m:Nat} {a b c:Mc} {e:Int} (h:Mx code inp n a b) (k:Mn code inp m b e c):Mn code inp (n+m) a e c:=by
 obtain ⟨s1,k1,k2,k3,k4,k5⟩:=k;exact ⟨s1,h.trans k1,k2,k3,k4,k5⟩
def At (code:List Ci) (k:Nat) (l:List Ci):Prop:=∀ i<l.length,code[k+i]? = l[i]?
theorem At.app {code:List Ci} {k:Nat} {l m:List Ci} (h:At code k (l++m)):At code k l∧At code (k+l.length) m:=by
 refine ⟨fun i hi=>?_,fun i hi=>?_⟩
 ·rw[h i (by rw[List.length_append];omega),List.getElem?_append_left hi]
 ·rw[Nat.add_assoc,h (l.length+i) (by rw[List.length_append];omega),List.getElem?_append_right (by omega)];congr 1;omega
theorem At.one {code:List Ci} {k:Nat} {i:Ci} (h:At code k [i]):k<code.length∧code.getD k default=i:=by
 have:=h 0 (by simp);simp only[Nat.add_zero,List.getElem?_cons_zero]at this;exact ⟨(List.getElem?_eq_some_iff.1 this).1,by rw[List.getD,this];rfl⟩
theorem Mx.one {code:List Ci} {inp:ByteArray} {k:Nat} {i:Ci} {s s':Mc} (h:At code k [i]) (hp:s.pc=k) (hm:mI inp s i=(s',0)):Mx code inp 1 s s':=by
 obtain ⟨h1,h2⟩:=h.one;have e:s.pc.toNat=k:=by omega
 refine ⟨by omega,by omega,?_,?_⟩
 ·rw[e,h2,hm]
 ·rw[e,h2,hm];rfl
theorem Mn.one {code:List Ci} {inp:ByteArray} {k:Nat} {i:Ci} {s s':Mc} {e:Int} (h:At code k [i]) (hp:s.pc=k) (hm:mI inp s i=(s',e)) (he:e≠0):Mn code inp 0 s e s':=by
 obtain ⟨h1,h2⟩:=h.one;have ek:s.pc.toNat=k:=by omega
 exact ⟨s,rfl,by omega,by omega,by rw[ek,h2,hm],he⟩
theorem c2x (inp:ByteArray) (s:Mc) (a b c:Int) (h:0≤s.rg b.toNat+c∧s.rg b.toNat+c<4294967296) (hl:s.rg b.toNat+c<s.me.length):mI inp s ⟨16,a,b,c⟩=(stM s a (s.me.getD (s.rg b.toNat+c).toNat default),0):=by
 have e:adM s b c=s.rg b.toNat+c:=a1I h;simp only[mI,Int.reduceEq,if_false,if_true,e,if_pos hl]
theorem c4c (inp:ByteArray) (s:Mc) (a b c:Int) (h:0≤s.rg b.toNat+c∧s.rg b.toNat+c<4294967296) (hl:s.rg b.toNat+c<s.me.length):mI inp s ⟨17,a,b,c⟩=({ s with me:=s.me.set (s.rg b.toNat+c).toNat (s.rg a.toNat),pc:=s.pc+1 },0):=by
 have e:adM s b c=s.rg b.toNat+c:=a1I h;simp only[mI,Int.reduceEq,if_false,if_true,e,if_pos hl]
theorem c6s (inp:ByteArray) (s:Mc) (a b c:Int):mI inp s ⟨1,a,b,c⟩=(stM s a c,0):=by simp[mI]
theorem c8h (inp:ByteArray) (s:Mc) (a b c:Int):mI inp s ⟨2,a,b,c⟩=(stM s a (s.rg a.toNat % 65536+c*65536),0):=by simp[mI]
theorem c8i (inp:ByteArray) (s:Mc) (a b c:Int):mI inp s ⟨3,a,b,c⟩=(stM s a (s.rg b.toNat),0):=by simp[mI]
def b9A (c:Cx) (s:Mc) (p:Int):Int:=if 0<p then s.rg p.toNat else s.me.getD (c.own p).toNat default
structure MemOk (c:Cx) (W E n:Nat):Prop where
 cs:CxS c
 le:n≤40000
 en:E≤n
 ww:W≤E
 own:∀ v<c.pl.length,gP c.pl v<0→(W:Int)≤c.own (gP c.pl v)∧c.own (gP c.pl v)<E
structure Sm (s s':Mc):Prop where
 r:∀ k≤8,s'.rg k=s.rg k
 m:s'.me=s.me
 o:s'.out=s.out
 d:s'.rd=s.rd
theorem Sm.refl (s:Mc):Sm s s:=⟨fun _ _=>rfl,rfl,rfl,rfl⟩
theorem Sm.trans {a b c:Mc} (h:Sm a b) (k:Sm b c):Sm a c:=⟨fun i hi=>(k.r i hi).trans (h.r i hi),k.m.trans h.m,k.o.trans h.o,k.d.trans h.d⟩
theorem Sm.val {c:Cx} {s s':Mc} (h:Sm s s') {p:Int} (hp:p≤8):b9A c s' p=b9A c s p:=by
 unfold b9A;by_cases h0:0<p
 ·rw[if_pos h0,if_pos h0];exact h.r _ (by omega)
 ·rw[if_neg h0,if_neg h0,h.m]
section
variable {code:List Ci} {inp:ByteArray} {c:Cx} {k W E:Nat} {s:Mc}
theorem c6t (h:MemOk c W E s.me.length) (z:s.rg 0=0) {v sp:Int} (hv:0≤v∧v<c.pl.length) (hs:9≤sp∧sp≤15) (ha:At code k ((a0K c v sp).map (·.1))) (hp:s.pc=k) :
 ∃ n s',n≤1∧Mx code inp n s s'∧s'.pc=k+(a0K c v sp).length∧Sm s s'∧s'.rg (a0B c v sp).toNat=b9A c s (c.p v)∧(∀ j,j≠sp.toNat→s'.rg j=s.rg j):=by
 have hpp:=h.cs.ok.p hv.1 hv.2;unfold a0K a0B b9A at *
 by_cases h0:0<c.p v
 ·rw[if_pos h0]at ha ⊢;rw[if_pos h0,if_pos h0];exact ⟨0,s,by omega,rfl,by simpa using hp,Sm.refl s,rfl,fun _ _=>rfl⟩
 ·rw[if_neg h0]at ha ⊢;rw[if_neg h0,if_neg h0];have hown:=h.cs.own (p:=c.p v) (by omega);have hen:=h.en;have hlt:=h.own v.toNat (by omega) (by have:c.p v=gP c.pl v.toNat:=rfl;omega);rw[show gP c.pl v.toNat=c.p v from rfl]at hlt;have hz:s.rg (0:Int).toNat=0:=z;have hm:=c2x inp s sp 0 (c.own (c.p v)) (by rw[hz];omega) (by rw[hz];omega);refine ⟨1,_,by omega,Mx.one ha hp hm,by simp[stM,hp],⟨fun j hj=>?_,rfl,rfl,rfl⟩,?_,fun j hj=>?_⟩
  ·simp only[stM,upM];rw[if_neg (by omega)]
  ·simp only[stM,upM,if_true];rw[hz,Int.zero_add]
  ·simp only[stM,upM];rw[if_neg hj]
theorem c8j (h:MemOk c W E s.me.length) (z:s.rg 0=0) {v:Int} {r:Int} (hv:0≤v∧v<c.pl.length) (ha:At code k ((a1z c v r).map (·.1))) (hp:s.pc=k) (hr:0<c.p v→r=c.p v) :
 ∃ n s',n≤1∧Mx code inp n s s'∧s'.pc=k+(a1z c v r).length∧b9A c s' (c.p v)=s.rg r.toNat∧(∀ j,s'.rg j=s.rg j)∧s'.out=s.out∧s'.rd=s.rd∧s'.me.length=s.me.length ∧
  (∀ a,(c.p v<0→a≠(c.own (c.p v)).toNat)→s'.me.getD a default=s.me.getD a default):=by
 have hpp:=h.cs.ok.p hv.1 hv.2;unfold a1z b9A at *
 by_cases h0:c.p v<0
 ·rw[if_pos h0]at ha ⊢;have hown:=h.cs.own (p:=c.p v) (by omega);have hen:=h.en;have hlt:=h.own v.toNat (by omega) h0;rw[show gP c.pl v.toNat=c.p v from rfl]at hlt;have hz:s.rg (0:Int).toNat=0:=z;have hm:=c4c inp s r 0 (c.own (c.p v)) (by rw[hz];omega) (by rw[hz];omega);refine ⟨1,_,by omega,Mx.one ha hp hm,by simp[hp],?_,fun _=>rfl,rfl,rfl,by simp,fun a ha=>?_⟩
  ·rw[if_neg (by omega),hz,Int.zero_add];show (s.me.set (c.own (c.p v)).toNat (s.rg r.toNat)).getD _ _=_;simp only[List.getD];rw[List.getElem?_set_self (by omega)];rfl
  ·have:=ha h0;show (s.me.set _ _).getD a default=_;rw[hz,Int.zero_add];simp only[List.getD];rw[List.getElem?_set_ne (fun e=>this e.symm)]
 ·rw[if_neg h0]at ha ⊢;have hr':=hr (by omega);refine ⟨0,s,by omega,rfl,by simpa using hp,?_,fun _=>rfl,rfl,rfl,rfl,fun _ _=>rfl⟩;rw[if_pos (by omega),hr']
end
structure Rl (c:Cx) (W N:Nat) (M:Nat→Bool) (rg:List Int) (σ:Bst) (s:Mc):Prop where
 z:s.rg 0=0
 v:∀ u<c.pl.length,M u=true→b9A c s (gP c.pl u)=rg.getD u default
 w:∀ a<W,s.me.getD a default=σ.ws.getD a default
 o:s.out=σ.out
 d:s.rd=σ.rd
 n:s.me.length=N
theorem Rl.sm {c:Cx} {W N:Nat} {M:Nat→Bool} {rg:List Int} {σ:Bst} {s s':Mc} (h:Rl c W N M rg σ s) (hk:CxOk c) (k:Sm s s'):Rl c W N M rg σ s' :=
 ⟨by rw[k.r 0 (by omega)];exact h.z,fun u hu hm=>by rw[k.val (by have:=hk.pv u hu;omega)];exact h.v u hu hm,fun a ha=>by rw[k.m];exact h.w a ha,k.o.trans h.o,k.d.trans h.d,by rw[k.m];exact h.n⟩
theorem Rl.mono {c:Cx} {W N:Nat} {M M':Nat→Bool} {rg:List Int} {σ:Bst} {s:Mc} (h:Rl c W N M rg σ s) (hM:∀ u<c.pl.length,M' u=true→M u=true):Rl c W N M' rg σ s :=
 ⟨h.z,fun u hu hm=>h.v u hu (hM u hu hm),h.w,h.o,h.d,h.n⟩
def FrM (E:Nat) (s s':Mc):Prop:=∀ a,E≤a→s'.me.getD a default=s.me.getD a default
theorem FrM.refl (E:Nat) (s:Mc):FrM E s s:=fun _ _=>rfl
theorem FrM.trans {E:Nat} {a b c:Mc} (h:FrM E a b) (k:FrM E b c):FrM E a c:=fun i hi=>(k i hi).trans (h i hi)
theorem Sm.fr {E:Nat} {s s':Mc} (h:Sm s s'):FrM E s s':=fun a _=>by rw[h.m]
theorem c6u {c:Cx} {p q:Int} (h:p≠q):c.own p≠c.own q:=by unfold Cx.own;omega
section
variable {code:List Ci} {inp:ByteArray} {c:Cx} {k W E N:Nat} {s0 s1:Mc} {M M':Nat→Bool} {rg:List Int} {σ σ':Bst}
theorem b0u (hm:MemOk c W E N) (h:Rl c W N M' rg σ s0) {d r x:Int} (hd:0≤d∧d<c.pl.length) (hrl:rg.length=c.pl.length) (hM:∀ u<c.pl.length,M u=true→u≠d.toNat→M' u=true)
 (hap:∀ u<c.pl.length,M u=true→u≠d.toNat→gP c.pl u≠gP c.pl d.toNat) (hx:s1.rg r.toNat=x) (hr:0<c.p d→r=c.p d) (hg:∀ j≤8,(0<c.p d→j≠(c.p d).toNat)→s1.rg j=s0.rg j)
 (hme:s1.me=s0.me) (hws:σ'.ws=σ.ws) (ho:s1.out=σ'.out) (hrd:s1.rd=σ'.rd) (ha:At code k ((a1z c d r).map (·.1))) (hp:s1.pc=k) :
 ∃ n s',n≤1∧Mx code inp n s1 s'∧s'.pc=k+(a1z c d r).length∧Rl c W N M (sR rg d x) σ' s'∧FrM E s0 s':=by
 have hpd:=hm.cs.ok.p hd.1 hd.2;have hcp:c.p d=gP c.pl d.toNat:=rfl;have z1:s1.rg 0=0:=by rw[hg 0 (by omega) (fun _=>by omega)];exact h.z
 have hml:s1.me.length=N:=by rw[hme];exact h.n
 obtain ⟨n,s',n1,n2,n3,n4,n5,n6,n7,n8,n9⟩:=c8j (code:=code) (inp:=inp) (k:=k) (s:=s1) (W:=W) (E:=E) (c:=c) (by rw[hml];exact hm) z1 hd ha hp hr;have hown:gP c.pl d.toNat<0→(W:Int)≤c.own (gP c.pl d.toNat)∧c.own (gP c.pl d.toNat)<E:=fun e=>hm.own d.toNat (by omega) e;refine ⟨n,s',n1,n2,n3,⟨by rw[n5];exact z1,fun u hu hu1=>?_,fun a haw=>?_,by rw[n6];exact ho,by rw[n7];exact hrd,by rw[n8];exact hml⟩,fun a haE=>?_⟩
 ·unfold sR;rw[show (rg.set d.toNat x).getD u default=if d.toNat=u then x else rg.getD u default by
   simp only[List.getD];by_cases e:d.toNat=u
   ·subst e;rw[if_pos rfl,List.getElem?_set_self (by omega)];rfl
   ·rw[if_neg e,List.getElem?_set_ne e]]
  by_cases e:d.toNat=u
  ·subst e;rw[if_pos rfl,← hcp,n4,hx]
  ·rw[if_neg e];have e':u≠d.toNat:=fun e2=>e e2.symm;have hne:=hap u hu hu1 e';have hpu:=hm.cs.ok.pv u hu;rw[← h.v u hu (hM u hu hu1 e')];unfold b9A;by_cases h0:0<gP c.pl u
   ·rw[if_pos h0,if_pos h0,n5];exact hg _ (by omega) (fun hq=>by omega)
   ·rw[if_neg h0,if_neg h0,n9 _ (fun hq=>?_),hme];have h1:=hm.own u hu (by omega);have h2:=hown (by omega);have:=c6u (c:=c) hne;rw[hcp];omega
 ·rw[n9 a (fun hq=>by have:=hown (by omega);rw[hcp];omega),hme,hws];exact h.w a haw
 ·rw[n9 a (fun hq=>by have:=hown (by omega);rw[hcp];omega),hme]
end
theorem gds {α:Type} {l:List α} {i j:Nat} {x d:α} (hj:j<l.length):(l.set i x).getD j d=if i=j then x else l.getD j d:=by
 simp only[List.getD];rw[List.getElem?_set];by_cases h:i=j
 ·subst h;simp[hj]
 ·rw[if_neg h,if_neg h]
theorem a7U {α:Type} {l:List α} {i:Nat} {x d:α} (h:i<l.length):(l.set i x).getD i d=x:=by simp[List.getD,h]
theorem a9L {α:Type} {l:List α} {i j:Nat} {x d:α} (h:i≠j):(l.set i x).getD j d=l.getD j d:=by simp[List.getD,List.getElem?_set_ne h]
def GoM (code:List Ci) (inp:ByteArray) (c:Cx) (W E N:Nat) (M:Nat→Bool) (k:Nat) (s:Mc) (rg':List Int) (σ':Bst) (len:Nat):Prop :=
 ∃ n s',n≤5∧Mx code inp n s s'∧s'.pc=((k+len:Nat):Int)∧Rl c W N M rg' σ' s'∧FrM E s s'
def EnM (code:List Ci) (inp:ByteArray) (s:Mc) (σ':Bst):Prop:=∃ n s',n≤4∧Mn code inp n s σ'.en s'∧s'.out=σ'.out
theorem a7K {t:Tac} {u:Int} {x:Bool} (h0:0≤u) (h:u ∈ a0l t):bk1 t u.toNat x=true:=by
 show (if ((u.toNat:Nat):Int) ∈ a0l t then true else _)=true;rw[if_pos (by rw[Int.toNat_of_nonneg h0];exact h)]
theorem a5Q {t:Tac} {u:Nat} {x:Bool} (hx:x=true) (h:a0m t→u≠t.d.toNat) (hd:a0m t→0≤t.d):bk1 t u x=true:=by
 show (if (u:Int) ∈ a0l t then true else if a0n t=(u:Int) then false else x)=true;by_cases e:(u:Int) ∈ a0l t
 ·rw[if_pos e]
 ·rw[if_neg e,if_neg,hx];intro e2;unfold a0n at e2;by_cases hs:a0m t
  ·rw[if_pos hs]at e2;have:=h hs;have:=hd hs;omega
  ·rw[if_neg hs]at e2;omega
theorem c6v (inp:ByteArray) (s:Mc) (op a b c:Int) (h:4≤op∧op≤15):mI inp s ⟨op,a,b,c⟩=if (a0R op (s.rg b.toNat) (s.rg c.toNat)).2=0 then (stM s a (a0R op (s.rg b.toNat) (s.rg c.toNat)).1,0) else (s,2):=by
 have h1:op≠18:=by omega
 have h2:op≠19:=by omega
 have h3:op≠20:=by omega
 have h4:op≠21:=by omega
 have h5:op≠22:=by omega
 have h6:op≠1:=by omega
 have h7:op≠2:=by omega
 have h8:op≠3:=by omega
 have h9:op≠16:=by omega
 have h10:op≠17:=by omega
 have h11:op≠23:=by omega
 have h12:op≠24:=by omega
 have h13:op≠25:=by omega
 have h14:op≠26:=by omega
 simp only[mI,if_neg h1,if_neg h2,if_neg h3,if_neg h4,if_neg h5,if_neg h6,if_neg h7,if_neg h8,if_neg h9,if_neg h10,if_neg h11,if_neg h12,if_neg h13,if_neg h14]
theorem c8k (inp:ByteArray) (s:Mc) (a:Int):mI inp s ⟨24,a,0,0⟩=if 65536≤s.out.length then (s,4) else ({ s with out:=s.out++[c8g (s.rg a.toNat)],pc:=s.pc+1 },0):=by simp[mI]
theorem c6w (inp:ByteArray) (s:Mc) (a:Int):mI inp s ⟨23,a,0,0⟩=if s.rd<inp.size then ({ stM s a (a1v inp s.rd) with rd:=s.rd+1 },0) else (stM s a 256,0):=by simp[mI]
theorem c2y (inp:ByteArray) (s:Mc) (a c:Int):mI inp s ⟨25,a,0,c⟩=if s.rg a.toNat<c then ({ s with pc:=s.pc+1 },0) else (s,3):=by simp[mI]
section
variable {code:List Ci} {inp:ByteArray} {c:Cx} {k W E N:Nat} {s s2 s3:Mc} {M M':Nat→Bool} {rg:List Int} {σ σ':Bst} {t:Tac} {l:List Ci}
theorem a5d (hm:MemOk c W E N) (h:Rl c W N M' rg σ s) {v sp:Int} (hv:0≤v∧v<c.pl.length) (hM:M' v.toNat=true) (hs:9≤sp∧sp≤15) (ha:At code k ((a0K c v sp).map (·.1)++l)) (hp:s.pc=k) :
 ∃ n s',n≤1∧Mx code inp n s s'∧s'.pc=((k+(a0K c v sp).length:Nat):Int)∧Sm s s'∧s'.rg (a0B c v sp).toNat=gR rg v∧(∀ j,j≠sp.toNat→s'.rg j=s.rg j)∧At code (k+(a0K c v sp).length) l:=by
 obtain ⟨a1,a2⟩:=ha.app;rw[List.length_map]at a2;obtain ⟨n,s',h1,h2,h3,h4,h5,h6⟩:=c6t (inp:=inp) (s:=s) (W:=W) (E:=E) (by rw[h.n];exact hm) h.z hv hs a1 hp;refine ⟨n,s',h1,h2,by rw[h3];omega,h4,?_,h6,a2⟩;rw[h5];exact h.v v.toNat (by omega) hM
theorem b7r (hm:MemOk c W E N) {v sp:Int} (hv:0≤v∧v<c.pl.length):a0B c v sp=sp∨(1≤a0B c v sp∧a0B c v sp≤8):=by
 have:=hm.cs.ok.p hv.1 hv.2;unfold a0B;split
 ·right;omega
 ·left;rfl
theorem b1P (hm:MemOk c W E N) (h:Rl c W N (fun u=>bk1 t u (M u)) rg σ s) (hd:0≤t.d∧t.d<c.pl.length) (hrl:rg.length=c.pl.length) (hap:∀ u<c.pl.length,M u=true→u≠t.d.toNat→gP c.pl u≠gP c.pl t.d.toNat) {n2 k2:Nat} {ci:Ci} {x:Int} {len:Nat} (hn:n2≤3) (hx:Mx code inp n2 s s2) (hsm:Sm s s2) (hp2:s2.pc=k2) (ha:At code k2 ([ci]++(a1z c t.d (a0S c t.d)).map (·.1)))
 (hmi:mI inp s2 ci=(s3,0)) (e1:s3.rg=upM s2.rg (a0S c t.d).toNat x) (e2:s3.me=s2.me) (e3:s3.pc=s2.pc+1) (e4:s3.out=σ'.out) (e5:s3.rd=σ'.rd) (e6:σ'.ws=σ.ws) (hl:k2+(1+(a1z c t.d (a0S c t.d)).length)=k+len) :
 GoM code inp c W E N M k s (sR rg t.d x) σ' len:=by
 obtain ⟨a1,a2⟩:=ha.app;have x1:=Mx.one a1 hp2 hmi;have hpd:=hm.cs.ok.p hd.1 hd.2;obtain ⟨n,s',q1,q2,q3,q4,q5⟩:=b0u (code:=code) (inp:=inp) (k:=k2+1) (s1:=s3) (M:=M) (σ':=σ') hm h (d:=t.d) (r:=a0S c t.d) (x:=x) hd hrl (fun u hu hu1 hne=>a5Q hu1 (fun _=>hne) (fun _=>hd.1)) hap (by rw[e1];simp[upM]) (fun h0=>by unfold a0S;rw[if_pos h0]) (fun j hj hne=>by
  rw[e1];simp only[upM];rw[if_neg,hsm.r j hj];unfold a0S;split
  ·rename_i h0;exact hne h0
  ·omega) (e2.trans hsm.m) e6 e4 e5 a2 (by rw[e3,hp2];omega)
 exact ⟨n2+(1+n),s',by omega,hx.trans (x1.trans q2),by rw[q3];omega,q4,q5⟩
theorem b9B (hm:MemOk c W E N) (h:Rl c W N M' rg σ s) (hM:∀ u<c.pl.length,M u=true→M' u=true) (hwl:σ.ws.length=W) (hsm:Sm s s2) {a:Nat} {x:Int} (ha:a<W) (e1:s3.rg=s2.rg) (e2:s3.me=s2.me.set a x) (e4:s3.out=s2.out) (e5:s3.rd=s2.rd) :
 Rl c W N M rg { σ with ws:=σ.ws.set a x } s3∧FrM E s s3:=by
 have h2:=h.sm hm.cs.ok hsm;have hww:=hm.ww;have hen:=hm.en;have hl:s2.me.length=N:=h2.n;refine ⟨⟨by rw[e1];exact h2.z,fun u hu hu1=>?_,fun b hb=>?_,by rw[e4];exact h2.o,by rw[e5];exact h2.d,by rw[e2,List.length_set];exact hl⟩,fun b hb=>?_⟩
 ·rw[← h2.v u hu (hM u hu hu1)];unfold b9A;by_cases h0:0<gP c.pl u
  ·rw[if_pos h0,if_pos h0,e1]
  ·have hpu:=hm.cs.ok.pv u hu;have:=hm.own u hu (by omega);rw[if_neg h0,if_neg h0,e2,a9L (by omega)]
 ·rw[e2];by_cases e:a=b
  ·subst e;rw[a7U (by omega)];exact (a7U (by omega)).symm
  ·rw[a9L e];exact (h2.w b hb).trans (a9L e).symm
 ·rw[e2,a9L (by omega),hsm.m]
theorem c2z (hm:MemOk c W E N) (h:Rl c W N (fun u=>bk1 t u (M u)) rg σ s) (hd:0≤t.d∧t.d<c.pl.length) (hn:a1b t.n) (hrl:rg.length=c.pl.length) (hap:∀ u<c.pl.length,M u=true→u≠t.d.toNat→gP c.pl u≠gP c.pl t.d.toNat) (hp:s.pc=k) (ha:At code k ((a2K c t.d t.n).map (·.1))) :
 GoM code inp c W E N M k s (sR rg t.d t.n) σ (a2K c t.d t.n).length:=by
 have hpd:=hm.cs.ok.p hd.1 hd.2;obtain ⟨n0,n1⟩:=hn;have hMk:∀ u<c.pl.length,M u=true→u≠t.d.toNat→bk1 t u (M u)=true:=fun u hu hu1 hne=>a5Q hu1 (fun _=>hne) (fun _=>hd.1);unfold a2K at *
 by_cases e:t.n=0∧c.p t.d<0
 ·rw[if_pos e]at ha ⊢;obtain ⟨n,s',q1,q2,q3,q4,q5⟩:=b0u (code:=code) (inp:=inp) (k:=k) (s1:=s) (M:=M) (σ':=σ) hm h (d:=t.d) (r:=0) (x:=t.n) hd hrl hMk hap (by rw[e.1];exact h.z) (fun h0=>by omega) (fun j hj hne=>rfl) rfl rfl h.o h.d ha hp;exact ⟨n,s',by omega,q2,by rw[q3];omega,q4,q5⟩
 ·rw[if_neg e]at ha ⊢;have hz:(0:Int)≤t.n % 65536:=by omega
  by_cases e2:t.n / 65536=0
  ·rw[if_pos e2]at ha ⊢;rw[List.nil_append]at ha ⊢;have en:t.n % 65536=t.n:=by omega
   rw[en]at ha ⊢;rw[List.map_cons]at ha;exact b1P (n2:=0) (k2:=k) (x:=t.n) hm h hd hrl hap (by omega) rfl (Sm.refl s) hp ha (c6s inp s _ 0 t.n) rfl rfl rfl h.o h.d rfl (by simp only[List.length_cons];omega)
  ·rw[if_neg e2]at ha ⊢;simp only[List.map_cons,List.cons_append,List.nil_append]at ha;have a1:=(At.app (l:=[_]) ha).1;have a2:=(At.app (l:=[_]) ha).2;have x1:=Mx.one a1 hp (c6s inp s (a0S c t.d) 0 (t.n % 65536));have a3:=(At.app (l:=[_]) a2).1;have a4:=(At.app (l:=[_]) a2).2;have p1:(stM s (a0S c t.d) (t.n % 65536)).pc=((k+1:Nat):Int):=by simp only[stM];omega
   have x2:=Mx.one a3 p1 (c8h inp (stM s (a0S c t.d) (t.n % 65536)) (a0S c t.d) 0 (t.n / 65536));have hv:(stM s (a0S c t.d) (t.n % 65536)).rg (a0S c t.d).toNat % 65536+t.n / 65536*65536=t.n:=by
    simp only[stM,upM,if_true];omega
   rw[hv]at x2;obtain ⟨n,s',q1,q2,q3,q4,q5⟩:=b0u (code:=code) (inp:=inp) (k:=k+1+1) (s1:=stM (stM s (a0S c t.d) (t.n % 65536)) (a0S c t.d) t.n) (M:=M) (σ':=σ) hm h (d:=t.d) (r:=a0S c t.d) (x:=t.n) hd hrl hMk hap (by simp[stM,upM]) (fun h0=>by unfold a0S;rw[if_pos h0]) (fun j hj hne=>by
    have hj2:j≠(a0S c t.d).toNat:=by
     unfold a0S;split
     ·rename_i h0;exact hne h0
     ·omega
    simp only[stM,upM];rw[if_neg hj2,if_neg hj2]) rfl rfl h.o h.d a4 (by simp only[stM];omega)
   exact ⟨1+(1+n),s',by omega,x1.trans (x2.trans q2),by rw[q3];simp only[List.length_cons,List.length_append,List.length_nil];omega,q4,q5⟩
theorem c4d (hm:MemOk c W E N) (ht:t.op=2) (h:Rl c W N (fun u=>bk1 t u (M u)) rg σ s) (hd:0≤t.d∧t.d<c.pl.length) (hta:0≤t.a∧t.a<c.pl.length) (hrl:rg.length=c.pl.length) (hap:∀ u<c.pl.length,M u=true→u≠t.d.toNat→gP c.pl u≠gP c.pl t.d.toNat) (hp:s.pc=k) (ha:At code k ((b0r c t.d t.a).map (·.1))) :
 GoM code inp c W E N M k s (sR rg t.d (gR rg t.a)) σ (b0r c t.d t.a).length:=by
 have hpd:=hm.cs.ok.p hd.1 hd.2;have hpa:=hm.cs.ok.p hta.1 hta.2;have hMa:bk1 t t.a.toNat (M t.a.toNat)=true:=a7K hta.1 (by simp[a0l,ht]);have hva:b9A c s (c.p t.a)=gR rg t.a:=h.v t.a.toNat (by omega) hMa;have hMk:∀ u<c.pl.length,M u=true→u≠t.d.toNat→bk1 t u (M u)=true:=fun u hu hu1 hne=>a5Q hu1 (fun _=>hne) (fun _=>hd.1);unfold b0r at *
 by_cases e:c.p t.d=c.p t.a
 ·rw[if_pos e]at ha ⊢;refine ⟨0,s,by omega,rfl,by rw[hp];rfl,⟨h.z,fun u hu hu1=>?_,h.w,h.o,h.d,h.n⟩,FrM.refl E s⟩;unfold sR;rw[gds (by omega)];by_cases e2:t.d.toNat=u
  ·rw[if_pos e2,← e2,← hva,← e];rfl
  ·rw[if_neg e2];exact h.v u hu (hMk u hu hu1 (fun e3=>e2 e3.symm))
 ·rw[if_neg e]at ha ⊢;by_cases h0:0<c.p t.d
  ·rw[if_pos h0]at ha ⊢;have hk0:a1z c t.d (c.p t.d)=[]:=by unfold a1z;rw[if_neg (by omega)]
   have hi:a0S c t.d=c.p t.d:=by unfold a0S;rw[if_pos h0]
   by_cases h1:0<c.p t.a
   ·have hf:a0K c t.a (c.p t.d)=[]:=by unfold a0K;rw[if_pos h1]
    have hr:a0B c t.a (c.p t.d)=c.p t.a:=by unfold a0B;rw[if_pos h1]
    rw[hf,hr,if_neg (fun e2=>e e2.symm)]at ha ⊢;have hv2:s.rg (c.p t.a).toNat=gR rg t.a:=by rw[← hva];unfold b9A;rw[if_pos h1]
    refine b1P (n2:=0) (k2:=k) (x:=gR rg t.a) (ci:=⟨3,c.p t.d,c.p t.a,0⟩) hm h hd hrl hap (by omega) rfl (Sm.refl s) hp ?_ (c8i inp s _ _ 0) (by rw[hi,hv2];rfl) rfl rfl h.o h.d rfl (by rw[hi,hk0];rfl);rw[hi,hk0];exact ha
   ·have hf:a0K c t.a (c.p t.d)=[pY 16 (c.p t.d) 0 (c.own (c.p t.a))]:=by unfold a0K;rw[if_neg h1]
    have hr:a0B c t.a (c.p t.d)=c.p t.d:=by unfold a0B;rw[if_neg h1]
    rw[hf,hr,if_pos rfl]at ha ⊢;have hz:s.rg (0:Int).toNat=0:=h.z;have hown:=hm.cs.own (p:=c.p t.a) (by omega);have hlt:=hm.own t.a.toNat (by omega) (by have:c.p t.a=gP c.pl t.a.toNat:=rfl;omega);rw[show gP c.pl t.a.toNat=c.p t.a from rfl]at hlt;have hen:=hm.en;have hN:=h.n;have hv2:s.me.getD (s.rg (0:Int).toNat+c.own (c.p t.a)).toNat default=gR rg t.a:=by rw[← hva];unfold b9A;rw[if_neg h1,hz,Int.zero_add]
    have hmm:=c2x inp s (c.p t.d) 0 (c.own (c.p t.a)) (by rw[hz];omega) (by rw[hz];omega);rw[hv2]at hmm;refine b1P (n2:=0) (k2:=k) (x:=gR rg t.a) (ci:=⟨16,c.p t.d,0,c.own (c.p t.a)⟩) hm h hd hrl hap (by omega) rfl (Sm.refl s) hp ?_ hmm (by rw[hi];rfl) rfl rfl h.o h.d rfl (by rw[hi,hk0];rfl);rw[hi,hk0];exact ha
  ·rw[if_neg h0]at ha ⊢;rw[List.map_append]at ha;obtain ⟨n,s1,g1,g2,g3,g4,g5,g6,g7⟩:=a5d (inp:=inp) hm h hta hMa ⟨by omega,by omega⟩ ha hp;have h1:=h.sm hm.cs.ok g4;obtain ⟨n2,s',q1,q2,q3,q4,q5⟩:=b0u (code:=code) (inp:=inp) (s0:=s) (s1:=s1) (M:=M) (σ':=σ) hm h (d:=t.d) (r:=a0B c t.a 9) (x:=gR rg t.a) hd hrl hMk hap g5 (fun h1=>absurd h1 h0) (fun j hj _=>g4.r j hj) g4.m rfl h1.o h1.d g7 g3;exact ⟨n+n2,s',by omega,g2.trans q2,by rw[q3,List.length_append];omega,q4,q5⟩
theorem c6x (hm:MemOk c W E N) (ht:t.op=3) (h:Rl c W N (fun u=>bk1 t u (M u)) rg σ s) (hd:0≤t.d∧t.d<c.pl.length) (hta:0≤t.a∧t.a<c.pl.length) (htb:0≤t.b∧t.b<c.pl.length) (hk:4≤t.k∧t.k≤15) (hrl:rg.length=c.pl.length) (hap:∀ u<c.pl.length,M u=true→u≠t.d.toNat→gP c.pl u≠gP c.pl t.d.toNat) (hp:s.pc=k) (ha:At code k ((a2e c t).map (·.1))) :
 ((a0R t.k (gR rg t.a) (gR rg t.b)).2=0→GoM code inp c W E N M k s (sR rg t.d (a0R t.k (gR rg t.a) (gR rg t.b)).1) σ (a2e c t).length)∧((a0R t.k (gR rg t.a) (gR rg t.b)).2≠0→EnM code inp s { σ with en:=2 }):=by
 have hMa:bk1 t t.a.toNat (M t.a.toNat)=true:=a7K hta.1 (by simp[a0l,ht]);have hMb:bk1 t t.b.toNat (M t.b.toNat)=true:=a7K htb.1 (by simp[a0l,ht]);have ei:a2e c t=a0K c t.a 9++a0K c t.b 10++[pY t.k (a0S c t.d) (a0B c t.a 9) (a0B c t.b 10)]++a1z c t.d (a0S c t.d):=by simp[a2e,ht]
 rw[ei]at ha ⊢;simp only[List.map_append,List.append_assoc]at ha;obtain ⟨n,s1,g1,g2,g3,g4,g5,g6,g7⟩:=a5d (inp:=inp) hm h hta hMa ⟨by omega,by omega⟩ ha hp;have h1:=h.sm hm.cs.ok g4;obtain ⟨m,s2,f1,f2,f3,f4,f5,f6,f7⟩:=a5d (inp:=inp) hm h1 htb hMb ⟨by omega,by omega⟩ g7 g3;have h2:=h1.sm hm.cs.ok f4;have hra:=b7r hm (v:=t.a) (sp:=9) hta;have va:s2.rg (a0B c t.a 9).toNat=gR rg t.a:=by rw[f6 _ (by omega)];exact g5
 have hmi:=c6v inp s2 t.k (a0S c t.d) (a0B c t.a 9) (a0B c t.b 10) hk;rw[va,f5]at hmi;refine ⟨fun e=>?_,fun e=>?_⟩
 ·rw[if_pos e]at hmi;exact b1P (n2:=n+m) (x:=(a0R t.k (gR rg t.a) (gR rg t.b)).1) hm h hd hrl hap (by omega) (g2.trans f2) (g4.trans f4) f3 f7 hmi rfl rfl rfl h2.o h2.d rfl (by simp only[List.length_append,List.length_cons,List.length_nil]<;>omega)
 ·rw[if_neg e]at hmi;exact ⟨n+m,s2,by omega,(g2.trans f2).end_ (Mn.one (At.app f7).1 f3 hmi (by decide)),h2.o⟩
theorem c4e (hm:MemOk c W E N) (ht:t.op=4) (h:Rl c W N (fun u=>bk1 t u (M u)) rg σ s) (hd:0≤t.d∧t.d<c.pl.length) (hb:0≤t.base∧t.base<W) (hrl:rg.length=c.pl.length) (hap:∀ u<c.pl.length,M u=true→u≠t.d.toNat→gP c.pl u≠gP c.pl t.d.toNat) (hp:s.pc=k) (ha:At code k ((a2e c t).map (·.1))) :
 GoM code inp c W E N M k s (sR rg t.d (gR σ.ws t.base)) σ (a2e c t).length:=by
 have ei:a2e c t=[pY 16 (a0S c t.d) 0 t.base]++a1z c t.d (a0S c t.d):=by simp[a2e,ht]
 rw[ei]at ha ⊢;rw[List.map_append]at ha;have hz:s.rg (0:Int).toNat=0:=h.z;have hww:=hm.ww;have hen:=hm.en;have hle:=hm.le;have hN:=h.n;have hmi:=c2x inp s (a0S c t.d) 0 t.base (by rw[hz];omega) (by rw[hz];omega);rw[hz,Int.zero_add,h.w t.base.toNat (by omega)]at hmi;exact b1P (n2:=0) (k2:=k) (x:=gR σ.ws t.base) hm h hd hrl hap (by omega) rfl (Sm.refl s) hp ha hmi rfl rfl rfl h.o h.d rfl (by simp only[List.length_append,List.length_cons,List.length_nil]<;>omega)
theorem c2A (hm:MemOk c W E N) (ht:t.op=5) (h:Rl c W N (fun u=>bk1 t u (M u)) rg σ s) (hta:0≤t.a∧t.a<c.pl.length) (hb:0≤t.base∧t.base<W) (hwl:σ.ws.length=W) (hp:s.pc=k) (ha:At code k ((a2e c t).map (·.1))) :
 GoM code inp c W E N M k s rg { σ with ws:=sR σ.ws t.base (gR rg t.a) } (a2e c t).length:=by
 have hMa:bk1 t t.a.toNat (M t.a.toNat)=true:=a7K hta.1 (by simp[a0l,ht]);have ei:a2e c t=a0K c t.a 9++[pY 17 (a0B c t.a 9) 0 t.base]:=by simp[a2e,ht]
 rw[ei]at ha ⊢;rw[List.map_append]at ha;obtain ⟨n,s1,g1,g2,g3,g4,g5,g6,g7⟩:=a5d (inp:=inp) hm h hta hMa ⟨by omega,by omega⟩ ha hp;have h1:=h.sm hm.cs.ok g4;have hz:s1.rg (0:Int).toNat=0:=h1.z;have hww:=hm.ww;have hen:=hm.en;have hle:=hm.le;have hN:=h1.n;have hmi:=c4c inp s1 (a0B c t.a 9) 0 t.base (by rw[hz];omega) (by rw[hz];omega);rw[hz,Int.zero_add,g5]at hmi;have hns:¬ a0m t:=by simp[a0m,ht]
 obtain ⟨q1,q2⟩:=b9B (M:=M) (s3:={ s1 with me:=s1.me.set t.base.toNat (gR rg t.a),pc:=s1.pc+1 }) hm h (fun u hu hu1=>a5Q hu1 (fun e=>absurd e hns) (fun e=>absurd e hns)) hwl g4 (a:=t.base.toNat) (x:=gR rg t.a) (by omega) rfl rfl rfl rfl;exact ⟨n+1,_,by omega,g2.trans (Mx.one g7 g3 hmi),by simp only[List.length_append,List.length_cons,List.length_nil];rw[g3];omega,q1,q2⟩
theorem c2B (hm:MemOk c W E N) (ht:t.op=6) (h:Rl c W N (fun u=>bk1 t u (M u)) rg σ s) (hd:0≤t.d∧t.d<c.pl.length) (hta:0≤t.a∧t.a<c.pl.length) (hb:1≤t.size∧t.size≤4096∧0≤t.base∧t.base≤W-t.size) (h0:0≤gR rg t.a) (hrl:rg.length=c.pl.length) (hap:∀ u<c.pl.length,M u=true→u≠t.d.toNat→gP c.pl u≠gP c.pl t.d.toNat) (hp:s.pc=k) (ha:At code k ((a2e c t).map (·.1))) :
 (gR rg t.a<t.size→GoM code inp c W E N M k s (sR rg t.d (gR σ.ws (t.base+gR rg t.a))) σ (a2e c t).length)∧(¬ gR rg t.a<t.size→EnM code inp s { σ with en:=3 }):=by
 have hMa:bk1 t t.a.toNat (M t.a.toNat)=true:=a7K hta.1 (by simp[a0l,ht]);have ei:a2e c t=a0K c t.a 9++[pY 25 (a0B c t.a 9) 0 t.size]++[pY 16 (a0S c t.d) (a0B c t.a 9) t.base]++a1z c t.d (a0S c t.d):=by simp[a2e,ht]
 rw[ei]at ha ⊢;simp only[List.map_append,List.append_assoc]at ha;obtain ⟨n,s1,g1,g2,g3,g4,g5,g6,g7⟩:=a5d (inp:=inp) hm h hta hMa ⟨by omega,by omega⟩ ha hp;have h1:=h.sm hm.cs.ok g4;obtain ⟨b1,b2⟩:=At.app (l:=[_]) g7;have hmi:=c2y inp s1 (a0B c t.a 9) t.size;rw[g5]at hmi;have hww:=hm.ww;have hen:=hm.en;have hle:=hm.le;have hN:=h1.n;refine ⟨fun e=>?_,fun e=>?_⟩
 ·rw[if_pos e]at hmi;have x1:=Mx.one b1 g3 hmi;have hsm:Sm s { s1 with pc:=s1.pc+1 }:=g4.trans ⟨fun _ _=>rfl,rfl,rfl,rfl⟩;have hm2:=c2x inp { s1 with pc:=s1.pc+1 } (a0S c t.d) (a0B c t.a 9) t.base (by simp only;rw[g5];omega) (by simp only;rw[g5];omega);simp only at hm2;rw[g5,h1.w (gR rg t.a+t.base).toNat (by omega),show gR rg t.a+t.base=t.base+gR rg t.a by omega]at hm2;exact b1P (n2:=n+1) (k2:=k+(a0K c t.a 9).length+1) (x:=gR σ.ws (t.base+gR rg t.a)) hm h hd hrl hap (by omega) (g2.trans x1) hsm (by simp only;rw[g3];omega) b2 hm2 rfl rfl rfl h1.o h1.d rfl (by simp only[List.length_append,List.length_cons,List.length_nil]<;>omega)
 ·rw[if_neg e]at hmi;exact ⟨n,s1,by omega,g2.end_ (Mn.one b1 g3 hmi (by decide)),h1.o⟩
theorem c0z (hm:MemOk c W E N) (ht:t.op=7) (h:Rl c W N (fun u=>bk1 t u (M u)) rg σ s) (hta:0≤t.a∧t.a<c.pl.length) (htb:0≤t.b∧t.b<c.pl.length) (hb:1≤t.size∧t.size≤4096∧0≤t.base∧t.base≤W-t.size) (h0:0≤gR rg t.a) (hwl:σ.ws.length=W) (hp:s.pc=k) (ha:At code k ((a2e c t).map (·.1))) :
 (gR rg t.a<t.size→GoM code inp c W E N M k s rg { σ with ws:=sR σ.ws (t.base+gR rg t.a) (gR rg t.b) } (a2e c t).length)∧(¬ gR rg t.a<t.size→EnM code inp s { σ with en:=3 }):=by
 have hMa:bk1 t t.a.toNat (M t.a.toNat)=true:=a7K hta.1 (by simp[a0l,ht]);have hMb:bk1 t t.b.toNat (M t.b.toNat)=true:=a7K htb.1 (by simp[a0l,ht]);have ei:a2e c t=a0K c t.a 9++[pY 25 (a0B c t.a 9) 0 t.size]++a0K c t.b 10++[pY 17 (a0B c t.b 10) (a0B c t.a 9) t.base]:=by simp[a2e,ht]
 rw[ei]at ha ⊢;simp only[List.map_append,List.append_assoc]at ha;obtain ⟨n,s1,g1,g2,g3,g4,g5,g6,g7⟩:=a5d (inp:=inp) hm h hta hMa ⟨by omega,by omega⟩ ha hp;have h1:=h.sm hm.cs.ok g4;obtain ⟨b1,b2⟩:=At.app (l:=[_]) g7;have hmi:=c2y inp s1 (a0B c t.a 9) t.size;rw[g5]at hmi;have hww:=hm.ww;have hen:=hm.en;have hle:=hm.le;refine ⟨fun e=>?_,fun e=>?_⟩
 ·rw[if_pos e]at hmi;have x1:=Mx.one b1 g3 hmi;have hsm:Sm s { s1 with pc:=s1.pc+1 }:=g4.trans ⟨fun _ _=>rfl,rfl,rfl,rfl⟩;have hh:=h.sm hm.cs.ok hsm;obtain ⟨m,s2,f1,f2,f3,f4,f5,f6,f7⟩:=a5d (inp:=inp) (k:=k+(a0K c t.a 9).length+1) hm hh htb hMb ⟨by omega,by omega⟩ b2 (by simp only;rw[g3];omega);have h2:=hh.sm hm.cs.ok f4;have hN:=h2.n;have hra:=b7r hm (v:=t.a) (sp:=9) hta;have va:s2.rg (a0B c t.a 9).toNat=gR rg t.a:=by rw[f6 _ (by omega)];exact g5
  have hm2:=c4c inp s2 (a0B c t.b 10) (a0B c t.a 9) t.base (by rw[va];omega) (by rw[va];omega);rw[va,f5,show gR rg t.a+t.base=t.base+gR rg t.a by omega]at hm2;have hns:¬ a0m t:=by simp[a0m,ht]
  obtain ⟨q1,q2⟩:=b9B (M:=M) (s3:={ s2 with me:=s2.me.set (t.base+gR rg t.a).toNat (gR rg t.b),pc:=s2.pc+1 }) hm h (fun u hu hu1=>a5Q hu1 (fun e=>absurd e hns) (fun e=>absurd e hns)) hwl (hsm.trans f4) (a:=(t.base+gR rg t.a).toNat) (x:=gR rg t.b) (by omega) rfl rfl rfl rfl;exact ⟨n+1+(m+1),_,by omega,(g2.trans x1).trans (f2.trans (Mx.one f7 f3 hm2)),by simp only[List.length_append,List.length_cons,List.length_nil];rw[f3];omega,q1,q2⟩
 ·rw[if_neg e]at hmi;exact ⟨n,s1,by omega,g2.end_ (Mn.one b1 g3 hmi (by decide)),h1.o⟩
theorem c6y (hm:MemOk c W E N) (ht:t.op=8) (h:Rl c W N (fun u=>bk1 t u (M u)) rg σ s) (hd:0≤t.d∧t.d<c.pl.length) (hrl:rg.length=c.pl.length) (hap:∀ u<c.pl.length,M u=true→u≠t.d.toNat→gP c.pl u≠gP c.pl t.d.toNat) (hp:s.pc=k) (ha:At code k ((a2e c t).map (·.1))) :
 (σ.rd<inp.size→GoM code inp c W E N M k s (sR rg t.d (a1v inp σ.rd)) { σ with rd:=σ.rd+1 } (a2e c t).length)∧(¬ σ.rd<inp.size→GoM code inp c W E N M k s (sR rg t.d 256) σ (a2e c t).length):=by
 have ei:a2e c t=[pY 23 (a0S c t.d) 0 0]++a1z c t.d (a0S c t.d):=by simp[a2e,ht]
 rw[ei]at ha ⊢;rw[List.map_append]at ha;have hmi:=c6w inp s (a0S c t.d);rw[h.d]at hmi;refine ⟨fun e=>?_,fun e=>?_⟩
 ·rw[if_pos e]at hmi;exact b1P (n2:=0) (k2:=k) (x:=a1v inp σ.rd) hm h hd hrl hap (by omega) rfl (Sm.refl s) hp ha hmi rfl rfl rfl h.o rfl rfl (by simp only[List.length_append,List.length_cons,List.length_nil]<;>omega)
 ·rw[if_neg e]at hmi;exact b1P (n2:=0) (k2:=k) (x:=256) hm h hd hrl hap (by omega) rfl (Sm.refl s) hp ha hmi rfl rfl rfl h.o h.d rfl (by simp only[List.length_append,List.length_cons,List.length_nil]<;>omega)
theorem c6z (hm:MemOk c W E N) (ht:t.op=9) (h:Rl c W N (fun u=>bk1 t u (M u)) rg σ s) (hta:0≤t.a∧t.a<c.pl.length) (hp:s.pc=k) (ha:At code k ((a2e c t).map (·.1))) :
 (65536≤σ.out.length→EnM code inp s { σ with en:=4 })∧(¬ 65536≤σ.out.length→GoM code inp c W E N M k s rg { σ with out:=σ.out++[b8b (gR rg t.a)] } (a2e c t).length):=by
 have hMa:bk1 t t.a.toNat (M t.a.toNat)=true:=a7K hta.1 (by simp[a0l,ht]);have ei:a2e c t=a0K c t.a 9++[pY 24 (a0B c t.a 9) 0 0]:=by simp[a2e,ht]
 rw[ei]at ha ⊢;rw[List.map_append]at ha;obtain ⟨n,s1,g1,g2,g3,g4,g5,g6,g7⟩:=a5d (inp:=inp) hm h hta hMa ⟨by omega,by omega⟩ ha hp;have h1:=h.sm hm.cs.ok g4;have hmi:=c8k inp s1 (a0B c t.a 9);rw[g5,h1.o]at hmi;have hns:¬ a0m t:=by simp[a0m,ht]
 refine ⟨fun e=>?_,fun e=>?_⟩
 ·rw[if_pos e]at hmi;exact ⟨n,s1,by omega,g2.end_ (Mn.one g7 g3 hmi (by decide)),h1.o⟩
 ·rw[if_neg e]at hmi;refine ⟨n+1,_,by omega,g2.trans (Mx.one g7 g3 hmi),by simp only[List.length_append,List.length_cons,List.length_nil];rw[g3];omega,⟨h1.z,fun u hu hu1=>?_,h1.w,rfl,h1.d,h1.n⟩,fun a ha=>by rw[← g4.m]⟩;exact h1.v u hu (a5Q hu1 (fun e=>absurd e hns) (fun e=>absurd e hns))
theorem c8l {call:Nat→Bst→Bst} {f:Int} (hm:MemOk c W E N) (ht:InsOk c t) (hr:a3L t f W) (hne:t.op≠10) (hR:WfR c.pl.length rg) (hw:σ.ws.length=W) (h0:σ.en=0) (h:Rl c W N (fun u=>bk1 t u (M u)) rg σ s)
 (hap:a0m t→∀ u<c.pl.length,M u=true→u≠t.d.toNat→gP c.pl u≠gP c.pl t.d.toNat) (hp:s.pc=k) (ha:At code k ((a2e c t).map (·.1))) :
 ((opF call inp t rg σ).2.en=0→GoM code inp c W E N M k s (opF call inp t rg σ).1 (opF call inp t rg σ).2 (a2e c t).length)∧((opF call inp t rg σ).2.en≠0→EnM code inp s (opF call inp t rg σ).2):=by
 have ho:=ht.o;have hop:t.op=1∨t.op=2∨t.op=3∨t.op=4∨t.op=5∨t.op=6∨t.op=7∨t.op=8∨t.op=9:=by omega
 have go:∀ {P:Prop},P→(σ.en=0→P)∧(σ.en≠0→EnM code inp s σ):=fun p=>⟨fun _=>p,fun e=>absurd h0 e⟩
 unfold a3L at hr;unfold opF;rcases hop with e | e | e | e | e | e | e | e | e<;>simp only[e,Int.reduceEq,if_true,if_false,or_false,or_true,or_self,false_or,true_or]at hr ⊢
 ·have hs:a0m t:=by simp[a0m,e]
  refine ⟨fun _=>?_,fun e=>absurd h0 e⟩;have ei:a2e c t=a2K c t.d t.n:=by simp[a2e,e]
  rw[ei]at ha ⊢;exact c2z hm h (ht.d hs) ht.n hR.n (hap hs) hp ha
 ·have hs:a0m t:=by simp[a0m,e]
  refine ⟨fun _=>?_,fun e=>absurd h0 e⟩;have ei:a2e c t=b0r c t.d t.a:=by simp[a2e,e]
  rw[ei]at ha ⊢;exact c4d hm e h (ht.d hs) (ht.a (by omega)) hR.n (hap hs) hp ha
 ·have hs:a0m t:=by simp[a0m,e]
  obtain ⟨k1,k2⟩:=c6x (code:=code) (inp:=inp) hm e h (ht.d hs) (ht.a (by omega)) (ht.b (by omega)) ⟨hr.1,hr.2.1⟩ hR.n (hap hs) hp ha;by_cases q:(a0R t.k (gR rg t.a) (gR rg t.b)).2=0
  ·simp only[if_pos q];exact ⟨fun _=>k1 q,fun e=>absurd h0 e⟩
  ·simp only[if_neg q];exact ⟨fun e=>absurd e (by decide),fun _=>k2 q⟩
 ·have hs:a0m t:=by simp[a0m,e]
  exact ⟨fun _=>c4e hm e h (ht.d hs) ⟨hr.2.1,hr.2.2.1⟩ hR.n (hap hs) hp ha,fun e=>absurd h0 e⟩
 ·exact ⟨fun _=>c2A hm e h (ht.a (by omega)) ⟨hr.2.1,hr.2.2.1⟩ hw hp ha,fun e=>absurd h0 e⟩
 ·have hs:a0m t:=by simp[a0m,e]
  have hta:=ht.a (by omega);obtain ⟨k1,k2⟩:=c2B (code:=code) (inp:=inp) hm e h (ht.d hs) hta hr.2 (b1Z hR hta).1 hR.n (hap hs) hp ha;by_cases q:gR rg t.a<t.size
  ·simp only[if_pos q];exact ⟨fun _=>k1 q,fun e=>absurd h0 e⟩
  ·simp only[if_neg q];exact ⟨fun e=>absurd e (by decide),fun _=>k2 q⟩
 ·have hta:=ht.a (by omega);obtain ⟨k1,k2⟩:=c0z (code:=code) (inp:=inp) (M:=M) hm e h hta (ht.b (by omega)) hr.2 (b1Z hR hta).1 hw hp ha;by_cases q:gR rg t.a<t.size
  ·simp only[if_pos q];exact ⟨fun _=>k1 q,fun e=>absurd h0 e⟩
  ·simp only[if_neg q];exact ⟨fun e=>absurd e (by decide),fun _=>k2 q⟩
 ·have hs:a0m t:=by simp[a0m,e]
  obtain ⟨k1,k2⟩:=c6y (code:=code) (inp:=inp) hm e h (ht.d hs) hR.n (hap hs) hp ha;by_cases q:σ.rd<inp.size
  ·simp only[if_pos q];exact ⟨fun _=>k1 q,fun e=>absurd h0 e⟩
  ·simp only[if_neg q];exact ⟨fun _=>k2 q,fun e=>absurd h0 e⟩
 ·obtain ⟨k1,k2⟩:=c6z (code:=code) (inp:=inp) (M:=M) hm e h (ht.a (by omega)) hp ha;by_cases q:65536≤σ.out.length
  ·simp only[if_pos q];exact ⟨fun e=>absurd e (by decide),fun _=>k1 q⟩
  ·simp only[if_neg q];exact ⟨fun _=>k2 q,fun e=>absurd h0 e⟩
end
def c9S (b:BP) (ls:List (List Int)) (rw:Nat→List Bool) (S:S3) (i:Nat):Prop:=∃ pre post,S.l=pre++b5u (cxO b ls i) (rw i) (fO b i)++post∧S.en.getD i default=((pre.length:Nat):Int)∧S.rows.getD i []=a8e (cxO b ls i) (pre++a3M (cxO b ls i) (rw i)).length (fO b i).bks (fO b i).bks.length
structure LayB (b:BP) (ls:List (List Int)) (rw:Nat→List Bool) (S:S3) (o:List Nat):Prop where
 en:S.en.length=b.funcs.length
 rows:S.rows.length=b.funcs.length
 lay:∀ i ∈ o,c9S b ls rw S i
section
variable {b:BP} {ls:List (List Int)} {rw:Nat→List Bool}
theorem LayB.step {S:S3} {o:List Nat} (h:LayB b ls rw S o) {i:Nat} (hi:i<b.funcs.length) (hn:i ∉ o):LayB b ls rw (a4w b ls rw S i) (o++[i]):=by
 refine ⟨by simp[a4w,h.en],by simp[a4w,h.rows],fun j hj=>?_⟩;by_cases e:j=i
 ·subst e;exact ⟨S.l,[],by simp[a4w],by simp only[a4w];exact a7U (by rw[h.en];exact hi),by simp only[a4w];exact a7U (by rw[h.rows];exact hi)⟩
 ·rcases List.mem_append.1 hj with hj | hj
  ·obtain ⟨pre,post,h1,h2,h3⟩:=h.lay j hj;refine ⟨pre,post++b5u (cxO b ls i) (rw i) (fO b i),?_,?_,?_⟩
   ·show S.l++b5u (cxO b ls i) (rw i) (fO b i)=pre++b5u (cxO b ls j) (rw j) (fO b j)++(post++b5u (cxO b ls i) (rw i) (fO b i))
    rw[← List.append_assoc,← h1]
   ·simp only[a4w];rw[a9L (fun e2=>e e2.symm)];exact h2
   ·simp only[a4w];rw[a9L (fun e2=>e e2.symm)];exact h3
  ·exact absurd (List.mem_singleton.1 hj) e
theorem c9u (hn:1≤b.funcs.length):∀ j≤b.funcs.length-1,LayB b ls rw (b2n b ls rw (b3Q b.funcs.length j)) (b3Q b.funcs.length j)∧(b2n b ls rw (b3Q b.funcs.length j)).en.getD (b.funcs.length-1) default=0
 | 0,_=>by
  have h0:LayB b ls rw ⟨[],List.replicate b.funcs.length 0,List.replicate b.funcs.length []⟩ []:=⟨by simp,by simp,fun i hi=>absurd hi (by simp)⟩
  have:=h0.step (i:=b.funcs.length-1) (by omega) (by simp);exact ⟨this,by show (a4w b ls rw _ _).en.getD _ _=0;simp only[a4w];rw[a7U (by simp;omega)];rfl⟩
 | j+1,h=>by
  obtain ⟨h1,h2⟩:=c9u hn j (by omega);rw[b3s,a9J];refine ⟨h1.step (by omega) ?_,?_⟩
  ·unfold b3Q;simp only[List.mem_cons,List.mem_range,not_or];omega
  ·simp only[a4w];rw[a9L (by omega)];exact h2
end
def b5J (b:BP) (ls:List (List Int)) (rw:Nat→List Bool) (i:Nat):Nat:=((a3I b ls rw).en.getD i default).toNat
def fxO (b:BP) (ls:List (List Int)) (rw:Nat→List Bool) (l:List Sy):List Ci:=b3y (a3I b ls rw).en (a3I b ls rw).rows l
def cdO (b:BP) (ls:List (List Int)) (rw:Nat→List Bool):List Ci:=fxO b ls rw (a3I b ls rw).l
def stO (b:BP) (ls:List (List Int)) (rw:Nat→List Bool) (i k:Nat):Nat:=b5J b ls rw i+(a3M (cxO b ls i) (rw i)).length+(a1n (cxO b ls i) 0 ((fO b i).bks.take k)).length
theorem b7s (c:Cx) (m:List Bk):∀ (l:List Bk) (j:Nat),a1n c j (l++m)=a1n c j l++a1n c (j+l.length) m
 | [],j=>by simp[a1n]
 | x::l,j=>by
  simp only[List.cons_append,a1n,b7s c m l,List.length_cons,List.append_assoc];rw[show j+1+l.length=j+(l.length+1) by omega]
theorem At.midO (A B C:List Ci):At (A++B++C) A.length B:=fun i hi=>by
 rw[List.getElem?_append_left (by rw[List.length_append];omega),List.getElem?_append_right (by omega)];congr 1;omega
section
variable {b:BP} {ls:List (List Int)} {rw:Nat→List Bool}
theorem a7L (a c:List Sy):fxO b ls rw (a++c)=fxO b ls rw a++fxO b ls rw c:=by simp[fxO,b3y]
theorem b0v (a:List Sy):(fxO b ls rw a).length=a.length:=by simp[fxO,b3y]
theorem a9M {l:List Sy} (h:∀ y ∈ l,y.2=none):fxO b ls rw l=l.map (·.1):=by
 unfold fxO b3y;refine List.map_congr_left fun y hy=>?_;rw[h y hy]
theorem b5y (hn:1≤b.funcs.length) {i:Nat} (hi:i<b.funcs.length):∃ pre post,(a3I b ls rw).l=pre++b5u (cxO b ls i) (rw i) (fO b i)++post∧b5J b ls rw i=pre.length∧(a3I b ls rw).en.getD i default=((b5J b ls rw i:Nat):Int)∧(a3I b ls rw).rows.getD i []=a8e (cxO b ls i) (b5J b ls rw i+(a3M (cxO b ls i) (rw i)).length) (fO b i).bks (fO b i).bks.length:=by
 obtain ⟨pre,post,h1,h2,h3⟩:=(c9u (ls:=ls) (rw:=rw) hn _ (Nat.le_refl _)).1.lay i (b5x hi);have e:b5J b ls rw i=pre.length:=by
  unfold b5J;rw[show (a3I b ls rw).en.getD i default=((pre.length:Nat):Int) from h2];simp
 refine ⟨pre,post,h1,e,by rw[e];exact h2,?_⟩;rw[e];rw[List.length_append]at h3;exact h3
theorem c6A (hn:1≤b.funcs.length) {i:Nat} (hi:i<b.funcs.length):(a3I b ls rw).en.getD i default=((b5J b ls rw i:Nat):Int):=(b5y hn hi).choose_spec.choose_spec.2.2.1
theorem c2C (hn:1≤b.funcs.length):b5J b ls rw (b.funcs.length-1)=0:=by
 unfold b5J;rw[show (a3I b ls rw).en.getD (b.funcs.length-1) default=0 from (c9u (ls:=ls) (rw:=rw) hn _ (Nat.le_refl _)).2];rfl
theorem c4f (hn:1≤b.funcs.length) {i:Nat} (hi:i<b.funcs.length):At (cdO b ls rw) (b5J b ls rw i) (fxO b ls rw (a3M (cxO b ls i) (rw i))):=by
 obtain ⟨pre,post,h1,h2,_,_⟩:=b5y (ls:=ls) (rw:=rw) hn hi;have:cdO b ls rw=fxO b ls rw pre++fxO b ls rw (a3M (cxO b ls i) (rw i))++fxO b ls rw (a1n (cxO b ls i) 0 (fO b i).bks++post):=by
  unfold cdO;rw[h1];simp only[b5u,a7L,List.append_assoc]
 have ha:=At.midO (fxO b ls rw pre) (fxO b ls rw (a3M (cxO b ls i) (rw i))) (fxO b ls rw (a1n (cxO b ls i) 0 (fO b i).bks++post));rw[← this,b0v,← h2]at ha;exact ha
theorem c6B {f:BF} {k:Nat} (hk:k<f.n):f.bks=f.bks.take k++[f.bk k]++f.bks.drop (k+1):=by
 have hk':k<f.bks.length:=hk;have:f.bk k=f.bks[k]:=by unfold BF.bk;simp[List.getD,hk']
 rw[this];simp
theorem c6C (hn:1≤b.funcs.length) {i:Nat} (hi:i<b.funcs.length) {k:Nat} (hk:k<(fO b i).n):At (cdO b ls rw) (stO b ls rw i k) (fxO b ls rw (c0t (cxO b ls i) ((fO b i).bk k) (k+1:Nat))):=by
 obtain ⟨pre,post,h1,h2,_,_⟩:=b5y (ls:=ls) (rw:=rw) hn hi;have hk':k<(fO b i).bks.length:=hk;have hc:a1n (cxO b ls i) 0 (fO b i).bks=a1n (cxO b ls i) 0 ((fO b i).bks.take k)++(c0t (cxO b ls i) ((fO b i).bk k) (k+1:Nat)++a1n (cxO b ls i) (k+1) ((fO b i).bks.drop (k+1))):=by
  conv=>lhs;rw[c6B hk]
  rw[List.append_assoc,b7s];simp only[List.cons_append,List.nil_append,a1n,Nat.zero_add,List.length_take];rw[show min k (fO b i).bks.length=k by omega]
 have:cdO b ls rw=fxO b ls rw (pre++a3M (cxO b ls i) (rw i)++a1n (cxO b ls i) 0 ((fO b i).bks.take k))++fxO b ls rw (c0t (cxO b ls i) ((fO b i).bk k) (k+1:Nat))++fxO b ls rw (a1n (cxO b ls i) (k+1) ((fO b i).bks.drop (k+1))++post):=by
  unfold cdO;rw[h1,b5u,hc];simp only[a7L,List.append_assoc]
 have ha:=At.midO (fxO b ls rw (pre++a3M (cxO b ls i) (rw i)++a1n (cxO b ls i) 0 ((fO b i).bks.take k))) (fxO b ls rw (c0t (cxO b ls i) ((fO b i).bk k) (k+1:Nat))) (fxO b ls rw (a1n (cxO b ls i) (k+1) ((fO b i).bks.drop (k+1))++post));rw[← this,b0v]at ha;unfold stO;rw[h2];rw[List.length_append,List.length_append]at ha;exact ha
theorem c4g {i k:Nat} (hk:k<(fO b i).n):stO b ls rw i (k+1)=stO b ls rw i k+(c0t (cxO b ls i) ((fO b i).bk k) (k+1:Nat)).length:=by
 have hk':k<(fO b i).bks.length:=hk;have e:(fO b i).bks.take (k+1)=(fO b i).bks.take k++[(fO b i).bk k]:=by
  have:(fO b i).bk k=(fO b i).bks[k]:=by unfold BF.bk;simp[List.getD,hk']
  rw[this,List.take_add_one,List.getElem?_eq_getElem hk'];rfl
 unfold stO;rw[e,b0s,List.length_append,List.length_take,show min k (fO b i).bks.length=k by omega,Nat.zero_add];omega
theorem c4h (i:Nat):stO b ls rw i 0=b5J b ls rw i+(a3M (cxO b ls i) (rw i)).length:=by simp[stO,a1n]
theorem c9T (hn:1≤b.funcs.length) {i:Nat} (hi:i<b.funcs.length) {to:Int} (ht:0≤to∧to<((fO b i).bks.length:Int)):tgt (a3I b ls rw).en (a3I b ls rw).rows ((i:Int),to)=((stO b ls rw i to.toNat:Nat):Int):=by
 obtain ⟨pre,post,_,_,_,h4⟩:=b5y (ls:=ls) (rw:=rw) hn hi;unfold tgt;rw[if_pos ht.1];simp only[Int.toNat_natCast];rw[h4];unfold a8e;rw[List.getD,List.getElem?_map,List.getElem?_range (by omega)];simp only[Option.map_some,Option.getD_some];rw[if_pos (by omega)];rfl
theorem c4i (hn:1≤b.funcs.length) {i:Nat} (hi:i<b.funcs.length):tgt (a3I b ls rw).en (a3I b ls rw).rows ((i:Int),-1)=((b5J b ls rw i:Nat):Int):=by
 unfold tgt;rw[if_neg (show ¬ (0:Int)≤-1 by decide)];simp only[Int.toNat_natCast];exact c6A hn hi
end
structure Eqv (σ τ:Bst):Prop where
 ws:σ.ws=τ.ws
 out:σ.out=τ.out
 rd:σ.rd=τ.rd
 en:σ.en=τ.en
theorem Eqv.refl (σ:Bst):Eqv σ σ:=⟨rfl,rfl,rfl,rfl⟩
theorem Eqv.end_ {σ τ:Bst} (h:Eqv σ τ) (e:Int):Eqv { σ with en:=e } { τ with en:=e }:=⟨h.ws,h.out,h.rd,rfl⟩
theorem getD_set (l:List Int) (i j:Nat) (x:Int) (hj:j<l.length):(l.set i x).getD j default=if i=j then x else l.getD j default:=by
 simp only[List.getD];rw[List.getElem?_set];by_cases h:i=j
 ·subst h;simp[hj]
 ·rw[if_neg h,if_neg h]
theorem c8m (call:Nat→Bst→Bst) (inp:ByteArray) (t:Tac) (rg:List Int) (σ:Bst) (h:t.op≠10):(opF call inp t rg σ).2.st=σ.st:=by
 unfold opF;by_cases h1:t.op=1
 ·rw[if_pos h1]
  try rfl
 rw[if_neg h1];by_cases h2:t.op=2
 ·rw[if_pos h2]
  try rfl
 rw[if_neg h2];by_cases h3:t.op=3
 ·rw[if_pos h3];by_cases hc:(a0R t.k (gR rg t.a) (gR rg t.b)).2=0
  ·rw[if_pos hc];try rfl
  ·rw[if_neg hc];try rfl
 rw[if_neg h3];by_cases h4:t.op=4
 ·rw[if_pos h4]
  try rfl
 rw[if_neg h4];by_cases h5:t.op=5
 ·rw[if_pos h5]
  try rfl
 rw[if_neg h5];by_cases h6:t.op=6
 ·rw[if_pos h6];by_cases hc:gR rg t.a<t.size
  ·rw[if_pos hc];try rfl
  ·rw[if_neg hc];try rfl
 rw[if_neg h6];by_cases h7:t.op=7
 ·rw[if_pos h7];by_cases hc:gR rg t.a<t.size
  ·rw[if_pos hc];try rfl
  ·rw[if_neg hc];try rfl
 rw[if_neg h7];by_cases h8:t.op=8
 ·rw[if_pos h8];by_cases hc:σ.rd<inp.size
  ·rw[if_pos hc];try rfl
  ·rw[if_neg hc];try rfl
 rw[if_neg h8];by_cases h9:t.op=9
 ·rw[if_pos h9];by_cases hc:65536≤σ.out.length
  ·rw[if_pos hc];try rfl
  ·rw[if_neg hc];try rfl
 rw[if_neg h9];by_cases h10:t.op=10
 ·rw[if_pos h10];exact absurd h10 h
 rw[if_neg h10]
structure BaO (W N:Nat) (σ:Bst) (s:Mc):Prop where
 z:s.rg 0=0
 w:∀ a<W,s.me.getD a default=σ.ws.getD a default
 o:s.out=σ.out
 d:s.rd=σ.rd
 n:s.me.length=N
theorem Rl.st {c:Cx} {W N:Nat} {M:Nat→Bool} {rg:List Int} {σ:Bst} {s:Mc} (h:Rl c W N M rg σ s) (n:Nat):Rl c W N M rg { σ with st:=n } s:=⟨h.z,h.v,h.w,h.o,h.d,h.n⟩
def wsA (b:BP) (ls:List (List Int)) (j:Nat):Int:=b.words+a2J (ls.take j)
def bkP (b:BP) (ls:List (List Int)):Int:=b.words+a2J ls
def FrJ (b:BP) (ls:List (List Int)) (m j:Nat) (s s':Mc):Prop:=∀ a:Nat,wsA b ls (j+1)≤(a:Int)→¬ (bkP b ls≤(a:Int)∧(a:Int)<bkP b ls+m)→s'.me.getD a default=s.me.getD a default
theorem FrJ.refl (b:BP) (ls:List (List Int)) (m j:Nat) (s:Mc):FrJ b ls m j s s:=fun _ _ _=>rfl
theorem FrJ.trans {b:BP} {ls:List (List Int)} {m j:Nat} {x y z:Mc} (h:FrJ b ls m j x y) (k:FrJ b ls m j y z):FrJ b ls m j x z:=fun a h1 h2=>(k a h1 h2).trans (h a h1 h2)
theorem FrJ.mono {b:BP} {ls:List (List Int)} {m m' j j':Nat} {x y:Mc} (h:FrJ b ls m j x y) (hm:m≤m') (hj:wsA b ls (j+1)≤wsA b ls (j'+1)):FrJ b ls m' j' x y:=fun a h1 h2=>h a (Int.le_trans hj h1) (fun h3=>h2 ⟨h3.1,by omega⟩)
theorem FrM.j {b:BP} {ls:List (List Int)} {m j E:Nat} {x y:Mc} (h:FrM E x y) (hE:(E:Int)≤wsA b ls (j+1)):FrJ b ls m j x y:=fun a h1 _=>h a (by omega)
def c4j (b:BP) (ls:List (List Int)) (rw:Nat→List Bool) (inp:ByteArray) (fuel:Nat) (call:Nat→Bst→Bst) (k:Nat):Prop :=
 ∀ j<k,∀ (σ:Bst) (s:Mc),WfB inp fuel b.words.toNat σ→σ.en=0→BaO b.words.toNat (a1M b ls).toNat σ s→s.pc=((b5J b ls rw j:Nat):Int) →
  ((call j σ).en=0→∃ n s',n≤63*((call j σ).st-σ.st)+62∧Mx (cdO b ls rw) inp n s s'∧s'.pc=s.rg 12∧BaO b.words.toNat (a1M b ls).toNat (call j σ) s'∧FrJ b ls (j+1) j s s') ∧
  ((call j σ).en≠0→(call j σ).en≠5→∃ n s',n+1≤63*((call j σ).st-σ.st)+62∧Mn (cdO b ls rw) inp n s (call j σ).en s'∧s'.out=(call j σ).out)
def ApP (pl:List Int) (m:Nat) (M:Nat→Bool):List Tac→Prop
 | []=>True
 | t::l=>(a0m t→∀ u<m,thru1 l u (M u)=true→u≠t.d.toNat→gP pl u≠gP pl t.d.toNat)∧(t.op=10→∀ u<m,thru1 l u (M u)=true→gP pl u<0)∧ApP pl m M l
theorem c4U {pl:List Int} {m:Nat} {M:Nat→Bool}:∀ (l:List Tac),(∀ i<l.length,a0m (l.getD i default)→∀ u<m,thru1 (l.drop (i+1)) u (M u)=true→u≠(l.getD i default).d.toNat→gP pl u≠gP pl (l.getD i default).d.toNat) →
 (∀ i<l.length,(l.getD i default).op=10→∀ u<m,thru1 (l.drop (i+1)) u (M u)=true→gP pl u<0)→ApP pl m M l
 | [],_,_=>trivial
 | t::l,h,k=>by
  refine ⟨fun hs u hu h1 h2=>?_,fun hs u hu h1=>?_,c4U l (fun i hi=>?_) fun i hi=>?_⟩
  ·have:=h 0 (by simp);simp only[List.getD_cons_zero,List.drop_succ_cons,List.drop_zero]at this;exact this hs u hu h1 h2
  ·have:=k 0 (by simp);simp only[List.getD_cons_zero,List.drop_succ_cons,List.drop_zero]at this;exact this hs u hu h1
  ·have:=h (i+1) (by simp;omega);simp only[List.getD_cons_succ,List.drop_succ_cons]at this;exact this
  ·have:=k (i+1) (by simp;omega);simp only[List.getD_cons_succ,List.drop_succ_cons]at this;exact this
theorem c2D (c:Cx) (t:Tac) (h:t.op≠10):∀ y ∈ a2e c t,y.2=none:=by
 have f:∀ v s,∀ y ∈ a0K c v s,y.2=none:=fun v s y hy=>by
  unfold a0K at hy;split at hy
  ·cases hy
  ·rw[List.mem_singleton.1 hy];rfl
 have kp:∀ v s,∀ y ∈ a1z c v s,y.2=none:=fun v s y hy=>by
  unfold a1z at hy;split at hy
  ·rw[List.mem_singleton.1 hy];rfl
  ·cases hy
 have ap:∀ {l m:List Sy},(∀ y ∈ l,y.2=none)→(∀ y ∈ m,y.2=none)→∀ y ∈ l++m,y.2=none:=fun h1 h2 y hy=>(List.mem_append.1 hy).elim (h1 y) (h2 y);have on:∀ op x z w,∀ y ∈ [pY op x z w],y.2=none:=fun op x z w y hy=>by rw[List.mem_singleton.1 hy];rfl
 have nl:∀ y ∈ ([]:List Sy),y.2=none:=fun y hy=>by cases hy
 unfold a2e;split
 ·unfold a2K;split
  ·exact kp _ _
  ·refine ap (l:=[_]) (on _ _ _ _) (ap ?_ (kp _ _));split
   ·exact nl
   ·exact on _ _ _ _
 split
 ·unfold b0r;split
  ·exact nl
  split
  ·refine ap (f _ _) ?_;split
   ·exact nl
   ·exact on _ _ _ _
  ·exact ap (f _ _) (kp _ _)
 split
 ·exact ap (ap (ap (f _ _) (f _ _)) (on _ _ _ _)) (kp _ _)
 split
 ·exact ap (on _ _ _ _) (kp _ _)
 split
 ·exact ap (f _ _) (on _ _ _ _)
 split
 ·exact ap (ap (ap (f _ _) (on _ _ _ _)) (on _ _ _ _)) (kp _ _)
 split
 ·exact ap (ap (ap (f _ _) (on _ _ _ _)) (f _ _)) (on _ _ _ _)
 split
 ·exact ap (on _ _ _ _) (kp _ _)
 split
 ·exact ap (f _ _) (on _ _ _ _)
 try rw[if_neg h]
 exact nl
theorem c9I {a b c n m k:Nat} (h1:n≤63*(b-a)) (h2:m+k≤63*(c-b)) (h3:a≤b) (h4:b≤c):n+m+k≤63*(c-a):=by omega
theorem c4k (inp:ByteArray) (m:Mc) (a c:Int):mI inp m ⟨21,a,0,c⟩=({ m with rg:=upM m.rg a.toNat (m.pc+1),pc:=c },0):=by simp[mI]
section
variable {b:BP} {ls:List (List Int)} {rw:Nat→List Bool} {inp:ByteArray} {fuel:Nat}
theorem c2E (h:FairP b ls) {i j:Nat} (hij:i≤j) (hj:j≤b.funcs.length):wsA b ls i≤wsA b ls j:=by
 have hl:=h.hold.len;have:=a9K h.hold.wds i (j-i) (by omega);rw[show i+(j-i)=j by omega]at this;unfold wsA;omega
theorem b5z (h:FairP b ls) {j:Nat} (hj:j≤b.funcs.length):b.words≤wsA b ls j∧wsA b ls j≤bkP b ls:=by
 have hl:=h.hold.len;have h1:=h.tot j (by omega);have h2:=a9K h.hold.wds j (ls.length-j) (by omega);rw[show j+(ls.length-j)=ls.length by omega,List.take_of_length_le (Nat.le_refl _)]at h2;unfold wsA bkP;omega
theorem b5A (b:BP) (ls:List (List Int)):a1M b ls=bkP b ls+((b.funcs.length:Int)-1):=rfl
theorem c4V (h:FairP b ls) {i:Nat} (hi:i<b.funcs.length) {v:Nat} (hv:v<(cxO b ls i).pl.length) (hn:gP (cxO b ls i).pl v<0):wsA b ls i≤(cxO b ls i).own (gP (cxO b ls i).pl v)∧(cxO b ls i).own (gP (cxO b ls i).pl v)<wsA b ls (i+1):=by
 have hl:=h.hold.len;have hx:=(h.cx hi).ok.pv v hv;have hst:=a7I ls (show i<ls.length by omega);have hg:gP (cxO b ls i).ws i=wsA b ls i:=by simp[gP,cxO,wsO,List.getD,hi,wsA]
 have hw:=c5N (pl:=(cxO b ls i).pl) (v:=v) hv (by omega) hn;have hw2:a8x (cxO b ls i).pl=a8x (ls.getD i default):=rfl;have hfn:(cxO b ls i).fn=i:=rfl;unfold Cx.own;rw[hfn,hg];unfold wsA at *
 omega
theorem c8n (h:FairP b ls) {i:Nat} (hi:i<b.funcs.length):MemOk (cxO b ls i) b.words.toNat (wsA b ls (i+1)).toNat (a1M b ls).toNat:=by
 have hw:=h.words;have h1:=b5z h (j:=i) (by omega);have h2:=b5z h (j:=i+1) (by omega);have h3:=h.tot ls.length (Nat.le_refl _);rw[List.take_of_length_le (Nat.le_refl _)]at h3;have h20:=h.few.l;have hd:=b5A b ls;have hb:bkP b ls=b.words+a2J ls:=rfl;refine ⟨h.cx hi,by omega,by omega,by omega,fun v hv hn=>?_⟩;have:=c4V h hi hv hn;omega
theorem c4W (h:OfH b ls rw) {j:Nat} (hj:j<b.funcs.length) {call:Nat→Bst→Bst} (hc:c4j b ls rw inp fuel call j) (hcp:b5h inp fuel b.words.toNat j call) {M:Nat→Bool} :
 ∀ (l:List Tac) (k:Nat) (rg:List Int) (σ:Bst) (s:Mc),(∀ t ∈ l,InsOk (cxO b ls j) t∧FitsT t j (cxO b ls j).pl.length b.words∧a1b t.n)→ApP (cxO b ls j).pl (cxO b ls j).pl.length M l→WfR (cxO b ls j).pl.length rg→WfB inp fuel b.words.toNat σ→σ.en=0 →
  Rl (cxO b ls j) b.words.toNat (a1M b ls).toNat (fun u=>thru1 l u (M u)) rg σ s→s.pc=k→At (cdO b ls rw) k (fxO b ls rw (l.flatMap (a2e (cxO b ls j)))) →
  ((a5p call inp fuel l rg σ).2.en=0→∃ n s',n≤63*((a5p call inp fuel l rg σ).2.st-σ.st)∧Mx (cdO b ls rw) inp n s s'∧s'.pc=((k+(l.flatMap (a2e (cxO b ls j))).length:Nat):Int)∧Rl (cxO b ls j) b.words.toNat (a1M b ls).toNat M (a5p call inp fuel l rg σ).1 (a5p call inp fuel l rg σ).2 s'∧FrJ b ls j j s s') ∧
  ((a5p call inp fuel l rg σ).2.en≠0→(a5p call inp fuel l rg σ).2.en≠5→∃ n s',n+1≤63*((a5p call inp fuel l rg σ).2.st-σ.st)∧Mn (cdO b ls rw) inp n s (a5p call inp fuel l rg σ).2.en s'∧s'.out=(a5p call inp fuel l rg σ).2.out)
 | [],k,rg,σ,s,_,_,_,_,h0,hr,hp,_=>⟨fun _=>⟨0,s,Nat.zero_le _,rfl,by rw[hp];rfl,hr,FrJ.refl _ _ _ _ _⟩,fun e=>absurd h0 e⟩
 | t::l,k,rg,σ,s,ht,ha,hR,hw,h0,hr,hp,hat=>by
  obtain ⟨t1,t2,t3⟩:=ht t (by simp);obtain ⟨a1,a2,a3⟩:=ha;have hwd:=h.f.words;have hWW:((b.words.toNat:Nat):Int)=b.words:=by omega
  rw[b3b];by_cases hf:fuel≤σ.st
  ·rw[if_pos hf];exact ⟨fun e=>absurd (show (5:Int)=0 from e) (by decide),fun _ e=>absurd rfl e⟩
  rw[if_neg hf];have hw1:WfB inp fuel b.words.toNat { σ with st:=σ.st+1 }:=⟨hw.n,hw.w,hw.o,hw.r,by show σ.st+1≤fuel;omega⟩
  obtain ⟨w1,w2,w3⟩:=b8Z hcp (by rw[hWW];exact t2) t3 hR hw1 h0;replace w3:σ.st+1≤_:=w3;simp only[List.flatMap_cons]at hat ⊢;rw[a7L]at hat;obtain ⟨b1,b2⟩:=hat.app;rw[b0v]at b2;have one:((opF call inp t rg { σ with st:=σ.st+1 }).2.en=0→∃ n s',n≤63*((opF call inp t rg { σ with st:=σ.st+1 }).2.st-σ.st)∧Mx (cdO b ls rw) inp n s s'∧s'.pc=((k+(a2e (cxO b ls j) t).length:Nat):Int)∧Rl (cxO b ls j) b.words.toNat (a1M b ls).toNat (fun u=>thru1 l u (M u)) (opF call inp t rg { σ with st:=σ.st+1 }).1 (opF call inp t rg { σ with st:=σ.st+1 }).2 s'∧FrJ b ls j j s s') ∧
   ((opF call inp t rg { σ with st:=σ.st+1 }).2.en≠0→(opF call inp t rg { σ with st:=σ.st+1 }).2.en≠5→∃ n s',n+1≤63*((opF call inp t rg { σ with st:=σ.st+1 }).2.st-σ.st)∧Mn (cdO b ls rw) inp n s (opF call inp t rg { σ with st:=σ.st+1 }).2.en s'∧s'.out=(opF call inp t rg { σ with st:=σ.st+1 }).2.out):=by
   by_cases e:t.op=10
   ·have hf8:a3L t j b.words:=t2.2.2.2.2.2.2.2;have eo:opF call inp t rg { σ with st:=σ.st+1 }=(rg,call t.base.toNat { σ with st:=σ.st+1 }):=by simp[opF,e]
    have ei:a2e (cxO b ls j) t=[jY 21 12 t.base (-1)]:=by simp[a2e,e]
    unfold a3L at hf8;simp only[e,Int.reduceEq,if_false,if_true,or_self]at hf8;obtain ⟨-,g0,g1,-⟩:=hf8;obtain ⟨i,hi⟩:∃ i:Nat,t.base=(i:Int):=⟨t.base.toNat,by omega⟩
    have hij:i<j:=by omega
    have hil:i<b.funcs.length:=by omega
    rw[hi,Int.toNat_natCast]at eo;rw[eo];rw[eo]at w2 w3;rw[ei]at b1 ⊢;rw[hi,show fxO b ls rw [jY 21 12 (i:Int) (-1)]=[⟨21,12,0,((b5J b ls rw i:Nat):Int)⟩] by
     rw[← c4i (ls:=ls) (rw:=rw) (by omega) hil];rfl]at b1
    have x1:=Mx.one (inp:=inp) b1 hp (c4k inp s 12 ((b5J b ls rw i:Nat):Int));have hr12:(upM s.rg (12:Int).toNat (s.pc+1)) 12=s.pc+1:=rfl;obtain ⟨c1,c2⟩:=hc i hij { σ with st:=σ.st+1 } { s with rg:=upM s.rg (12:Int).toNat (s.pc+1),pc:=((b5J b ls rw i:Nat):Int) } hw1 h0 ⟨hr.z,hr.w,hr.o,hr.d,hr.n⟩ rfl;refine ⟨fun e0=>?_,fun e0 e5=>?_⟩
    ·obtain ⟨n,s',q1,q2,q3,q4,q5⟩:=c1 e0;refine ⟨1+n,s',?_,x1.trans q2,?_,⟨q4.z,fun u hu hM=>?_,q4.w,q4.o,q4.d,q4.n⟩,fun a g2 g3=>?_⟩
     ·show 1+n≤63*((call i { σ with st:=σ.st+1 }).st-σ.st);replace w3:σ.st+1≤(call i { σ with st:=σ.st+1 }).st:=w3;replace q1:n≤63*((call i { σ with st:=σ.st+1 }).st-(σ.st+1))+62:=q1;omega
     ·rw[q3];show s.pc+1=_;rw[hp];simp
     ·have hneg:=a2 e u hu hM;have hin:=c4V h.f hj hu hneg;have hbk:=b5z h.f (j:=j+1) (by omega);have hms:=c2E h.f (show i+1≤j by omega) (by omega);have h0w:=b5z h.f (j:=j) (by omega);have hv:=hr.v u hu (by
       show bk1 t u (thru1 l u (M u))=true;exact a5Q hM (fun hs=>by simp[a0m,e]at hs) (fun hs=>by simp[a0m,e]at hs))
      rw[← hv];unfold b9A;rw[if_neg (by omega),if_neg (by omega)];exact q5 _ (by omega) (by omega)
     ·have hms:=c2E h.f (show i+1≤j+1 by omega) (by omega);exact q5 a (by omega) (fun g4=>g3 ⟨g4.1,by omega⟩)
    ·obtain ⟨n,s',q1,q2,q3⟩:=c2 e0 e5;refine ⟨1+n,s',?_,x1.end_ q2,q3⟩;show 1+n+1≤63*((call i { σ with st:=σ.st+1 }).st-σ.st);replace w3:σ.st+1≤(call i { σ with st:=σ.st+1 }).st:=w3;replace q1:n+1≤63*((call i { σ with st:=σ.st+1 }).st-(σ.st+1))+62:=q1;omega
   ·rw[a9M (c2D _ t e)]at b1;obtain ⟨c1,c2⟩:=c8l (call:=call) (M:=fun u=>thru1 l u (M u)) (c8n h.f hj) t1 (f:=j) (by rw[hWW];exact t2.2.2.2.2.2.2.2) e hR hw.n (σ:={ σ with st:=σ.st+1 }) h0 (hr.st _) a1 hp b1;have hst:=c8m call inp t rg { σ with st:=σ.st+1 } e;refine ⟨fun e0=>?_,fun e0 _=>?_⟩
    ·obtain ⟨n,s',q1,q2,q3,q4,q5⟩:=c1 e0;have:=b5z h.f (j:=j+1) (by omega);exact ⟨n,s',by rw[hst];simp only;omega,q2,q3,q4,q5.j (by omega)⟩
    ·obtain ⟨n,s',q1,q2,q3⟩:=c2 e0;exact ⟨n,s',by rw[hst];simp only;omega,q2,q3⟩
  generalize opF call inp t rg { σ with st:=σ.st+1 }=p at *
  by_cases e:p.2.en=0
  ·rw[if_pos e];obtain ⟨n,s1,q1,q2,q3,q4,q5⟩:=one.1 e;obtain ⟨k1,k2⟩:=c4W h hj hc hcp l _ p.1 p.2 s1 (fun t h=>ht t (by simp[h])) a3 w1 w2 e q4 q3 b2;have hws:=b3d hcp l p.1 p.2 (fun t h=>by have:=ht t (by simp[h]);rw[hWW];exact ⟨this.2.1,this.2.2⟩) w1 w2 e;refine ⟨fun e0=>?_,fun e0 e5=>?_⟩
   ·obtain ⟨m,s',r1,r2,r3,r4,r5⟩:=k1 e0;exact ⟨n+m,s',c9I (k:=0) q1 r1 (by omega) hws.2.2,q2.trans r2,by rw[r3,List.length_append,← Nat.add_assoc],r4,q5.trans r5⟩
   ·obtain ⟨m,s',r1,r2,r3⟩:=k2 e0 e5;exact ⟨n+m,s',c9I q1 r1 (by omega) hws.2.2,q2.end_ r2,r3⟩
  ·rw[if_neg e];exact ⟨fun e0=>absurd e0 e,fun _ e5=>one.2 e e5⟩
end
theorem c9U {a b c n m:Nat} (h1:n≤63*(b-a)) (h2:m≤3) (h3:a≤b) (h4:b+1≤c):n+m+63*(c-(b+1))≤63*(c-a):=by omega
theorem c4X (inp:ByteArray) (m:Mc) (c:Int):mI inp m ⟨18,0,0,c⟩=({ m with pc:=c },0):=by simp[mI]
theorem c9v (inp:ByteArray) (m:Mc) (a c:Int):mI inp m ⟨19,a,0,c⟩=({ m with pc:=if m.rg a.toNat=0 then c else m.pc+1 },0):=by simp[mI]
theorem c8o (inp:ByteArray) (m:Mc) (a c:Int):mI inp m ⟨20,a,0,c⟩=({ m with pc:=if m.rg a.toNat=0 then m.pc+1 else c },0):=by simp[mI]
theorem c6D (inp:ByteArray) (m:Mc) (a:Int):mI inp m ⟨22,a,0,0⟩=({ m with pc:=m.rg a.toNat },0):=by simp[mI]
theorem c4l (inp:ByteArray) (m:Mc):mI inp m ⟨26,0,0,0⟩=(m,1):=by simp[mI]
theorem Sm.pc {s s':Mc} (h:Sm s s') (p:Int):Sm s { s' with pc:=p }:=⟨h.r,h.m,h.o,h.d⟩
def ResO (b:BP) (ls:List (List Int)) (rw:Nat→List Bool) (inp:ByteArray) (j:Nat) (ret:Int) (K:Nat) (s:Mc) (σ':Bst):Prop :=
 (σ'.en=0→(j+1=b.funcs.length→∃ n s',n+1≤K∧Mn (cdO b ls rw) inp n s 1 s'∧s'.out=σ'.out) ∧
   (j+1<b.funcs.length→∃ n s',n≤K∧Mx (cdO b ls rw) inp n s s'∧s'.pc=ret∧BaO b.words.toNat (a1M b ls).toNat σ' s'∧FrJ b ls j j s s')) ∧
 (σ'.en≠0→σ'.en≠5→∃ n s',n+1≤K∧Mn (cdO b ls rw) inp n s σ'.en s'∧s'.out=σ'.out)
section
variable {b:BP} {ls:List (List Int)} {rw:Nat→List Bool} {inp:ByteArray} {fuel:Nat}
theorem ResO.step {j:Nat} {ret:Int} {n K K':Nat} {s s1:Mc} {σ':Bst} (h:ResO b ls rw inp j ret K s1 σ') (hx:Mx (cdO b ls rw) inp n s s1) (hf:FrJ b ls j j s s1) (hk:n+K≤K'):ResO b ls rw inp j ret K' s σ':=by
 refine ⟨fun e=>⟨fun hl=>?_,fun hl=>?_⟩,fun e e5=>?_⟩
 ·obtain ⟨m,s',h1,h2,h3⟩:=(h.1 e).1 hl;exact ⟨n+m,s',by omega,hx.end_ h2,h3⟩
 ·obtain ⟨m,s',h1,h2,h3,h4,h5⟩:=(h.1 e).2 hl;exact ⟨n+m,s',by omega,hx.trans h2,h3,h4,hf.trans h5⟩
 ·obtain ⟨m,s',h1,h2,h3⟩:=h.2 e e5;exact ⟨n+m,s',by omega,hx.end_ h2,h3⟩
theorem b5B (op a:Int) {j:Nat} (hn:1≤b.funcs.length) (hj:j<b.funcs.length) {to:Int} (ht:0≤to∧to<((fO b j).bks.length:Int)):fxO b ls rw [jY op a j to]=[⟨op,a,0,((stO b ls rw j to.toNat:Nat):Int)⟩]:=by
 rw[← c9T (ls:=ls) (rw:=rw) hn hj ht];rfl
theorem b3t (c:Cx) (v sp:Int):∀ y ∈ a0K c v sp,y.2=none:=fun y hy=>by
 unfold a0K at hy;split at hy
 ·cases hy
 ·rw[List.mem_singleton.1 hy];rfl
theorem c8p (h:OfH b ls rw) {j:Nat} (hj:j<b.funcs.length) {bk:Bk} {i k:Nat} (he:bk.e=1∨bk.e=2) (hE:a3F bk (fO b j).bks.length (fO b j).regs) {rg:List Int} {σ:Bst} {s:Mc} {X:Nat→Bool} (hr:Rl (cxO b ls j) b.words.toNat (a1M b ls).toNat (fun u=>a5o bk u (X u)) rg σ s)
 (hp:s.pc=k) (hat:At (cdO b ls rw) k (fxO b ls rw (b2m (cxO b ls j) bk (i+1:Nat)))) (hk:k+(b2m (cxO b ls j) bk (i+1:Nat)).length=stO b ls rw j (i+1)) :
 ∃ n s',n≤3∧Mx (cdO b ls rw) inp n s s'∧s'.pc=((stO b ls rw j (goB bk rg).toNat:Nat):Int)∧Sm s s':=by
 have hn:1≤b.funcs.length:=by omega
 have hpl:=h.f.pl hj;unfold b2m at hat hk;rcases he with e | e
 ·have hg:goB bk rg=bk.to:=by unfold goB;rw[if_neg (fun h=>by omega)]
  unfold a3F at hE;rw[if_pos e]at hE;rw[hg];simp only[e,if_true]at hat hk;by_cases e2:bk.to=((i+1:Nat):Int)
  ·rw[if_pos e2]at hat hk;rw[e2,Int.toNat_natCast,← hk];exact ⟨0,s,by omega,rfl,by rw[hp];rfl,Sm.refl s⟩
  ·rw[if_neg e2]at hat hk;rw[show (cxO b ls j).fn=j from rfl,b5B 18 0 hn hj ⟨hE.1,hE.2.1⟩]at hat;exact ⟨1,_,by omega,Mx.one hat hp (c4X inp s _),rfl,(Sm.refl s).pc _⟩
 ·unfold a3F at hE;rw[if_neg (by omega),if_pos e]at hE;have hv:0≤bk.v∧bk.v<(cxO b ls j).pl.length:=⟨hE.2.2.2.2.1,by rw[hpl.1];exact hE.2.2.2.2.2⟩
  have hMv:a5o bk bk.v.toNat (X bk.v.toNat)=true:=by
   unfold a5o;rw[if_pos ⟨e,by omega⟩]
  simp only[e,Int.reduceEq,if_true,if_false]at hat hk;by_cases e2:bk.to=((i+1:Nat):Int)
  ·rw[if_pos e2]at hat hk;rw[a7L,a9M (b3t _ _ _),show (cxO b ls j).fn=j from rfl,b5B 19 _ hn hj ⟨hE.2.2.1,hE.2.2.2.1⟩]at hat;rw[List.length_append]at hk;obtain ⟨n,s1,g1,g2,g3,g4,g5,g6,g7⟩:=a5d (inp:=inp) (c8n h.f hj) hr hv hMv ⟨by omega,by omega⟩ hat hp;have hmi:=c9v inp s1 (a0B (cxO b ls j) bk.v 9) ((stO b ls rw j bk.el.toNat:Nat):Int);rw[g5]at hmi;refine ⟨n+1,_,by omega,g2.trans (Mx.one g7 g3 hmi),?_,g4.pc _⟩;unfold goB;simp only[e,true_and];by_cases q:gR rg bk.v=0
   ·rw[if_pos q,if_pos q]
   ·rw[if_neg q,if_neg q,e2,Int.toNat_natCast,← hk,g3];simp only[List.length_cons,List.length_nil];omega
  ·rw[if_neg e2]at hat hk;simp only[List.append_assoc]at hat hk;rw[a7L,a7L,a9M (b3t _ _ _),show (cxO b ls j).fn=j from rfl,b5B 20 _ hn hj ⟨hE.1,hE.2.1⟩]at hat;rw[List.length_append,List.length_append]at hk;obtain ⟨n,s1,g1,g2,g3,g4,g5,g6,g7⟩:=a5d (inp:=inp) (c8n h.f hj) hr hv hMv ⟨by omega,by omega⟩ hat hp;obtain ⟨a1,a2⟩:=g7.app;have hmi:=c8o inp s1 (a0B (cxO b ls j) bk.v 9) ((stO b ls rw j bk.to.toNat:Nat):Int);rw[g5]at hmi;by_cases q:gR rg bk.v=0
   ·have hg:goB bk rg=bk.el:=by unfold goB;rw[if_pos ⟨e,q⟩]
    rw[if_pos q]at hmi;rw[hg];by_cases e3:bk.el=((i+1:Nat):Int)
    ·rw[if_pos e3]at hk;refine ⟨n+1,_,by omega,g2.trans (Mx.one a1 g3 hmi),?_,g4.pc _⟩;rw[e3,Int.toNat_natCast,← hk];simp only[List.length_cons,List.length_nil];rw[g3];omega
    ·rw[if_neg e3,b5B 18 0 hn hj ⟨hE.2.2.1,hE.2.2.2.1⟩]at a2;have x1:=Mx.one (inp:=inp) a1 g3 hmi;have x2:=Mx.one (inp:=inp) (s:={ s1 with pc:=s1.pc+1 }) a2 (by simp only[List.length_cons,List.length_nil];rw[g3];omega) (c4X inp _ _);exact ⟨n+(1+1),_,by omega,g2.trans (x1.trans x2),rfl,(g4.pc _).pc _⟩
   ·have hg:goB bk rg=bk.to:=by unfold goB;rw[if_neg (fun h=>q h.2)]
    rw[if_neg q]at hmi;rw[hg];exact ⟨n+1,_,by omega,g2.trans (Mx.one a1 g3 hmi),rfl,g4.pc _⟩
theorem Sm.frj {j m:Nat} {s s':Mc} (h:Sm s s'):FrJ b ls m j s s':=fun a _ _=>by rw[h.m]
theorem c4Y (h:OfH b ls rw) {j:Nat} (hj:j<b.funcs.length) {call:Nat→Bst→Bst} (hc:c4j b ls rw inp fuel call j) (hcp:b5h inp fuel b.words.toNat j call) {L:LD} (hL:ClosedP (fO b j) L) (hA:AllocP (fO b j) L (cxO b ls j).pl 8) {ret:Int} :
 ∀ (g i:Nat) (rg:List Int) (σ:Bst) (s:Mc),i<(fO b j).n→WfR (cxO b ls j).pl.length rg→WfB inp fuel b.words.toNat σ→σ.en=0→fuel<g+σ.st→Rl (cxO b ls j) b.words.toNat (a1M b ls).toNat (fun u=>L.I i u) rg σ s→s.pc=((stO b ls rw j i:Nat):Int) →
  (j+1<b.funcs.length→s.me.getD (bkP b ls+j).toNat default=ret)→ResO b ls rw inp j ret (63*((b7C call inp fuel (fO b j) g i rg σ).st-σ.st)) s (b7C call inp fuel (fO b j) g i rg σ)
 | 0,_,_,σ,_,_,_,hw,_,hg,_,_,_=>absurd hw.s (by omega)
 | g+1,i,rg,σ,s,hi,hR,hw,h0,hg,hr,hp,hb=>by
  have hn:1≤b.funcs.length:=by omega
  have hwd:=h.f.words;have hWW:((b.words.toNat:Nat):Int)=b.words:=by omega
  have hm:=BF.mem hi;have hpl:=h.f.pl hj;obtain ⟨hE,hT⟩:=h.f.parts hj _ hm;have hbk:(fO b j).bks.getD i default=(fO b j).bk i:=rfl;have hat:=c6C (ls:=ls) (rw:=rw) hn hj hi;unfold c0t at hat;rw[a7L]at hat;obtain ⟨a1,a2⟩:=hat.app;rw[b0v]at a2;have hsu:=c4g (b:=b) (ls:=ls) (rw:=rw) hi;unfold c0t at hsu;rw[List.length_append]at hsu;have hT2:∀ t ∈ ((fO b j).bk i).ins,FitsT t j (cxO b ls j).pl.length b.words.toNat∧a1b t.n:=fun t ht=>by
   rw[hpl.1,hWW];exact ⟨hT t ht,h.n _ (a0q hj) _ hm t ht⟩
  have hfine:=(h.f.few.fine hj).1;obtain ⟨k1,k2⟩:=c4W h hj hc hcp (M:=fun u=>a5o ((fO b j).bk i) u (L.O i u)) ((fO b j).bk i).ins (stO b ls rw j i) rg σ s (fun t ht=>⟨h.f.insOk h.n hj hm ht,by have:=(hT2 t ht).1;rw[hWW]at this;exact this,(hT2 t ht).2⟩)
   (c4U _ (fun q hq hs u hu h1 h2=>hA.st i hi q hq hs u (by rw[← hpl.2];exact hu) h1 h2) (fun q hq hs u hu h1=>hA.ca i hi q hq hs u (by rw[← hpl.2];exact hu) h1)) hR hw h0
   (hr.mono fun u hu hM=>hL.cl.ahead i hi u (by rw[← hpl.2];exact hu) hM) hp a1
  obtain ⟨w1,w2,w3⟩:=b3d hcp ((fO b j).bk i).ins rg σ hT2 hR hw h0;rw[b3c,hbk];generalize a5p call inp fuel ((fO b j).bk i).ins rg σ=p at *
  by_cases e:p.2.en=0
  ·rw[if_pos e];by_cases e2:fuel≤p.2.st
   ·rw[if_pos e2];exact ⟨fun e=>absurd (show (5:Int)=0 from e) (by decide),fun _ e=>absurd rfl e⟩
   rw[if_neg e2];obtain ⟨n,s1,q1,q2,q3,q4,q5⟩:=k1 e;have hbks:=b5z h.f (j:=j+1) (by omega);have hb1:j+1<b.funcs.length→s1.me.getD (bkP b ls+j).toNat default=ret:=fun hl=>by
    rw[← hb hl];exact q5 _ (by omega) (by omega)
   by_cases e3:((fO b j).bk i).e=3
   ·rw[if_pos e3];have eY:b2m (cxO b ls j) ((fO b j).bk i) (i+1:Nat)=if (j:Int)=(b.funcs.length:Int)-1 then [pY 26 0 0 0] else [pY 16 12 0 (bkP b ls+j),pY 22 12 0 0]:=by
     unfold b2m;simp only[e3,Int.reduceEq,if_true,if_false];rfl
    rw[eY]at a2;refine ⟨fun _=>⟨fun hl=>?_,fun hl=>?_⟩,fun e4=>absurd e e4⟩
    ·rw[if_pos (by omega)]at a2;refine ⟨n+0,s1,?_,q2.end_ (Mn.one a2 q3 (c4l inp s1) (by decide)),q4.o⟩;simp only;omega
    ·rw[if_neg (by omega)]at a2;obtain ⟨c1,c2⟩:=At.app (l:=[_]) (m:=[_]) a2;have hz:s1.rg (0:Int).toNat=0:=q4.z;have hN:=q4.n;have hd:=b5A b ls;have hmi:=c2x inp s1 12 0 (bkP b ls+j) (by rw[hz];have:=(c8n h.f hj).le;omega) (by rw[hz];omega);rw[hz,Int.zero_add,hb1 hl]at hmi;have x1:=Mx.one (inp:=inp) c1 q3 hmi;have x2:=Mx.one (inp:=inp) (s:=stM s1 12 ret) c2 (by simp only[stM,List.length_cons,List.length_nil];rw[q3];omega) (c6D inp _ 12);refine ⟨n+(1+1),_,?_,q2.trans (x1.trans x2),rfl,⟨q4.z,q4.w,q4.o,q4.d,q4.n⟩,fun a g1 g2=>q5 a g1 g2⟩;simp only;omega
   ·rw[if_neg e3];have he:((fO b j).bk i).e=1∨((fO b j).bk i).e=2:=by
     have:=((h.f.fn h.n hj).ins _ hm).2.1;omega
    obtain ⟨n2,s2,r1,r2,r3,r4⟩:=c8p (inp:=inp) h hj (i:=i) he hE q4 q3 a2 (by rw[hsu];omega);have hgo:=c4L hE e3 p.1;have hnx:goB ((fO b j).bk i) p.1 ∈ nxt ((fO b j).bk i):=by
     unfold goB nxt;rcases he with e4 | e4
     ·simp[e4]
     ·simp only[e4,true_and,Int.reduceEq,if_false,if_true];split<;>simp
    have hgn:(goB ((fO b j).bk i) p.1).toNat<(fO b j).n:=by unfold BF.n;omega
    have hw':WfB inp fuel b.words.toNat { p.2 with st:=p.2.st+1 }:=⟨w2.n,w2.w,w2.o,w2.r,by show p.2.st+1≤fuel;omega⟩
    have hcx:=(h.f.cx hj).ok;have hrr:=(q4.sm hcx r4).st (p.2.st+1);have key:=c4Y h hj hc hcp hL hA (ret:=ret) g (goB ((fO b j).bk i) p.1).toNat p.1 { p.2 with st:=p.2.st+1 } s2 hgn w1 hw' e (by show fuel<g+(p.2.st+1);omega)
     (hrr.mono fun u hu hM=>by
       show a5o _ u (L.O i u)=true;unfold a5o;split
       ·rfl
       ·exact hL.cl.way i hi _ hnx u (by rw[← hpl.2];exact hu) hM) r3 (fun hl=>by rw[r4.m];exact hb1 hl)
    have hmono:=(b8d hcp hfine.r0 (fun k hk=>⟨(h.f.parts hj k hk).1,fun t ht=>by rw[hWW];exact ⟨(h.f.parts hj k hk).2 t ht,h.n _ (a0q hj) k hk t ht⟩⟩) g (goB ((fO b j).bk i) p.1).toNat p.1 { p.2 with st:=p.2.st+1 } hgn (by have:(fO b j).regs.toNat=(cxO b ls j).pl.length:=hpl.2.symm;show WfR (fO b j).regs.toNat p.1;rw[this];exact w1) hw' e).2;replace hmono:p.2.st+1≤(b7C call inp fuel (fO b j) g (goB ((fO b j).bk i) p.1).toNat p.1 { p.2 with st:=p.2.st+1 }).st:=hmono;exact key.step (q2.trans r2) (q5.trans r4.frj) (c9U q1 r1 w3 hmono)
  ·rw[if_neg e];exact ⟨fun e0=>absurd e0 e,fun _ e5=>k2 e e5⟩
theorem c2F (n d:Nat):sR (List.replicate n 0) (d:Int) 0=List.replicate n 0:=by
 unfold sR;refine List.ext_getElem (by simp) fun i h1 h2=>?_;rw[List.getElem_set];split<;>simp
theorem b9C {code:List Ci} {c:Cx} {k W E N:Nat} {s:Mc} {σ:Bst} {row:List Bool} (hm:MemOk c W E N) (hap:∀ u<c.pl.length,∀ v<c.pl.length,u≠v→gB row u=true→gB row v=true→gP c.pl u≠gP c.pl v) (hb:BaO W N σ s) (hp:s.pc=k) :
 ∀ m≤c.pl.length,At code k ((a2f c row m).map (·.1))→∃ n s',n≤2*m∧Mx code inp n s s'∧s'.pc=((k+(a2f c row m).length:Nat):Int)∧Rl c W N (fun u=>decide (u<m) && gB row u) (List.replicate c.pl.length 0) σ s'∧FrM E s s'
 | 0,_,_=>⟨0,s,Nat.le_refl _,rfl,by rw[hp];simp[a2f],⟨hb.z,fun u hu h=>by simp at h,hb.w,hb.o,hb.d,hb.n⟩,FrM.refl E s⟩
 | m+1,hml,hat=>by
  rw[a8U,List.map_append]at hat;obtain ⟨a1,a2⟩:=hat.app;rw[List.length_map]at a2;obtain ⟨n,s1,q1,q2,q3,q4,q5⟩:=b9C hm hap hb hp m (by omega) a1;rw[a8U,List.length_append];unfold a9H at a2 ⊢;by_cases e:gB row m=true
  ·rw[if_pos e]at a2 ⊢;have hpm:=hm.cs.ok.pv m (by omega);have hcp:c.p (m:Int)=gP c.pl m:=by unfold Cx.p;rw[Int.toNat_natCast]
   have hM:∀ u<c.pl.length,(decide (u<m+1) && gB row u)=true→u≠((m:Nat):Int).toNat→(decide (u<m) && gB row u)=true:=fun u hu h1 h2=>by
    rw[Bool.and_eq_true,decide_eq_true_eq]at h1 ⊢;exact ⟨by omega,h1.2⟩
   have hapm:∀ u<c.pl.length,(decide (u<m+1) && gB row u)=true→u≠((m:Nat):Int).toNat→gP c.pl u≠gP c.pl ((m:Nat):Int).toNat:=fun u hu h1 h2=>by
    rw[Bool.and_eq_true,decide_eq_true_eq]at h1;rw[Int.toNat_natCast]at h2 ⊢;exact hap u hu m (by omega) h2 h1.2 e
   by_cases h0:0<c.p (m:Int)
   ·rw[if_pos h0]at a2 ⊢;have x1:=Mx.one (inp:=inp) a2 q3 (c6s inp s1 (c.p (m:Int)) 0 0);have hk0:a1z c (m:Int) (c.p (m:Int))=[]:=by unfold a1z;rw[if_neg (by omega)]
    obtain ⟨n2,s',g1,g2,g3,g4,g5⟩:=b0u (code:=code) (inp:=inp) (k:=k+(a2f c row m).length+1) (s1:=stM s1 (c.p (m:Int)) 0) (M:=fun u=>decide (u<m+1) && gB row u) (σ':=σ) hm q4 (d:=(m:Int)) (r:=c.p (m:Int)) (x:=0) ⟨by omega,by omega⟩ (by simp) hM hapm (by simp[stM,upM]) (fun _=>rfl) (fun j hj hne=>by simp only[stM,upM];rw[if_neg (hne h0)]) rfl rfl q4.o q4.d (by rw[hk0];intro i hi;simp at hi) (by simp only[stM];rw[q3];omega);rw[c2F]at g4;rw[hk0]at g3;exact ⟨n+(1+n2),s',by omega,q2.trans (x1.trans g2),by rw[g3];simp only[List.length_cons,List.length_nil];omega,g4,q5.trans (FrM.trans (fun a ha=>rfl) g5)⟩
   ·rw[if_neg h0]at a2 ⊢;obtain ⟨n2,s',g1,g2,g3,g4,g5⟩:=b0u (code:=code) (inp:=inp) (k:=k+(a2f c row m).length) (s1:=s1) (M:=fun u=>decide (u<m+1) && gB row u) (σ':=σ) hm q4 (d:=(m:Int)) (r:=0) (x:=0) ⟨by omega,by omega⟩ (by simp) hM hapm q4.z (fun h1=>absurd h1 h0) (fun j hj hne=>rfl) rfl rfl q4.o q4.d a2 q3;rw[c2F]at g4;exact ⟨n+n2,s',by omega,q2.trans g2,by rw[g3];omega,g4,q5.trans g5⟩
  ·rw[if_neg e];refine ⟨n,s1,by omega,q2,by rw[q3];rfl,q4.mono fun u hu h1=>?_,q5⟩;rw[Bool.and_eq_true,decide_eq_true_eq]at h1 ⊢;refine ⟨?_,h1.2⟩;have:u≠m:=fun e2=>e (e2▸h1.2);omega
end
section
variable {b:BP} {ls:List (List Int)} {rw:Nat→List Bool} {inp:ByteArray} {fuel:Nat}
theorem b8w (c:Cx) (row:List Bool) (m:Nat):∀ y ∈ a2f c row m,y.2=none:=fun y hy=>by
 unfold a2f at hy;obtain ⟨v,_,hy⟩:=List.mem_flatMap.1 hy;unfold a9H at hy;split at hy
 ·split at hy
  ·rw[List.mem_singleton.1 hy];rfl
  ·unfold a1z at hy;split at hy
   ·rw[List.mem_singleton.1 hy];rfl
   ·cases hy
 ·cases hy
theorem c2G (h:OfH b ls rw) {j:Nat} (hj:j<b.funcs.length) {call:Nat→Bst→Bst} (hc:c4j b ls rw inp fuel call j) (hcp:b5h inp fuel b.words.toNat j call) {σ:Bst} {s:Mc} (hw:WfB inp fuel b.words.toNat σ) (h0:σ.en=0) (hb:BaO b.words.toNat (a1M b ls).toNat σ s) (hp:s.pc=((b5J b ls rw j:Nat):Int)) :
 ∃ n s1,n≤61∧Mx (cdO b ls rw) inp n s s1∧FrJ b ls (j+1) j s s1∧ResO b ls rw inp j (s.rg 12) (63*((b7C call inp fuel (fO b j) (fuel+1) 0 (List.replicate (fO b j).regs.toNat 0) σ).st-σ.st)) s1 (b7C call inp fuel (fO b j) (fuel+1) 0 (List.replicate (fO b j).regs.toNat 0) σ):=by
 have hn:1≤b.funcs.length:=by omega
 have hpl:=h.f.pl hj;obtain ⟨hfine,hr30,-⟩:=h.f.few.fine hj;obtain ⟨L0,hL0,hA0⟩:=h.f.hold.al j hj;obtain ⟨L,hL,hrow⟩:=h.r j hj;have hb0:0<(fO b j).n:=List.length_pos_iff.2 hfine.b0;have hrl:(rw j).length=(fO b j).r:=by rw[hrow];exact hL.cl.sz.il hb0
 have hregs:(fO b j).regs.toNat=(cxO b ls j).pl.length:=hpl.2.symm;have hI:∀ u<(fO b j).r,gB (rw j) u=L0.I 0 u:=fun u hu=>by
  have e1:gB (rw j) u=L.I 0 u:=by rw[hrow];rfl
  rw[e1];have m1:=(hL.min _ _ hL0.cl.cl 0 hb0 u hu).1;have m2:=(hL0.min _ _ hL.cl.cl 0 hb0 u hu).1;cases x1:L.I 0 u<;>cases x2:L0.I 0 u<;>simp_all
 have hmo:=c8n h.f hj;have hwd:=h.f.words;have hbks:=b5z h.f (j:=j+1) (by omega);have hws:=b5z h.f (j:=j) (by omega);have hat:=c4f (ls:=ls) (rw:=rw) hn hj;have hst:=c4h (b:=b) (ls:=ls) (rw:=rw) j;unfold a3M at hat hst;rw[a7L,a9M (b8w _ _ _)]at hat;obtain ⟨a1,a2⟩:=hat.app;rw[b0v]at a2;rw[List.length_append]at hst;have first:∃ n s1,n≤1∧Mx (cdO b ls rw) inp n s s1∧s1.pc=((b5J b ls rw j+(if ((cxO b ls j).fn:Int)=((cxO b ls j).b.funcs.length:Int)-1 then ([]:List Sy) else [pY 17 12 0 ((cxO b ls j).back+(cxO b ls j).fn)]).length:Nat):Int)∧BaO b.words.toNat (a1M b ls).toNat σ s1∧FrJ b ls (j+1) j s s1∧(j+1<b.funcs.length→s1.me.getD (bkP b ls+j).toNat default=s.rg 12):=by
  by_cases hl:(j:Int)=(b.funcs.length:Int)-1
  ·have hl':((cxO b ls j).fn:Int)=((cxO b ls j).b.funcs.length:Int)-1:=hl;rw[if_pos hl'];exact ⟨0,s,by omega,rfl,by rw[hp];simp,hb,FrJ.refl _ _ _ _ _,fun e=>by omega⟩
  ·have hl':¬ ((cxO b ls j).fn:Int)=((cxO b ls j).b.funcs.length:Int)-1:=hl;rw[if_neg hl']at a1 ⊢;have hz:s.rg (0:Int).toNat=0:=hb.z;have hN:=hb.n;have hd:=b5A b ls;have hmi:=c4c inp s 12 0 (bkP b ls+j) (by rw[hz];have:=hmo.le;omega) (by rw[hz];omega);rw[hz,Int.zero_add]at hmi;refine ⟨1,_,by omega,Mx.one (i:=⟨17,12,0,bkP b ls+j⟩) a1 hp hmi,by simp[hp],⟨hb.z,fun a ha=>?_,hb.o,hb.d,by simp only[List.length_set];exact hN⟩,fun a g1 g2=>?_,fun _=>?_⟩
   ·simp only;rw[a9L (by omega)];exact hb.w a ha
   ·simp only;rw[a9L (by omega)]
   ·simp only;rw[a7U (by omega)];rfl
 obtain ⟨n,s1,q1,q2,q3,q4,q5,q6⟩:=first
 obtain ⟨n2,s2,r1,r2,r3,r4,r5⟩:=b9C (inp:=inp) (row:=rw j) hmo (fun u hu v hv hne e1 e2=>by
  rw[hpl.2]at hu hv;exact hA0.ap u hu v hv hne (by rw[← hI u hu];exact e1) (by rw[← hI v hv];exact e2)) q4 q3 (rw j).length (by rw[hrl,hpl.2];exact Nat.le_refl _) a2
 have hRr:WfR (cxO b ls j).pl.length (List.replicate (fO b j).regs.toNat 0):=by rw[hregs];exact b6Q _
 have hr2:(fO b j).r≤30:=hr30;refine ⟨n+n2,s2,by omega,q2.trans r2,q5.trans (r5.j (by omega)),?_⟩;refine c4Y h hj hc hcp hL0.cl hA0 (fuel+1) 0 _ σ s2 hb0 hRr hw h0 (by omega) ?_ (by rw[r3,hst];omega) fun hl=>?_
 ·rw[hregs];refine r4.mono fun u hu hM=>?_;rw[Bool.and_eq_true,decide_eq_true_eq];rw[hpl.2]at hu;exact ⟨by rw[hrl];exact hu,by rw[hI u hu];exact hM⟩
 ·rw[← q6 hl];exact r5 _ (by omega)
theorem c0A (h:OfH b ls rw):FnsOk b.funcs b.words.toNat:=by
 have hwd:=h.f.words;refine ⟨fun i hi=>?_,fun f hf k hk=>?_,fun f hf k hk t ht=>h.n f hf k hk t ht⟩
 ·rw[show ((b.words.toNat:Nat):Int)=b.words by omega];exact (h.f.few.fine hi).2.2
 ·obtain ⟨i,hi,rfl⟩:=List.getElem_of_mem hf;have:=(h.f.few.fine hi).1.len k (by simpa [List.getD,hi] using hk);omega
theorem c4Z (h:OfH b ls rw):∀ k,k+1≤b.funcs.length→c4j b ls rw inp fuel (b8Y b.funcs inp fuel k) k
 | 0,_=>fun j hj=>absurd hj (Nat.not_lt_zero j)
 | k+1,hk=>fun j hj σ s hw h0 hb hp=>by
  have hcp:=a8R (inp:=inp) (fuel:=fuel) (c0A h) k (by omega);have hc:=c4Z h k (by omega);obtain ⟨n,s1,q1,q2,q3,q4⟩:=c2G h (j:=j) (by omega) (fun i hi=>hc i (by omega)) (fun i hi=>hcp i (by omega)) hw h0 hb hp;have e:b8Y b.funcs inp fuel (k+1) j σ=b7C (b8Y b.funcs inp fuel k) inp fuel (fO b j) (fuel+1) 0 (List.replicate (fO b j).regs.toNat 0) σ:=rfl;rw[e];refine ⟨fun e0=>?_,fun e0 e5=>?_⟩
  ·obtain ⟨m,s',r1,r2,r3,r4,r5⟩:=(q4.1 e0).2 (by omega);exact ⟨n+m,s',by omega,q2.trans r2,r3,r4,q3.trans (r5.mono (by omega) (Int.le_refl _))⟩
  ·obtain ⟨m,s',r1,r2,r3⟩:=q4.2 e0 e5;exact ⟨n+m,s',by omega,q2.end_ r2,r3⟩
theorem c0B (h:OfH b ls rw) (h5:(b3P b inp fuel).en≠5):∃ n s',n+1≤64*((b3P b inp fuel).st+1)∧Mn (cdO b ls rw) inp n ⟨0,fun _=>0,List.replicate (a1M b ls).toNat 0,0,[]⟩ (b1I b inp fuel).en s'∧s'.out=(b3P b inp fuel).out:=by
 have hwd:=h.f.words;have hd:=b5A b ls;have hbk:=b5z h.f (j:=0) (by omega);have hcp:=a8R (inp:=inp) (fuel:=fuel) (c0A h) (b.funcs.length-1) (by omega);have hc:=c4Z (inp:=inp) (fuel:=fuel) h (b.funcs.length-1) (by omega);have hw:WfB inp fuel b.words.toNat (b1Y b):=⟨by simp[b1Y],fun x hx=>by rw[(List.mem_replicate.1 hx).2];exact ⟨by omega,by omega⟩,by simp[b1Y],Nat.zero_le _,Nat.zero_le _⟩
 have hb:BaO b.words.toNat (a1M b ls).toNat (b1Y b) ⟨0,fun _=>0,List.replicate (a1M b ls).toNat 0,0,[]⟩:=by
  refine ⟨rfl,fun a ha=>?_,rfl,rfl,by simp⟩;show (List.replicate (a1M b ls).toNat (0:Int)).getD a default=(List.replicate b.words.toNat (0:Int)).getD a default;rw[List.getD,List.getD,List.getElem?_replicate,List.getElem?_replicate,if_pos (by omega),if_pos ha]
 obtain ⟨n,s1,q1,q2,q3,q4⟩:=c2G h (j:=b.funcs.length-1) (by omega) (fun i hi=>hc i (by omega)) (fun i hi=>hcp i (by omega)) hw rfl hb (by rw[c2C (by omega)];rfl);have e:b3P b inp fuel=b7C (b8Y b.funcs inp fuel (b.funcs.length-1)) inp fuel (fO b (b.funcs.length-1)) (fuel+1) 0 (List.replicate (fO b (b.funcs.length-1)).regs.toNat 0) (b1Y b):=by
  have:∀ k,b8Y b.funcs inp fuel (k+1) k (b1Y b)=b7C (b8Y b.funcs inp fuel k) inp fuel (fO b k) (fuel+1) 0 (List.replicate (fO b k).regs.toNat 0) (b1Y b):=fun k=>rfl;rw[← this];unfold b3P;congr 1;omega
 rw[← e]at q4;have hst:(b1Y b).st=0:=rfl;rw[hst]at q4;unfold b1I;by_cases e0:(b3P b inp fuel).en=0
 ·obtain ⟨m,s',r1,r2,r3⟩:=(q4.1 e0).1 (by omega);simp only[if_pos e0];exact ⟨n+m,s',by omega,q2.end_ r2,r3⟩
 ·obtain ⟨m,s',r1,r2,r3⟩:=q4.2 e0 h5;simp only[if_neg e0];exact ⟨n+m,s',by omega,q2.end_ r2,r3⟩
end
end Go.Proofs.YtkbhfokbhkmfgaaGreat
